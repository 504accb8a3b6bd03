/- Part of the proofs that the laws of the journal return true for every input: L51. -/
import Derived.Test.YtiddnjgnjmdobaaGreatDoorL38a
import Derived.Test.YtiddnjgnjmdobaaGreatDoorL46
import Derived.Test.YtiddnjgnjmdobaaGreatDoorL37
import Derived.Test.YtiddnjgnjmdobaaGreatDoorS4
import Derived.Test.YtiddnjgnjmdobaaGreatDoorL45
set_option linter.unusedVariables false
set_option linter.unusedSimpArgs false
set_option linter.all false
/-! L51: JournalReads: the walk. -/
namespace Go.Sx
open Go.Proofs Go.RowKit
attribute [local irreducible] Run RunL RunD OpT SLe0 SLe OLe
set_option maxHeartbeats 2000000
set_option maxRecDepth 8000
set_option linter.unusedSimpArgs false
set_option linter.unusedVariables false
theorem K32b : FnOK Tryz.prog 32 (fun ds d => ∃ (a c : Int) (w s : ByteArray), (0 ≤ a ∧ a < 65536 ∧ 0 ≤ c ∧ c < 256 ∧ s.size ≤ 1000000000 ∧ w.size ≤ 140737488351232) ∧ ds = [.agg [.int .u16 a, .int .u8 c, .str w], .str s] ∧ d = .str (chD a c w s)) := by
  refine fn_intro Tryz.call32 Tryz.func32 rfl Tryz.ntmps32 ?_
  rintro ds d ⟨a, c, w, s, hh, rfl, rfl⟩
  refine ⟨by simp, fun w0 => ?_⟩
  obtain ⟨h1, h2, h3, h4, h5, h6⟩ := hh
  have w1 : IntKind.i64.wrap a = a := by rw [w64]; omega
  have w2 : IntKind.i64.wrap c = c := by rw [w64]; omega
  have w3 : IntKind.i64.wrap ((s.size : Int) + 1) = (s.size : Int) + 1 := by rw [w64]; omega
  have e1 : a.tmod ((s.size : Int) + 1) = a % ((s.size : Int) + 1) := Int.tmod_eq_emod_of_nonneg h1
  have e2 : c.tmod 6 = c % 6 := Int.tmod_eq_emod_of_nonneg h3
  have b1 := Int.emod_nonneg a (show (s.size : Int) + 1 ≠ 0 by omega)
  have b2 := Int.emod_lt_of_pos a (show 0 < (s.size : Int) + 1 by omega)
  have w4 : IntKind.i64.wrap (a % ((s.size : Int) + 1) + c % 6) = a % ((s.size : Int) + 1) + c % 6 := by rw [w64]; omega
  have m1 : (if (20 : Int) < w.size then (20 : Int) else w.size) = min (w.size : Int) 20 := by split <;> omega
  have m2 : (if a % ((s.size : Int) + 1) + c % 6 < s.size then a % ((s.size : Int) + 1) + c % 6 else (s.size : Int)) = min (s.size : Int) (a % ((s.size : Int) + 1) + c % 6) := by split <;> omega
  repeat' (first | apply run_seq | apply run_region | apply run_draw | apply runL_nil | refine runxP (by simp only [go_sem, w1, w2, w3]; rfl) (by rfl) ?_ ?_ | refine runDqP (by simp only [go_sem, w1, w2, w3]; rfl) (by rfl) ?_ ?_ | refine runD_end (by kernel_rfl) (by kernel_rfl) ?_ | refine run_ret (by rfl) ?_ | exact True.intro | exact rfl | refine SLe0.str ?_ | (show allP _; first | exact True.intro | (simp only [allP, go_sem, Bool.not_eq_true', Bool.not_eq_false', implies_true, true_and, and_true, and_self, imp_self]; done) | (simp [allP, go_sem]; done) | (simp [allP, go_sem] at *; first | done | assumption | omega | (simp_all; done)) | (simp only [allP, go_sem]; intros; simp_all; done) | (simp only [allP, go_sem, ByteArray.size_append, size_mk, List.size_toArray, List.length_append, List.length_cons, List.length_nil, and_true, true_and]; (repeat' apply And.intro) <;> omega)))
  · rw [e1, e2, w4, m1, m2]
    simp only [allP, ByteArray.size_extract]
    generalize a % ((s.size : Int) + 1) = q at *
    refine ⟨?_, ?_, ?_, ?_, ?_, ?_, ?_, ?_, ?_, ?_⟩ <;> first | trivial | omega
  · rw [e1, e2, w4, m1, m2, chD]
theorem chD_size (a c : Int) (w s : ByteArray) : (chD a c w s).size ≤ 2 * s.size + 20 := by
  unfold chD
  rw [ByteArray.size_append, ByteArray.size_append, ByteArray.size_extract, ByteArray.size_extract, ByteArray.size_extract]; omega
theorem K15w : FnM Tryz.prog 15 (fun ds os d os' => ∃ s : ByteArray, s.size ≤ 400000000 ∧ ds = [.loc 1000 0, .str s] ∧ os = [eDk (wk ByteArray.empty)] ∧ d = .bool true ∧ os' = [(1000, eDk ⟨s, (s.size : Int), false, false, 0⟩)]) := by
  refine K15.weaken ?_
  rintro ds os d os' ⟨s, hs, rfl, rfl, rfl, rfl⟩
  have w : IntKind.i64.wrap ((0 : Int) + (s.size : Int)) = (s.size : Int) := by rw [w64]; omega
  have e : wrD (wk ByteArray.empty) s = ⟨s, (s.size : Int), false, false, 0⟩ := by
    simp only [wrD, wOk, wDk, wk, Bool.not_false, Bool.true_and, Bool.false_and, cond_true, cond_false, eapp, w]
  exact ⟨wk ByteArray.empty, s, by simp [wk]; omega, rfl, rfl, rfl, by rw [e]⟩
theorem K30b : FnM Tryz.prog 30 (fun ds os d os' => ∃ (l : Lg) (k : Dk), True ∧ ds = [.loc 1000 0] ∧ os = [eLg 1001 l, eDk k] ∧ d = eInt l.n ∧ os' = [(1000, eLg 1001 l), (1001, eDk k)]) := by
  refine fn_introM Tryz.call30 Tryz.func30 rfl Tryz.ntmps30 ?_
  rintro ds os d os' ⟨l, k, -, rfl, rfl, rfl, rfl⟩
  refine ⟨by simp, fun F w0 => ?_⟩
  repeat' (first | apply run_seq | apply run_skip | apply run_region | apply runL_nil | refine runxP (by simp only [go_sem]; rfl) (by rfl) ?_ ?_ | (refine run_cond (by simp only [go_sem]; rfl) ?_ ?_ <;> intro hb <;> have hc := hb <;> (try simp only [decide_eq_true_eq, decide_eq_false_iff_not, Int.not_lt, Int.not_le, Int.ofNat_lt, Int.ofNat_le, Bool.and_eq_true, Bool.or_eq_true, Bool.or_eq_false_iff, Bool.not_eq_true', Bool.not_eq_false', beq_iff_eq, beq_eq_false_iff_ne, bne_iff_ne, bne_eq_false_iff_eq] at hc) <;> (try (exfalso; simp at hc; done))) | refine run_retM (by rfl) (by simp only [go_sem]; rfl) ?_ ?_ | exact True.intro | exact rfl | exact SLe.refl _ | (show subO _ _; simp only [go_sem]; repeat' (first | exact trivial | exact True.intro | exact SLe.refl _ | exact OLe.refl _ | exact ⟨_, rfl, OLe.refl _⟩ | refine ⟨_, rfl, ?_⟩ | refine OLe.var ?_ | (show SLeL _ _; refine ⟨?_, ?_⟩) | (show SLeL [] []; exact True.intro) | (refine SLe.int ?_; rw [w64]; omega) | refine SLe.int ?_ | refine SLe.bool ?_ | apply And.intro)) | (show allP _; first | exact True.intro | (simp only [allP, go_sem, Bool.not_eq_true', Bool.not_eq_false', implies_true, true_and, and_true, and_self, imp_self]; done) | (simp [allP, go_sem]; done) | (simp [allP, go_sem] at *; first | done | assumption | omega | (simp_all; done)) | (simp only [allP, go_sem]; intros; simp_all; done) | (simp only [allP, go_sem, ByteArray.size_append, size_mk, List.size_toArray, List.length_append, List.length_cons, List.length_nil, and_true, true_and]; (repeat' apply And.intro) <;> omega)))
/-- Both opens, at a disk that is written and not synced. -/
def dkU (t : ByteArray) : Dk := ⟨t, (t.size : Int), false, false, 0⟩
theorem dkU_ok (t : ByteArray) : opOk (dkU t) = true := by simp [opOk, dkU, puOk, wOk, wrD, wDk]
theorem dkU_t (t : ByteArray) (_h : t.size ≤ 100000) : (opD (dkU t)).t = enD t := by
  unfold opD enD
  cases hl : lastN t
  · simp [dkU, hl]
  · have : lastN (dkU t).t = true := hl
    rw [this, cond_true, cond_true]
    simp [puD, dkU, wOk, wrD, wDk, syD]
theorem K22u : FnM Tryz.prog 22 (fun ds os d os' => ∃ (y : ByteArray) (k' : Dk) (r : List ByteArray), (y.size ≤ 100000 ∧ opD (dkU y) = k' ∧ (recs [] (L k'.t)).map B = r) ∧ ds = [.loc 1000 0] ∧ os = [eDk ⟨y, (y.size : Int), false, false, 0⟩] ∧ d = .tup [.loc 0 0, strs r] ∧ os' = [(1000, eDk k'), (0, eLg 1000 ⟨(r.length : Int), false⟩)]) := by
  refine K22t.weaken ?_
  rintro ds os d os' ⟨y, k', r, ⟨h1, rfl, rfl⟩, rfl, rfl, rfl, rfl⟩
  exact ⟨dkU y, ⟨by show y.size ≤ _; omega, dkU_ok y⟩, rfl, rfl, rfl, by rw [List.length_map]⟩
theorem K23u : FnM Tryz.prog 23 (fun ds os d os' => ∃ (y : ByteArray) (k' : Dk) (r : List ByteArray), (y.size ≤ 100000 ∧ opD (dkU y) = k' ∧ (recs [] (L k'.t)).map B = r) ∧ ds = [.loc 1000 0] ∧ os = [eDk ⟨y, (y.size : Int), false, false, 0⟩] ∧ d = .tup [.loc 0 0, strs r] ∧ os' = [(1000, eDk k'), (0, eLg 1000 ⟨(r.length : Int), false⟩)]) := by
  refine K23t.weaken ?_
  rintro ds os d os' ⟨y, k', r, ⟨h1, rfl, rfl⟩, rfl, rfl, rfl, rfl⟩
  exact ⟨dkU y, ⟨by show y.size ≤ _; omega, dkU_ok y⟩, rfl, rfl, rfl, by rw [List.length_map]⟩
set_option maxHeartbeats 20000000
theorem K4 : FnOK Tryz.prog 4 (fun ds d => ∃ (l : List ByteArray) (a1 c1 a2 c2 : Int) (w1 w2 raw : ByteArray), (l.length ≤ 17592186044416 ∧ (0 ≤ a1 ∧ a1 < 65536 ∧ 0 ≤ c1 ∧ c1 < 256 ∧ w1.size ≤ 140737488351232) ∧ (0 ≤ a2 ∧ a2 < 65536 ∧ 0 ≤ c2 ∧ c2 < 256 ∧ w2.size ≤ 140737488351232) ∧ raw.size ≤ 140737488351232) ∧
    ds = [strs l, .agg [.int .u16 a1, .int .u8 c1, .str w1, .int .u16 a2, .int .u8 c2, .str w2], .str raw] ∧ d = .bool true) := by
  refine fn_intro Tryz.call4 Tryz.func4 rfl Tryz.ntmps4 ?_
  rintro ds d ⟨l, a1, c1, a2, c2, w1, w2, raw, ⟨hll, ⟨g1, g2, g3, g4, g5⟩, ⟨g6, g7, g8, g9, g10⟩, g11⟩, rfl, rfl⟩
  refine ⟨by simp, fun w0 => ?_⟩
  repeat' (first | apply run_seq | apply run_block | apply run_region | apply runL_nil | refine runxP (by simp only [go_sem]; rfl) (by rfl) ?_ ?_ | refine stepcall K9 (by simp only [go_sem]; first | done | rfl) ?_ ⟨rfl, rfl⟩ (by simp only [go_sem]; rfl) ?_ | exact True.intro | exact rfl)
  refine run_loopK [0, 2, 4, 7] (fun x : Nat × ByteArray => [(8, .str x.2), (9, .int .i64 (x.1 : Int))]) (fun x : Nat × ByteArray => [(0, .var [.int .u16 a1, .int .u8 c1, .str w1, .int .u16 a2, .int .u8 c2, .str w2])]) (fun x : Nat × ByteArray => x.1 ≤ l.length ∧ x.1 ≤ 5 ∧ x.2.size ≤ 80 * x.1) (fun x : Nat × ByteArray => l.length - x.1) (0, ByteArray.empty) (fun x => by simp only [go_sem]; rfl) ?_ (by simp only [go_sem]; repeat' (first | exact trivial | exact True.intro | exact SLe.refl _ | exact OLe.refl _ | exact ⟨_, rfl, OLe.refl _⟩ | refine ⟨_, rfl, ?_⟩ | refine OLe.var ?_ | (show SLeL _ _; refine ⟨?_, ?_⟩) | (show SLeL [] []; exact True.intro) | (refine SLe.int ?_; rw [w64]; omega) | refine SLe.int ?_ | refine SLe.bool ?_ | apply And.intro)) (by simp only [go_sem]; repeat' (first | exact trivial | exact True.intro | exact SLe.refl _ | exact OLe.refl _ | exact ⟨_, rfl, OLe.refl _⟩ | refine ⟨_, rfl, ?_⟩ | refine OLe.var ?_ | (show SLeL _ _; refine ⟨?_, ?_⟩) | (show SLeL [] []; exact True.intro) | (refine SLe.int ?_; rw [w64]; omega) | refine SLe.int ?_ | refine SLe.bool ?_ | apply And.intro)) ?_
  · exact ⟨Nat.zero_le _, Nat.zero_le _, by simp⟩
  rintro ⟨k, s⟩ ⟨h1, h2, h3⟩
  simp only at h1 h2 h3
  have e1 : IntKind.i64.wrap ((k : Int) + 1) = ((k + 1 : Nat) : Int) := by rw [w64]; omega
  repeat' (first | apply run_seq | apply run_region | apply runL_nil | refine runxP (by simp only [go_sem]; rfl) (by rfl) ?_ ?_ | exact rfl | (show allP _; first | exact True.intro | (simp only [allP, go_sem, Bool.not_eq_true', Bool.not_eq_false', implies_true, true_and, and_true, and_self, imp_self]; done) | (simp [allP, go_sem]; done) | (simp [allP, go_sem] at *; first | done | assumption | omega | (simp_all; done)) | (simp only [allP, go_sem]; intros; simp_all; done) | (simp only [allP, go_sem, ByteArray.size_append, size_mk, List.size_toArray, List.length_append, List.length_cons, List.length_nil, and_true, true_and]; (repeat' apply And.intro) <;> omega)))
  (refine run_cond (by simp only [go_sem]; rfl) ?_ ?_ <;> intro hb <;> have hc := hb <;> (try simp only [decide_eq_true_eq, decide_eq_false_iff_not, Int.not_lt, Int.not_le, Int.ofNat_lt, Int.ofNat_le, Bool.and_eq_true, Bool.or_eq_true, Bool.or_eq_false_iff, Bool.not_eq_true', Bool.not_eq_false', beq_iff_eq, beq_eq_false_iff_ne, bne_iff_ne, bne_eq_false_iff_eq] at hc) <;> (try (exfalso; simp at hc; done)))
  · obtain ⟨s0, hs0⟩ : ∃ s0, s0 = l.getD k default := ⟨_, rfl⟩
    have es1 : s0.extract 0 (if (20 : Int) < (s0.size : Int) then (20 : Int) else (s0.size : Int)).toNat = s0.extract 0 20 := extract_min s0 20
    have es2 : (s0.extract 0 20).size ≤ 20 := by rw [size_L, L_extract, List.length_take]; omega
    have es3 := liB_small _ es2
    have es4 : (s0.extract 0 20).size ≤ 400000000 := by omega
    rw [hs0] at es1 es2 es3 es4
    clear hs0 s0
    have hsz : (s ++ liB ((l.getD k default).extract 0 20)).size ≤ 80 * (k + 1) := by rw [ByteArray.size_append]; omega
    have hsz2 : (lineL (L ((l.getD k default).extract 0 20))).length ≤ 80 := by rw [← liB_len]; exact es3
    repeat' (first | apply run_seq | apply run_skip | apply run_block | apply run_blk | apply run_region | apply run_draw | apply runL_nil | refine runxP (by simp only [go_sem, es1, e1]; rfl) (by rfl) ?_ ?_ | refine runDqP (by simp only [go_sem, es1, e1]; rfl) (by rfl) ?_ ?_ | refine runD_end (by kernel_rfl) (by kernel_rfl) ?_ | refine runDcall K31 (by simp only [go_sem, es1, e1]; first | done | rfl) ?_ ⟨(l.getD k default).extract 0 20, es4, rfl, rfl⟩ (by simp only [go_sem, es1, e1]; rfl) ?_ | refine run_lp (k+1,s++liB ((l.getD k default).extract 0 20)) ?_ ?_ ⟨rfl, by simp only [go_sem]; repeat' (first | exact trivial | exact True.intro | exact SLe.refl _ | exact OLe.refl _ | exact ⟨_, rfl, OLe.refl _⟩ | refine ⟨_, rfl, ?_⟩ | refine OLe.var ?_ | (show SLeL _ _; refine ⟨?_, ?_⟩) | (show SLeL [] []; exact True.intro) | (refine SLe.int ?_; rw [w64]; omega) | refine SLe.int ?_ | refine SLe.bool ?_ | apply And.intro), by simp only [go_sem]; repeat' (first | exact trivial | exact True.intro | exact SLe.refl _ | exact OLe.refl _ | exact ⟨_, rfl, OLe.refl _⟩ | refine ⟨_, rfl, ?_⟩ | refine OLe.var ?_ | (show SLeL _ _; refine ⟨?_, ?_⟩) | (show SLeL [] []; exact True.intro) | (refine SLe.int ?_; rw [w64]; omega) | refine SLe.int ?_ | refine SLe.bool ?_ | apply And.intro)⟩ | exact True.intro | exact rfl | omega | (show allP _; first | exact True.intro | (simp only [allP, go_sem, Bool.not_eq_true', Bool.not_eq_false', implies_true, true_and, and_true, and_self, imp_self]; done) | (simp [allP, go_sem]; done) | (simp [allP, go_sem] at *; first | done | assumption | omega | (simp_all; done)) | (simp only [allP, go_sem]; intros; simp_all; done) | (simp only [allP, go_sem, ByteArray.size_append, size_mk, List.size_toArray, List.length_append, List.length_cons, List.length_nil, and_true, true_and]; (repeat' apply And.intro) <;> omega)))
    exact ⟨by simp only; omega, by simp only; omega, hsz⟩
  · have er : raw.extract 0 (if (100 : Int) < (raw.size : Int) then (100 : Int) else (raw.size : Int)).toNat = raw.extract 0 100 := extract_min raw 100
    have er2 : (raw.extract 0 100).size ≤ 100 := by rw [size_L, L_extract, List.length_take]; omega
    have hc1 := chD_size a1 c1 w1 s
    have hc2 := chD_size a2 c2 w2 (chD a1 c1 w1 s)
    have q1 : 0 ≤ a1 ∧ a1 < 65536 ∧ 0 ≤ c1 ∧ c1 < 256 ∧ s.size ≤ 1000000000 ∧ w1.size ≤ 140737488351232 := ⟨g1, g2, g3, g4, by omega, g5⟩
    have q2 : 0 ≤ a2 ∧ a2 < 65536 ∧ 0 ≤ c2 ∧ c2 < 256 ∧ (chD a1 c1 w1 s).size ≤ 1000000000 ∧ w2.size ≤ 140737488351232 := ⟨g6, g7, g8, g9, by omega, g10⟩
    repeat' (first | apply run_seq | apply run_block | apply run_region | apply run_draw | apply runL_nil | refine runxP (by simp only [go_sem, er]; rfl) (by rfl) ?_ ?_ | refine runDqP (by simp only [go_sem, er]; rfl) (by rfl) ?_ ?_ | refine runD_end (by kernel_rfl) (by kernel_rfl) ?_ | refine stepcall K32b (by simp only [go_sem, er]; first | done | rfl) ?_ ⟨a1, c1, w1, s, q1, rfl, rfl⟩ (by simp only [go_sem, er]; rfl) ?_ | refine runDcall K32b (by simp only [go_sem, er]; first | done | rfl) ?_ ⟨a2, c2, w2, chD a1 c1 w1 s, q2, rfl, rfl⟩ (by simp only [go_sem, er]; rfl) ?_ | refine run_exit (by rfl) ?_ | exact True.intro | exact rfl | (show allP _; first | exact True.intro | (simp only [allP, go_sem, Bool.not_eq_true', Bool.not_eq_false', implies_true, true_and, and_true, and_self, imp_self]; done) | (simp [allP, go_sem]; done) | (simp [allP, go_sem] at *; first | done | assumption | omega | (simp_all; done)) | (simp only [allP, go_sem]; intros; simp_all; done) | (simp only [allP, go_sem, ByteArray.size_append, size_mk, List.size_toArray, List.length_append, List.length_cons, List.length_nil, and_true, true_and]; (repeat' apply And.intro) <;> omega)))
    obtain ⟨xs, hxs, hx5⟩ : ∃ xs : List ByteArray, [s, chD a1 c1 w1 s, chD a2 c2 w2 (chD a1 c1 w1 s), raw.extract 0 100, s ++ raw.extract 0 100] = xs ∧ ∀ y ∈ xs, y.size ≤ 5000 := by
      refine ⟨_, rfl, fun y hy => ?_⟩
      simp only [List.mem_cons, List.not_mem_nil, or_false] at hy
      rcases hy with rfl | rfl | rfl | rfl | rfl
      · omega
      · omega
      · omega
      · omega
      · rw [ByteArray.size_append]; omega
    refine run_loopK [7, 66, 67] (fun j : Nat => [(68, .int .i64 (j : Int))]) (fun j : Nat => []) (fun j : Nat => j ≤ 5) (fun j : Nat => 5 - j) 0 (fun x => by simp only [go_sem]; rfl) ?_ (by simp only [go_sem]; repeat' (first | exact trivial | exact True.intro | exact SLe.refl _ | exact OLe.refl _ | exact ⟨_, rfl, OLe.refl _⟩ | refine ⟨_, rfl, ?_⟩ | refine OLe.var ?_ | (show SLeL _ _; refine ⟨?_, ?_⟩) | (show SLeL [] []; exact True.intro) | (refine SLe.int ?_; rw [w64]; omega) | refine SLe.int ?_ | refine SLe.bool ?_ | apply And.intro)) (by simp only [go_sem]; repeat' (first | exact trivial | exact True.intro | exact SLe.refl _ | exact OLe.refl _ | exact ⟨_, rfl, OLe.refl _⟩ | refine ⟨_, rfl, ?_⟩ | refine OLe.var ?_ | (show SLeL _ _; refine ⟨?_, ?_⟩) | (show SLeL [] []; exact True.intro) | (refine SLe.int ?_; rw [w64]; omega) | refine SLe.int ?_ | refine SLe.bool ?_ | apply And.intro)) ?_
    · exact Nat.zero_le _
    rintro j hj5
    rw [hxs]
    have e2 : IntKind.i64.wrap ((j : Int) + 1) = ((j + 1 : Nat) : Int) := by rw [w64]; omega
    repeat' (first | apply run_seq | apply run_region | apply runL_nil | refine runxP (by simp only [go_sem]; rfl) (by rfl) ?_ ?_ | exact True.intro | exact rfl)
    (refine run_cond (by simp only [go_sem]; rfl) ?_ ?_ <;> intro hb <;> have hc := hb <;> (try simp only [decide_eq_true_eq, decide_eq_false_iff_not, Int.not_lt, Int.not_le, Int.ofNat_lt, Int.ofNat_le, Bool.and_eq_true, Bool.or_eq_true, Bool.or_eq_false_iff, Bool.not_eq_true', Bool.not_eq_false', beq_iff_eq, beq_eq_false_iff_ne, bne_iff_ne, bne_eq_false_iff_eq] at hc) <;> (try (exfalso; simp at hc; done)))
    · obtain ⟨y, hy⟩ : ∃ y, xs.getD j ByteArray.empty = y := ⟨_, rfl⟩
      have hys : y.size ≤ 5000 := by
        rw [← hy, List.getD_eq_getElem?_getD]
        cases hg : xs[j]? with
        | none => simp
        | some z => exact hx5 z (List.mem_of_getElem? hg)
      obtain ⟨k', hk'⟩ : ∃ k', opD (dkU y) = k' := ⟨_, rfl⟩
      obtain ⟨r, hr⟩ : ∃ r, (recs [] (L k'.t)).map B = r := ⟨_, rfl⟩
      have c1 : y.size ≤ 400000000 := by omega
      have c2 : y.size ≤ 100000 ∧ opD (dkU y) = k' ∧ (recs [] (L k'.t)).map B = r := ⟨by omega, hk', hr⟩
      have dA : decide (r = r) = true := decide_eq_true rfl
      repeat' (first | apply run_seq | apply run_skip | apply run_block | apply run_blk | apply run_region | apply runL_nil | refine runxP (by simp only [go_sem, hy, e2, dA, beq_self_eq_true, bne_self_eq_false]; rfl) (by rfl) ?_ ?_ | refine stepcallM [] K10 (by rfl) (by simp only [go_sem, hy, e2, dA, beq_self_eq_true, bne_self_eq_false]; first | done | rfl) (by simp only [go_sem, hy, e2, dA, beq_self_eq_true, bne_self_eq_false]) (by first | (simp only [go_sem, hy, e2, dA, beq_self_eq_true, bne_self_eq_false]; done) | (simp only [go_sem, hy, e2, dA, beq_self_eq_true, bne_self_eq_false]; rfl)) ?_ ⟨trivial, rfl, rfl, rfl, rfl⟩ (by simp only [go_sem, hy, e2, dA, beq_self_eq_true, bne_self_eq_false]; rfl) ?_ | refine stepcallM [] K11 (by rfl) (by simp only [go_sem, hy, e2, dA, beq_self_eq_true, bne_self_eq_false]; first | done | rfl) (by simp only [go_sem, hy, e2, dA, beq_self_eq_true, bne_self_eq_false]) (by first | (simp only [go_sem, hy, e2, dA, beq_self_eq_true, bne_self_eq_false]; done) | (simp only [go_sem, hy, e2, dA, beq_self_eq_true, bne_self_eq_false]; rfl)) ?_ ⟨trivial, rfl, rfl, rfl, rfl⟩ (by simp only [go_sem, hy, e2, dA, beq_self_eq_true, bne_self_eq_false]; rfl) ?_ | refine stepcallM [1] K14w (by rfl) (by simp only [go_sem, hy, e2, dA, beq_self_eq_true, bne_self_eq_false]; first | done | rfl) (by simp only [go_sem, hy, e2, dA, beq_self_eq_true, bne_self_eq_false]) (by first | (simp only [go_sem, hy, e2, dA, beq_self_eq_true, bne_self_eq_false]; done) | (simp only [go_sem, hy, e2, dA, beq_self_eq_true, bne_self_eq_false]; rfl)) ?_ ⟨y, c1, rfl, rfl, rfl, rfl⟩ (by simp only [go_sem, hy, e2, dA, beq_self_eq_true, bne_self_eq_false]; rfl) ?_ | refine stepcallM [2] K15w (by rfl) (by simp only [go_sem, hy, e2, dA, beq_self_eq_true, bne_self_eq_false]; first | done | rfl) (by simp only [go_sem, hy, e2, dA, beq_self_eq_true, bne_self_eq_false]) (by first | (simp only [go_sem, hy, e2, dA, beq_self_eq_true, bne_self_eq_false]; done) | (simp only [go_sem, hy, e2, dA, beq_self_eq_true, bne_self_eq_false]; rfl)) ?_ ⟨y, c1, rfl, rfl, rfl, rfl⟩ (by simp only [go_sem, hy, e2, dA, beq_self_eq_true, bne_self_eq_false]; rfl) ?_ | refine stepcallM [1] K22u (by rfl) (by simp only [go_sem, hy, e2, dA, beq_self_eq_true, bne_self_eq_false]; first | done | rfl) (by simp only [go_sem, hy, e2, dA, beq_self_eq_true, bne_self_eq_false]) (by first | (simp only [go_sem, hy, e2, dA, beq_self_eq_true, bne_self_eq_false]; done) | (simp only [go_sem, hy, e2, dA, beq_self_eq_true, bne_self_eq_false]; rfl)) ?_ ⟨y, k', r, c2, rfl, rfl, rfl, rfl⟩ (by simp only [go_sem, hy, e2, dA, beq_self_eq_true, bne_self_eq_false]; rfl) ?_ | refine stepcallM [2] K23u (by rfl) (by simp only [go_sem, hy, e2, dA, beq_self_eq_true, bne_self_eq_false]; first | done | rfl) (by simp only [go_sem, hy, e2, dA, beq_self_eq_true, bne_self_eq_false]) (by first | (simp only [go_sem, hy, e2, dA, beq_self_eq_true, bne_self_eq_false]; done) | (simp only [go_sem, hy, e2, dA, beq_self_eq_true, bne_self_eq_false]; rfl)) ?_ ⟨y, k', r, c2, rfl, rfl, rfl, rfl⟩ (by simp only [go_sem, hy, e2, dA, beq_self_eq_true, bne_self_eq_false]; rfl) ?_ | refine stepcallg 104 (by rfl) (by simp only [go_sem, hy, e2, dA, beq_self_eq_true, bne_self_eq_false]; rfl) K24 (by simp only [go_sem, hy, e2, dA, beq_self_eq_true, bne_self_eq_false]; first | done | rfl) (fun hg => ?_) (fun _ => ⟨r, r, rfl, rfl⟩) (by simp only [go_sem, hy, e2, dA, beq_self_eq_true, bne_self_eq_false]; rfl) ?_ | refine stepcallM [3, 1] K29b (by rfl) (by simp only [go_sem, hy, e2, dA, beq_self_eq_true, bne_self_eq_false]; first | done | rfl) (by simp only [go_sem, hy, e2, dA, beq_self_eq_true, bne_self_eq_false]) (by first | (simp only [go_sem, hy, e2, dA, beq_self_eq_true, bne_self_eq_false]; done) | (simp only [go_sem, hy, e2, dA, beq_self_eq_true, bne_self_eq_false]; rfl)) ?_ ⟨⟨(r.length : Int), false⟩, k', trivial, rfl, rfl, rfl, rfl⟩ (by simp only [go_sem, hy, e2, dA, beq_self_eq_true, bne_self_eq_false]; rfl) ?_ | refine stepcallM [4, 2] K30b (by rfl) (by simp only [go_sem, hy, e2, dA, beq_self_eq_true, bne_self_eq_false]; first | done | rfl) (by simp only [go_sem, hy, e2, dA, beq_self_eq_true, bne_self_eq_false]) (by first | (simp only [go_sem, hy, e2, dA, beq_self_eq_true, bne_self_eq_false]; done) | (simp only [go_sem, hy, e2, dA, beq_self_eq_true, bne_self_eq_false]; rfl)) ?_ ⟨⟨(r.length : Int), false⟩, k', trivial, rfl, rfl, rfl, rfl⟩ (by simp only [go_sem, hy, e2, dA, beq_self_eq_true, bne_self_eq_false]; rfl) ?_ | refine stepcallM [1] K27 (by rfl) (by simp only [go_sem, hy, e2, dA, beq_self_eq_true, bne_self_eq_false]; first | done | rfl) (by simp only [go_sem, hy, e2, dA, beq_self_eq_true, bne_self_eq_false]) (by first | (simp only [go_sem, hy, e2, dA, beq_self_eq_true, bne_self_eq_false]; done) | (simp only [go_sem, hy, e2, dA, beq_self_eq_true, bne_self_eq_false]; rfl)) ?_ ⟨k', trivial, rfl, rfl, rfl, rfl⟩ (by simp only [go_sem, hy, e2, dA, beq_self_eq_true, bne_self_eq_false]; rfl) ?_ | refine stepcallM [2] K28 (by rfl) (by simp only [go_sem, hy, e2, dA, beq_self_eq_true, bne_self_eq_false]; first | done | rfl) (by simp only [go_sem, hy, e2, dA, beq_self_eq_true, bne_self_eq_false]) (by first | (simp only [go_sem, hy, e2, dA, beq_self_eq_true, bne_self_eq_false]; done) | (simp only [go_sem, hy, e2, dA, beq_self_eq_true, bne_self_eq_false]; rfl)) ?_ ⟨k', trivial, rfl, rfl, rfl, rfl⟩ (by simp only [go_sem, hy, e2, dA, beq_self_eq_true, bne_self_eq_false]; rfl) ?_ | refine runL_gT 76 (by rfl) (by simp only [go_sem, hy, e2, dA, beq_self_eq_true, bne_self_eq_false]; first | done | rfl) ?_ | refine runL_gT 82 (by rfl) (by simp only [go_sem, hy, e2, dA, beq_self_eq_true, bne_self_eq_false]; first | done | rfl) ?_ | refine runL_gT 110 (by rfl) (by simp only [go_sem, hy, e2, dA, beq_self_eq_true, bne_self_eq_false]; first | done | rfl) ?_ | refine runL_gT 117 (by rfl) (by simp only [go_sem, hy, e2, dA, beq_self_eq_true, bne_self_eq_false]; first | done | rfl) ?_ | (refine run_cond (by simp only [go_sem, hy, e2, dA, beq_self_eq_true, bne_self_eq_false]; rfl) ?_ ?_ <;> intro hb <;> have hc := hb <;> (try simp only [decide_eq_true_eq, decide_eq_false_iff_not, Int.not_lt, Int.not_le, Int.ofNat_lt, Int.ofNat_le, Bool.and_eq_true, Bool.or_eq_true, Bool.or_eq_false_iff, Bool.not_eq_true', Bool.not_eq_false', beq_iff_eq, beq_eq_false_iff_ne, bne_iff_ne, bne_eq_false_iff_eq] at hc) <;> (try (exfalso; simp at hc; done))) | refine run_lp (j+1) ?_ ?_ ⟨rfl, by simp only [go_sem]; repeat' (first | exact trivial | exact True.intro | exact SLe.refl _ | exact OLe.refl _ | exact ⟨_, rfl, OLe.refl _⟩ | refine ⟨_, rfl, ?_⟩ | refine OLe.var ?_ | (show SLeL _ _; refine ⟨?_, ?_⟩) | (show SLeL [] []; exact True.intro) | (refine SLe.int ?_; rw [w64]; omega) | refine SLe.int ?_ | refine SLe.bool ?_ | apply And.intro), by simp only [go_sem]; repeat' (first | exact trivial | exact True.intro | exact SLe.refl _ | exact OLe.refl _ | exact ⟨_, rfl, OLe.refl _⟩ | refine ⟨_, rfl, ?_⟩ | refine OLe.var ?_ | (show SLeL _ _; refine ⟨?_, ?_⟩) | (show SLeL [] []; exact True.intro) | (refine SLe.int ?_; rw [w64]; omega) | refine SLe.int ?_ | refine SLe.bool ?_ | apply And.intro)⟩ | exact True.intro | exact rfl | omega | (show allP _; first | exact True.intro | (simp only [allP, go_sem, Bool.not_eq_true', Bool.not_eq_false', implies_true, true_and, and_true, and_self, imp_self]; done) | (simp [allP, go_sem]; done) | (simp [allP, go_sem] at *; first | done | assumption | omega | (simp_all; done)) | (simp only [allP, go_sem]; intros; simp_all; done) | (simp only [allP, go_sem, ByteArray.size_append, size_mk, List.size_toArray, List.length_append, List.length_cons, List.length_nil, and_true, true_and]; (repeat' apply And.intro) <;> omega)))
      all_goals skip
    · repeat' (first | apply run_seq | apply run_region | apply runL_nil | refine runxP (by simp only [go_sem]; rfl) (by rfl) ?_ ?_ | refine run_ret (by rfl) ?_ | refine run_exit (by rfl) ?_ | exact True.intro | exact rfl | exact SLe0.bool rfl)
end Go.Sx
