/- Part of the proofs that the laws of the journal return true for every input: L49. -/
import Derived.Test.YtiddnjgnjmdobaaGreatDoorL45
import Derived.Test.YtiddnjgnjmdobaaGreatDoorL47
import Derived.Test.YtiddnjgnjmdobaaGreatDoorL38a
import Derived.Test.YtiddnjgnjmdobaaGreatDoorS4
set_option linter.unusedVariables false
set_option linter.unusedSimpArgs false
set_option linter.all false
/-! L49: JournalBytes: the walk. -/
namespace Go.Sx
def endsN : Nat → List ByteArray → List Int
  | _, [] => []
  | fr, r :: l => ((fr + (liB r).size : Nat) : Int) :: endsN (fr + (liB r).size) l
theorem endsN_snoc : ∀ (l : List ByteArray) (fr : Nat) (r : ByteArray), endsN fr (l ++ [r]) = endsN fr l ++ [((fr + (lns l).length + (liB r).size : Nat) : Int)]
  | [], fr, r => by simp [endsN, lns]
  | a :: l, fr, r => by
    simp only [List.cons_append, endsN]
    rw [endsN_snoc l _ r, lns_cons, List.length_append, liB_len a]
    simp only [Nat.add_assoc]
theorem endsN_len : ∀ (l : List ByteArray) (fr : Nat), (endsN fr l).length = l.length
  | [], _ => rfl
  | a :: l, fr => by simp only [endsN, List.length_cons, endsN_len l]
def inF (es : List Int) (j : Nat) : SD := .int .i64 (es.getD j 0)
@[go_sem] def eI (es : List Int) : OB := .acc 3 1 es.length (inF es)
theorem oleI (es : List Int) (x : Int) {f : Nat → SD} (hf : f 0 = .int .i64 x) : OLe (.acc 3 1 (es.length + 1) (joinF es.length (inF es) f)) (eI (es ++ [x])) := OLe.accS (by simp) fun i hi => by
  simp only [joinF, inF]
  by_cases h : i < es.length
  · rw [if_pos h, List.getD_eq_getElem?_getD, List.getD_eq_getElem?_getD, List.getElem?_append_left h]
  · have : i = es.length := by omega
    subst this
    rw [if_neg h, Nat.sub_self, hf]
    simp
open Go.Proofs Go.RowKit
attribute [local irreducible] Run RunL RunD OpT SLe0 SLe OLe
set_option maxHeartbeats 2000000
set_option maxRecDepth 8000
set_option linter.unusedSimpArgs false
set_option linter.unusedVariables false
set_option maxHeartbeats 20000000
theorem K6 : FnOK Tryz.prog 6 (fun ds d => ∃ (l : List ByteArray) (at_ to_ : Nat), (l.length ≤ 17592186044416 ∧ at_ < 65536 ∧ to_ < 256) ∧ ds = [strs l, .int .u16 (at_ : Int), .int .u8 (to_ : Int)] ∧ d = .bool true) := by
  refine fn_intro Tryz.call6 Tryz.func6 rfl Tryz.ntmps6 ?_
  rintro ds d ⟨l, at_, to_, ⟨hll, ha, hto⟩, rfl, rfl⟩
  refine ⟨by simp, fun w0 => ?_⟩
  repeat' (first | apply run_seq | apply run_skip | apply run_block | apply run_region | apply runL_nil | refine runxP (by simp only [go_sem]; rfl) (by rfl) ?_ ?_ | refine stepcall K9 (by simp only [go_sem]; first | done | rfl) ?_ ⟨rfl, rfl⟩ (by simp only [go_sem]; rfl) ?_ | refine stepcallM [] K10 (by rfl) (by simp only [go_sem]; first | done | rfl) (by simp only [go_sem]) (by first | (simp only [go_sem]; done) | (simp only [go_sem]; rfl)) ?_ ⟨trivial, rfl, rfl, rfl, rfl⟩ (by simp only [go_sem]; rfl) ?_ | refine stepcallM [0] K22w (by rfl) (by simp only [go_sem]; first | done | rfl) (by simp only [go_sem]) (by first | (simp only [go_sem]; done) | (simp only [go_sem]; rfl)) ?_ ⟨ByteArray.empty, ⟨by simp, ln0⟩, rfl, rfl, rfl, rfl⟩ (by simp only [go_sem]; rfl) ?_ | (refine run_cond (by simp only [go_sem]; rfl) ?_ ?_ <;> intro hb <;> have hc := hb <;> (try simp only [decide_eq_true_eq, decide_eq_false_iff_not, Int.not_lt, Int.not_le, Int.ofNat_lt, Int.ofNat_le, Bool.and_eq_true, Bool.or_eq_true, Bool.or_eq_false_iff, Bool.not_eq_true', Bool.not_eq_false', beq_iff_eq, beq_eq_false_iff_ne, bne_iff_ne, bne_eq_false_iff_eq] at hc) <;> (try (exfalso; simp at hc; done))) | exact True.intro | exact rfl | (show allP _; first | exact True.intro | (simp only [allP, go_sem, Bool.not_eq_true', Bool.not_eq_false', implies_true, true_and, and_true, and_self, imp_self]; done) | (simp [allP, go_sem]; done) | (simp [allP, go_sem] at *; first | done | assumption | omega | (simp_all; done)) | (simp only [allP, go_sem]; intros; simp_all; done) | (simp only [allP, go_sem, ByteArray.size_append, size_mk, List.size_toArray, List.length_append, List.length_cons, List.length_nil, and_true, true_and]; (repeat' apply And.intro) <;> omega)))
  refine run_nilacc 11 9 1 (psF []) rfl rfl rfl ?_
  refine run_nilacc 12 3 1 (inF []) rfl rfl rfl ?_
  refine run_loopK [0, 1, 2, 7, 8, 9, 11, 12] (fun x : Nat × ByteArray × List ByteArray × List Int × Int => [(13, .int .i64 (x.1 : Int))]) (fun x : Nat × ByteArray × List ByteArray × List Int × Int => [(0, eDk (wk x.2.1)), (1, eLg 0 ⟨x.2.2.2.2, false⟩), (2, eA x.2.2.1), (3, eI x.2.2.2.1)]) (fun x : Nat × ByteArray × List ByteArray × List Int × Int => (x.1 ≤ l.length ∧ x.1 ≤ 5 ∧ x.2.2.1.length = x.1 ∧ x.2.1.size ≤ 80 * x.1) ∧ L x.2.1 = lns x.2.2.1 ∧ x.2.2.2.1 = endsN 0 x.2.2.1) (fun x : Nat × ByteArray × List ByteArray × List Int × Int => l.length - x.1) (0, ByteArray.empty, [], [], ((rs ByteArray.empty).length : Int)) (fun x => by simp only [go_sem]; rfl) ?_ (by simp only [go_sem]; repeat' (first | exact trivial | exact True.intro | exact SLe.refl _ | exact OLe.refl _ | exact ⟨_, rfl, OLe.refl _⟩ | refine ⟨_, rfl, ?_⟩ | refine OLe.var ?_ | (show SLeL _ _; refine ⟨?_, ?_⟩) | (show SLeL [] []; exact True.intro) | (refine SLe.int ?_; rw [w64]; omega) | refine SLe.int ?_ | refine SLe.bool ?_ | apply And.intro)) (by simp only [go_sem]; repeat' (first | exact trivial | exact True.intro | exact SLe.refl _ | exact OLe.refl _ | exact ⟨_, rfl, OLe.refl _⟩ | refine ⟨_, rfl, ?_⟩ | refine OLe.var ?_ | (show SLeL _ _; refine ⟨?_, ?_⟩) | (show SLeL [] []; exact True.intro) | (refine SLe.int ?_; rw [w64]; omega) | refine SLe.int ?_ | refine SLe.bool ?_ | apply And.intro)) ?_
  · exact ⟨⟨Nat.zero_le _, Nat.zero_le _, rfl, by simp⟩, rfl, rfl⟩
  rintro ⟨k, T, R, es, lg⟩ ⟨⟨h1, h2, h3, h4⟩, h5, h6⟩
  simp only at h1 h2 h3 h4 h5 h6
  have hel : es.length = k := by rw [h6, endsN_len, h3]
  have e1 : IntKind.i64.wrap ((k : Int) + 1) = ((k + 1 : Nat) : Int) := by rw [w64]; omega
  repeat' (first | apply run_seq | apply run_region | apply runL_nil | refine runxP (by simp only [go_sem]; rfl) (by rfl) ?_ ?_ | exact rfl | (show allP _; first | exact True.intro | (simp only [allP, go_sem, Bool.not_eq_true', Bool.not_eq_false', implies_true, true_and, and_true, and_self, imp_self]; done) | (simp [allP, go_sem]; done) | (simp [allP, go_sem] at *; first | done | assumption | omega | (simp_all; done)) | (simp only [allP, go_sem]; intros; simp_all; done) | (simp only [allP, go_sem, ByteArray.size_append, size_mk, List.size_toArray, List.length_append, List.length_cons, List.length_nil, and_true, true_and]; (repeat' apply And.intro) <;> omega)))
  (refine run_cond (by simp only [go_sem]; rfl) ?_ ?_ <;> intro hb <;> have hc := hb <;> (try simp only [decide_eq_true_eq, decide_eq_false_iff_not, Int.not_lt, Int.not_le, Int.ofNat_lt, Int.ofNat_le, Bool.and_eq_true, Bool.or_eq_true, Bool.or_eq_false_iff, Bool.not_eq_true', Bool.not_eq_false', beq_iff_eq, beq_eq_false_iff_ne, bne_iff_ne, bne_eq_false_iff_eq] at hc) <;> (try (exfalso; simp at hc; done)))
  · obtain ⟨s0, hs0⟩ : ∃ s0, s0 = l.getD k default := ⟨_, rfl⟩
    have es1 : s0.extract 0 (if (20 : Int) < (s0.size : Int) then (20 : Int) else (s0.size : Int)).toNat = s0.extract 0 20 := extract_min s0 20
    have es2 : (s0.extract 0 20).size ≤ 20 := by rw [size_L, L_extract, List.length_take]; omega
    have es3 := liB_small _ es2
    have cw : T.size + (liB (s0.extract 0 20)).size ≤ 262144 ∧ (s0.extract 0 20).size ≤ 400000000 := ⟨by omega, by omega⟩
    rw [hs0] at es1 es2 es3 cw
    clear hs0 s0
    have hts : ((T ++ liB ((l.getD k default).extract 0 20)).size : Int) = ((0 + (lns R).length + (liB ((l.getD k default).extract 0 20)).size : Nat) : Int) := by
      rw [ByteArray.size_append, size_L T, h5, Nat.zero_add]
    repeat' (first | apply run_seq | apply run_skip | apply run_block | apply run_blk | apply run_region | apply run_draw | apply runL_nil | refine runxP (by simp only [go_sem, es1, e1, wkt]; rfl) (by rfl) ?_ ?_ | refine runDqP (by simp only [go_sem, es1, e1, wkt]; rfl) (by rfl) ?_ ?_ | refine runD_end (by kernel_rfl) (by kernel_rfl) ?_ | refine stepcallM [1, 0] K25w (by rfl) (by simp only [go_sem, es1, e1, wkt]; first | done | rfl) (by simp only [go_sem, es1, e1, wkt]) (by first | (simp only [go_sem, es1, e1, wkt]; done) | (simp only [go_sem, es1, e1, wkt]; rfl)) ?_ ⟨T, (l.getD k default).extract 0 20, lg, cw, rfl, rfl, rfl, rfl⟩ (by simp only [go_sem, es1, e1, wkt]; rfl) ?_ | refine stepcallM [0] K27 (by rfl) (by simp only [go_sem, es1, e1, wkt]; first | done | rfl) (by simp only [go_sem, es1, e1, wkt]) (by first | (simp only [go_sem, es1, e1, wkt]; done) | (simp only [go_sem, es1, e1, wkt]; rfl)) ?_ ⟨wk (T ++ liB ((l.getD k default).extract 0 20)), trivial, rfl, rfl, rfl, rfl⟩ (by simp only [go_sem, es1, e1, wkt]; rfl) ?_ | (refine run_cond (by simp only [go_sem, es1, e1, wkt]; rfl) ?_ ?_ <;> intro hb <;> have hc := hb <;> (try simp only [decide_eq_true_eq, decide_eq_false_iff_not, Int.not_lt, Int.not_le, Int.ofNat_lt, Int.ofNat_le, Bool.and_eq_true, Bool.or_eq_true, Bool.or_eq_false_iff, Bool.not_eq_true', Bool.not_eq_false', beq_iff_eq, beq_eq_false_iff_ne, bne_iff_ne, bne_eq_false_iff_eq] at hc) <;> (try (exfalso; simp at hc; done))) | refine run_lp (k+1,T++liB ((l.getD k default).extract 0 20),R++[(l.getD k default).extract 0 20],es++[((T++liB ((l.getD k default).extract 0 20)).size : Int)],IntKind.i64.wrap (lg+1)) ?_ ?_ ⟨rfl, by simp only [go_sem]; repeat' (first | exact trivial | exact True.intro | exact SLe.refl _ | exact OLe.refl _ | exact ⟨_, rfl, OLe.refl _⟩ | refine ⟨_, rfl, ?_⟩ | refine OLe.var ?_ | (show SLeL _ _; refine ⟨?_, ?_⟩) | (show SLeL [] []; exact True.intro) | (refine SLe.int ?_; rw [w64]; omega) | refine SLe.int ?_ | refine SLe.bool ?_ | apply And.intro | (first | exact oleAdd _ _ rfl | exact ⟨_, rfl, oleAdd _ _ rfl⟩ | exact oleI _ _ rfl | exact ⟨_, rfl, oleI _ _ rfl⟩)), by simp only [go_sem]; repeat' (first | exact trivial | exact True.intro | exact SLe.refl _ | exact OLe.refl _ | exact ⟨_, rfl, OLe.refl _⟩ | refine ⟨_, rfl, ?_⟩ | refine OLe.var ?_ | (show SLeL _ _; refine ⟨?_, ?_⟩) | (show SLeL [] []; exact True.intro) | (refine SLe.int ?_; rw [w64]; omega) | refine SLe.int ?_ | refine SLe.bool ?_ | apply And.intro | (first | exact oleAdd _ _ rfl | exact ⟨_, rfl, oleAdd _ _ rfl⟩ | exact oleI _ _ rfl | exact ⟨_, rfl, oleI _ _ rfl⟩))⟩ | exact True.intro | exact rfl | omega | (show allP _; first | exact True.intro | (simp only [allP, go_sem, Bool.not_eq_true', Bool.not_eq_false', implies_true, true_and, and_true, and_self, imp_self]; done) | (simp [allP, go_sem]; done) | (simp [allP, go_sem] at *; first | done | assumption | omega | (simp_all; done)) | (simp only [allP, go_sem]; intros; simp_all; done) | (simp only [allP, go_sem, ByteArray.size_append, size_mk, List.size_toArray, List.length_append, List.length_cons, List.length_nil, and_true, true_and]; (repeat' apply And.intro) <;> omega)))
    refine ⟨⟨by simp only; omega, by simp only; omega, by simp only [List.length_append, List.length_cons, List.length_nil]; omega, by rw [ByteArray.size_append]; simp only; omega⟩, ?_, ?_⟩
    · simp only
      rw [L_app, h5, L_liB, lns_app]; simp [lns]
    · simp only
      rw [endsN_snoc, h6, hts]
  · repeat' (first | apply run_seq | apply run_region | apply runL_nil | refine runxP (by simp only [go_sem, wkt]; rfl) (by rfl) ?_ ?_ | refine stepcallM [0] K27 (by rfl) (by simp only [go_sem, wkt]; first | done | rfl) (by simp only [go_sem, wkt]) (by first | (simp only [go_sem, wkt]; done) | (simp only [go_sem, wkt]; rfl)) ?_ ⟨wk T, trivial, rfl, rfl, rfl, rfl⟩ (by simp only [go_sem, wkt]; rfl) ?_ | refine run_exit (by rfl) ?_ | exact True.intro | exact rfl)
    (refine run_cond (by simp only [go_sem]; rfl) ?_ ?_ <;> intro hb <;> have hc := hb <;> (try simp only [decide_eq_true_eq, decide_eq_false_iff_not, Int.not_lt, Int.not_le, Int.ofNat_lt, Int.ofNat_le, Bool.and_eq_true, Bool.or_eq_true, Bool.or_eq_false_iff, Bool.not_eq_true', Bool.not_eq_false', beq_iff_eq, beq_eq_false_iff_ne, bne_iff_ne, bne_eq_false_iff_eq] at hc) <;> (try (exfalso; simp at hc; done)))
    · repeat' (first | apply run_seq | apply run_region | apply runL_nil | refine runxP (by simp only [go_sem]; rfl) (by rfl) ?_ ?_ | refine run_ret (by rfl) ?_ | exact True.intro | exact rfl | exact SLe0.bool rfl)
    · have hT0 : 0 < T.size := by omega
      have en : (IntKind.i64.wrap (at_ : Int)).tmod (T.size : Int) = ((at_ % T.size : Nat) : Int) := by
        have : IntKind.i64.wrap (at_ : Int) = (at_ : Int) := by rw [w64]; omega
        rw [this, Int.tmod_eq_emod_of_nonneg (by omega)]; omega
      have hnT := Nat.mod_lt at_ hT0
      have en1 : IntKind.i64.wrap (((at_ % T.size : Nat) : Int) + 1) = ((at_ % T.size + 1 : Nat) : Int) := by rw [w64]; omega
      have ec : (UInt8.ofNat to_).toNat = to_ := by rw [UInt8.toNat_ofNat']; omega
      obtain ⟨n, hn⟩ : ∃ n, n = at_ % T.size := ⟨_, rfl⟩
      rw [← hn] at en hnT en1
      obtain ⟨O, hO⟩ : ∃ O, T.extract 0 n ++ (⟨#[UInt8.ofNat to_]⟩ : ByteArray) ++ T.extract (n + 1) T.size = O := ⟨_, rfl⟩
      have hLO : L O = oddL (lns R) n (UInt8.ofNat to_) := by
        rw [← hO, L_app, L_app, L_extract, L_extract, h5]
        unfold oddL
        have : T.size = (lns R).length := by rw [size_L, h5]
        rw [List.drop_zero, Nat.sub_zero, this, List.take_of_length_le (l := (lns R).drop (n + 1)) (by rw [List.length_drop]; omega)]
      have hLl : (lns R).length = T.size := by rw [size_L, h5]
      have hOs : O.size ≤ 500 := by
        rw [size_L, hLO]; unfold oddL
        simp only [List.length_append, List.length_take, List.length_drop, List.length_cons, List.length_nil]; omega
      have hsm : (O == T) = decide (L O = lns R) := by
        rw [← h5]
        by_cases h : O = T
        · rw [h]; simp
        · rw [beq_eq_false_iff_ne.2 h, decide_eq_false fun hc => h (L_inj hc)]
      obtain ⟨sm, hsm1⟩ : ∃ sm, (O == T) = sm := ⟨_, rfl⟩
      have hfound := found_law R n (UInt8.ofNat to_) O sm (by omega) hLO (hsm1.symm.trans hsm)
      repeat' (first | apply run_seq | apply run_skip | apply run_block | apply run_region | apply run_draw | apply runL_nil | refine runxP (by simp only [go_sem, en, en1, hO]; rfl) (by rfl) ?_ ?_ | refine runDqP (by simp only [go_sem, en, en1, hO]; rfl) (by rfl) ?_ ?_ | refine runD_end (by kernel_rfl) (by kernel_rfl) ?_ | refine runDcv ([UInt8.ofNat to_]) (by simp only [go_sem, en, en1, hO]; rfl) ?_ (by rfl) ?_ (by first | exact tU57 | exact tU201 | exact tU9 | exact tU5) (by first | exact tU57 | exact tU201 | exact tU9 | exact tU5) (by first | exact tU57 | exact tU201 | exact tU9 | exact tU5) (by simp only [go_sem, en, en1, hO]; rfl) ?_ | exact True.intro | exact rfl | (show allP _; first | exact True.intro | (simp only [allP, go_sem, Bool.not_eq_true', Bool.not_eq_false', implies_true, true_and, and_true, and_self, imp_self]; done) | (simp [allP, go_sem]; done) | (simp [allP, go_sem] at *; first | done | assumption | omega | (simp_all; done)) | (simp only [allP, go_sem]; intros; simp_all; done) | (simp only [allP, go_sem, ByteArray.size_append, size_mk, List.size_toArray, List.length_append, List.length_cons, List.length_nil, and_true, true_and]; (repeat' apply And.intro) <;> omega)))
      · intro i hi
        have : i = 0 := by omega
        subst this
        show SD.int .u8 (to_ : Int) = .int .u8 ((UInt8.ofNat to_).toNat : Int)
        rw [ec]
      refine run_nilacc 18 9 1 (psF []) rfl rfl rfl ?_
      refine run_loopK [7, 11, 15, 16, 17, 18, 93, 94] (fun x : Nat × Nat × List ByteArray => [(95, .int .i64 (x.1 : Int)), (19, .int .i64 (x.2.1 : Int))]) (fun x : Nat × Nat × List ByteArray => [(2, eA R), (3, eI es), (4, eA x.2.2)]) (fun x : Nat × Nat × List ByteArray => (x.1 ≤ R.length ∧ x.2.2.length ≤ x.1 ∧ x.2.1 + (lns (R.drop x.1)).length = (lns R).length) ∧ endsN x.2.1 (R.drop x.1) = es.drop x.1 ∧ x.2.2 ++ wantF sm n x.2.1 (R.drop x.1) = wantF sm n 0 R) (fun x : Nat × Nat × List ByteArray => R.length - x.1) (0, 0, []) (fun x => by simp only [go_sem]; rfl) ?_ (by simp only [go_sem]; repeat' (first | exact trivial | exact True.intro | exact SLe.refl _ | exact OLe.refl _ | exact ⟨_, rfl, OLe.refl _⟩ | refine ⟨_, rfl, ?_⟩ | refine OLe.var ?_ | (show SLeL _ _; refine ⟨?_, ?_⟩) | (show SLeL [] []; exact True.intro) | (refine SLe.int ?_; rw [w64]; omega) | refine SLe.int ?_ | refine SLe.bool ?_ | apply And.intro)) (by simp only [go_sem]; repeat' (first | exact trivial | exact True.intro | exact SLe.refl _ | exact OLe.refl _ | exact ⟨_, rfl, OLe.refl _⟩ | refine ⟨_, rfl, ?_⟩ | refine OLe.var ?_ | (show SLeL _ _; refine ⟨?_, ?_⟩) | (show SLeL [] []; exact True.intro) | (refine SLe.int ?_; rw [w64]; omega) | refine SLe.int ?_ | refine SLe.bool ?_ | apply And.intro)) ?_
      · exact ⟨⟨Nat.zero_le _, Nat.le_refl _, by simp⟩, by rw [h6]; rfl, rfl⟩
      rintro ⟨j, fr, want⟩ ⟨⟨p1, p2, p3⟩, p4, p5⟩
      simp only at p1 p2 p3 p4 p5
      have e2 : IntKind.i64.wrap ((j : Int) + 1) = ((j + 1 : Nat) : Int) := by rw [w64]; omega
      repeat' (first | apply run_seq | apply run_region | apply runL_nil | refine runxP (by simp only [go_sem]; rfl) (by rfl) ?_ ?_ | exact True.intro | exact rfl)
      (refine run_cond (by simp only [go_sem]; rfl) ?_ ?_ <;> intro hb <;> have hc := hb <;> (try simp only [decide_eq_true_eq, decide_eq_false_iff_not, Int.not_lt, Int.not_le, Int.ofNat_lt, Int.ofNat_le, Bool.and_eq_true, Bool.or_eq_true, Bool.or_eq_false_iff, Bool.not_eq_true', Bool.not_eq_false', beq_iff_eq, beq_eq_false_iff_ne, bne_iff_ne, bne_eq_false_iff_eq] at hc) <;> (try (exfalso; simp at hc; done)))
      · have hj : j < R.length := by omega
        have hdr : R.drop j = R.getD j ByteArray.empty :: R.drop (j + 1) := by rw [List.drop_eq_getElem_cons hj, List.getD_eq_getElem?_getD, List.getElem?_eq_getElem hj]; rfl
        have hde : es.drop j = es.getD j 0 :: es.drop (j + 1) := by rw [List.drop_eq_getElem_cons (by omega), List.getD_eq_getElem?_getD, List.getElem?_eq_getElem (by omega)]; rfl
        rw [hdr, hde] at p4
        rw [hdr] at p3 p5
        simp only [endsN, List.cons.injEq] at p4
        rw [lns_cons, List.length_append, ← liB_len] at p3
        have d1 : decide ((fr : Int) ≤ (n : Int)) = decide (fr ≤ n) := by simp
        have d2 : decide ((n : Int) < ((fr + (liB (R.getD j ByteArray.empty)).size : Nat) : Int)) = decide (n < fr + (liB (R.getD j ByteArray.empty)).size) := by rw [decide_eq_decide]; omega
        have d3 : ((n : Int) == IntKind.i64.wrap ((fr : Int) - 1)) = decide (n + 1 = fr) := by
          have : IntKind.i64.wrap ((fr : Int) - 1) = (fr : Int) - 1 := by rw [w64]; omega
          rw [this, Bool.eq_iff_iff, beq_iff_eq, decide_eq_true_eq]; omega
        have ee : inF es j = .int .i64 ((fr + (liB (R.getD j ByteArray.empty)).size : Nat) : Int) := by unfold inF; rw [← p4.1]
        repeat' (first | apply run_seq | apply run_skip | apply run_block | apply run_region | apply runL_nil | refine runxP (by simp only [go_sem, ee, d1, d2, d3, hsm1]; rfl) (by rfl) ?_ ?_ | exact rfl | (show allP _; first | exact True.intro | (simp only [allP, go_sem, Bool.not_eq_true', Bool.not_eq_false', implies_true, true_and, and_true, and_self, imp_self]; done) | (simp [allP, go_sem]; done) | (simp [allP, go_sem] at *; first | done | assumption | omega | (simp_all; done)) | (simp only [allP, go_sem]; intros; simp_all; done) | (simp only [allP, go_sem, ByteArray.size_append, size_mk, List.size_toArray, List.length_append, List.length_cons, List.length_nil, and_true, true_and]; (repeat' apply And.intro) <;> omega)))
        (refine run_cond (by simp only [go_sem]; rfl) ?_ ?_ <;> intro hb <;> have hc := hb <;> (try simp only [decide_eq_true_eq, decide_eq_false_iff_not, Int.not_lt, Int.not_le, Int.ofNat_lt, Int.ofNat_le, Bool.and_eq_true, Bool.or_eq_true, Bool.or_eq_false_iff, Bool.not_eq_true', Bool.not_eq_false', beq_iff_eq, beq_eq_false_iff_ne, bne_iff_ne, bne_eq_false_iff_eq] at hc) <;> (try (exfalso; simp at hc; done)))
        · repeat' (first | apply run_blk | apply run_region | apply runL_nil | refine runxP (by simp only [go_sem, ee, psF, e2]; rfl) (by rfl) ?_ ?_ | refine run_lp (j+1,fr+(liB (R.getD j ByteArray.empty)).size,want++[R.getD j ByteArray.empty]) ?_ ?_ ⟨rfl, by simp only [go_sem]; repeat' (first | exact trivial | exact True.intro | exact SLe.refl _ | exact OLe.refl _ | exact ⟨_, rfl, OLe.refl _⟩ | refine ⟨_, rfl, ?_⟩ | refine OLe.var ?_ | (show SLeL _ _; refine ⟨?_, ?_⟩) | (show SLeL [] []; exact True.intro) | (refine SLe.int ?_; rw [w64]; omega) | refine SLe.int ?_ | refine SLe.bool ?_ | apply And.intro | (first | exact oleAdd _ _ rfl | exact ⟨_, rfl, oleAdd _ _ rfl⟩ | exact oleI _ _ rfl | exact ⟨_, rfl, oleI _ _ rfl⟩)), by simp only [go_sem]; repeat' (first | exact trivial | exact True.intro | exact SLe.refl _ | exact OLe.refl _ | exact ⟨_, rfl, OLe.refl _⟩ | refine ⟨_, rfl, ?_⟩ | refine OLe.var ?_ | (show SLeL _ _; refine ⟨?_, ?_⟩) | (show SLeL [] []; exact True.intro) | (refine SLe.int ?_; rw [w64]; omega) | refine SLe.int ?_ | refine SLe.bool ?_ | apply And.intro | (first | exact oleAdd _ _ rfl | exact ⟨_, rfl, oleAdd _ _ rfl⟩ | exact oleI _ _ rfl | exact ⟨_, rfl, oleI _ _ rfl⟩))⟩ | exact True.intro | exact rfl | omega | (show allP _; first | exact True.intro | (simp only [allP, go_sem, Bool.not_eq_true', Bool.not_eq_false', implies_true, true_and, and_true, and_self, imp_self]; done) | (simp [allP, go_sem]; done) | (simp [allP, go_sem] at *; first | done | assumption | omega | (simp_all; done)) | (simp only [allP, go_sem]; intros; simp_all; done) | (simp only [allP, go_sem, ByteArray.size_append, size_mk, List.size_toArray, List.length_append, List.length_cons, List.length_nil, and_true, true_and]; (repeat' apply And.intro) <;> omega)))
          have hbt : (!tch n fr (fr + (liB (R.getD j ByteArray.empty)).size) || sm) = true := hb
          refine ⟨⟨by simp only; omega, by simp only [List.length_append, List.length_cons, List.length_nil]; omega, by simp only; omega⟩, p4.2, ?_⟩
          simp only [wantF, hbt, cond_true] at p5
          simp only [List.append_assoc]
          exact p5
        · repeat' (first | apply run_skip | apply run_blk | apply run_region | apply runL_nil | refine runxP (by simp only [go_sem, ee, e2]; rfl) (by rfl) ?_ ?_ | refine run_lp (j+1,fr+(liB (R.getD j ByteArray.empty)).size,want) ?_ ?_ ⟨rfl, by simp only [go_sem]; repeat' (first | exact trivial | exact True.intro | exact SLe.refl _ | exact OLe.refl _ | exact ⟨_, rfl, OLe.refl _⟩ | refine ⟨_, rfl, ?_⟩ | refine OLe.var ?_ | (show SLeL _ _; refine ⟨?_, ?_⟩) | (show SLeL [] []; exact True.intro) | (refine SLe.int ?_; rw [w64]; omega) | refine SLe.int ?_ | refine SLe.bool ?_ | apply And.intro | (first | exact oleAdd _ _ rfl | exact ⟨_, rfl, oleAdd _ _ rfl⟩ | exact oleI _ _ rfl | exact ⟨_, rfl, oleI _ _ rfl⟩)), by simp only [go_sem]; repeat' (first | exact trivial | exact True.intro | exact SLe.refl _ | exact OLe.refl _ | exact ⟨_, rfl, OLe.refl _⟩ | refine ⟨_, rfl, ?_⟩ | refine OLe.var ?_ | (show SLeL _ _; refine ⟨?_, ?_⟩) | (show SLeL [] []; exact True.intro) | (refine SLe.int ?_; rw [w64]; omega) | refine SLe.int ?_ | refine SLe.bool ?_ | apply And.intro | (first | exact oleAdd _ _ rfl | exact ⟨_, rfl, oleAdd _ _ rfl⟩ | exact oleI _ _ rfl | exact ⟨_, rfl, oleI _ _ rfl⟩))⟩ | exact True.intro | exact rfl | omega)
          have hbt : (!tch n fr (fr + (liB (R.getD j ByteArray.empty)).size) || sm) = false := hb
          refine ⟨⟨by simp only; omega, by simp only; omega, by simp only; omega⟩, p4.2, ?_⟩
          simp only [wantF, hbt, cond_false, List.nil_append] at p5
          exact p5
      · have hj : j = R.length := by omega
        have hwt : want = wantF sm n 0 R := by
          rw [hj, List.drop_length] at p5
          simpa [wantF] using p5
        rw [← hwt] at hfound
        have hO4 : O.size ≤ 400000000 := by omega
        have hE := enD_size O
        have c22 : O.size ≤ 300000000 ∧ enD O = enD O ∧ rs (enD O) = rs (enD O) := ⟨by omega, rfl, rfl⟩
        by_cases hA : rs (enD O) = want
        · have dA : decide (rs (enD O) = want) = true := decide_eq_true hA
          repeat' (first | apply run_seq | apply run_skip | apply run_region | apply runL_nil | refine runxP (by simp only [go_sem, dA]; rfl) (by rfl) ?_ ?_ | refine stepcallM [] K10 (by rfl) (by simp only [go_sem, dA]; first | done | rfl) (by simp only [go_sem, dA]) (by first | (simp only [go_sem, dA]; done) | (simp only [go_sem, dA]; rfl)) ?_ ⟨trivial, rfl, rfl, rfl, rfl⟩ (by simp only [go_sem, dA]; rfl) ?_ | refine stepcallM [5] K14w (by rfl) (by simp only [go_sem, dA]; first | done | rfl) (by simp only [go_sem, dA]) (by first | (simp only [go_sem, dA]; done) | (simp only [go_sem, dA]; rfl)) ?_ ⟨O, hO4, rfl, rfl, rfl, rfl⟩ (by simp only [go_sem, dA]; rfl) ?_ | refine stepcallM [5] K16w (by rfl) (by simp only [go_sem, dA]; first | done | rfl) (by simp only [go_sem, dA]) (by first | (simp only [go_sem, dA]; done) | (simp only [go_sem, dA]; rfl)) ?_ ⟨O, (O.size : Int), trivial, rfl, rfl, rfl, rfl⟩ (by simp only [go_sem, dA]; rfl) ?_ | refine stepcallM [5] K22v (by rfl) (by simp only [go_sem, dA]; first | done | rfl) (by simp only [go_sem, dA]) (by first | (simp only [go_sem, dA]; done) | (simp only [go_sem, dA]; rfl)) ?_ ⟨O, enD O, rs (enD O), c22, rfl, rfl, rfl, rfl⟩ (by simp only [go_sem, dA]; rfl) ?_ | refine stepcallB [4] K24 (by simp only [go_sem, dA]; rfl) (by simp only [go_sem, dA]; first | done | rfl) ?_ ⟨rs (enD O), want, rfl, rfl⟩ (by rfl) (by simp only [go_sem, dA]; rfl) ?_ | refine runL_gT 133 (by rfl) (by simp only [go_sem, dA]; first | done | rfl) ?_ | refine runL_gT 139 (by rfl) (by simp only [go_sem, dA]; first | done | rfl) ?_ | refine runL_gT 150 (by rfl) (by simp only [go_sem, dA]; first | done | rfl) ?_ | refine runL_gF 154 (by simp only [go_sem, dA]; rfl) (by rfl) (by simp only [go_sem, dA]; first | done | rfl) (by simp only [go_sem, dA]; rfl) ?_ | (refine run_cond (by simp only [go_sem, dA]; rfl) ?_ ?_ <;> intro hb <;> have hc := hb <;> (try simp only [decide_eq_true_eq, decide_eq_false_iff_not, Int.not_lt, Int.not_le, Int.ofNat_lt, Int.ofNat_le, Bool.and_eq_true, Bool.or_eq_true, Bool.or_eq_false_iff, Bool.not_eq_true', Bool.not_eq_false', beq_iff_eq, beq_eq_false_iff_ne, bne_iff_ne, bne_eq_false_iff_eq] at hc) <;> (try (exfalso; simp at hc; done))) | refine run_ret (by rfl) ?_ | refine run_exit (by rfl) ?_ | exact True.intro | exact rfl | exact SLe0.bool rfl | (show allP _; first | exact True.intro | (simp only [allP, go_sem, Bool.not_eq_true', Bool.not_eq_false', implies_true, true_and, and_true, and_self, imp_self]; done) | (simp [allP, go_sem]; done) | (simp [allP, go_sem] at *; first | done | assumption | omega | (simp_all; done)) | (simp only [allP, go_sem]; intros; simp_all; done) | (simp only [allP, go_sem, ByteArray.size_append, size_mk, List.size_toArray, List.length_append, List.length_cons, List.length_nil, and_true, true_and]; (repeat' apply And.intro) <;> omega)))
          all_goals skip
        · have dA : decide (rs (enD O) = want) = false := decide_eq_false hA
          obtain ⟨f1, f2⟩ := hfound.resolve_left hA
          have dB : decide (rs (enD O) = (recs [] (L O)).map B) = true := decide_eq_true f1
          have dC : decide ((want.length : Int) < ((rs (enD O)).length : Int)) = true := decide_eq_true (by omega)
          repeat' (first | apply run_seq | apply run_skip | apply run_region | apply runL_nil | refine runxP (by simp only [go_sem, dA, dB, dC]; rfl) (by rfl) ?_ ?_ | refine stepcallM [] K10 (by rfl) (by simp only [go_sem, dA, dB, dC]; first | done | rfl) (by simp only [go_sem, dA, dB, dC]) (by first | (simp only [go_sem, dA, dB, dC]; done) | (simp only [go_sem, dA, dB, dC]; rfl)) ?_ ⟨trivial, rfl, rfl, rfl, rfl⟩ (by simp only [go_sem, dA, dB, dC]; rfl) ?_ | refine stepcallM [5] K14w (by rfl) (by simp only [go_sem, dA, dB, dC]; first | done | rfl) (by simp only [go_sem, dA, dB, dC]) (by first | (simp only [go_sem, dA, dB, dC]; done) | (simp only [go_sem, dA, dB, dC]; rfl)) ?_ ⟨O, hO4, rfl, rfl, rfl, rfl⟩ (by simp only [go_sem, dA, dB, dC]; rfl) ?_ | refine stepcallM [5] K16w (by rfl) (by simp only [go_sem, dA, dB, dC]; first | done | rfl) (by simp only [go_sem, dA, dB, dC]) (by first | (simp only [go_sem, dA, dB, dC]; done) | (simp only [go_sem, dA, dB, dC]; rfl)) ?_ ⟨O, (O.size : Int), trivial, rfl, rfl, rfl, rfl⟩ (by simp only [go_sem, dA, dB, dC]; rfl) ?_ | refine stepcallM [5] K22v (by rfl) (by simp only [go_sem, dA, dB, dC]; first | done | rfl) (by simp only [go_sem, dA, dB, dC]) (by first | (simp only [go_sem, dA, dB, dC]; done) | (simp only [go_sem, dA, dB, dC]; rfl)) ?_ ⟨O, enD O, rs (enD O), c22, rfl, rfl, rfl, rfl⟩ (by simp only [go_sem, dA, dB, dC]; rfl) ?_ | refine stepcallg 154 (by rfl) (by simp only [go_sem, dA, dB, dC]; rfl) K34 (by simp only [go_sem, dA, dB, dC]; first | done | rfl) (fun hg => ?_) (fun _ => ⟨O, hO4, rfl, rfl⟩) (by simp only [go_sem, dA, dB, dC]; rfl) ?_ | refine stepcallg 154 (by rfl) (by simp only [go_sem, dA, dB, dC]; rfl) K24 (by simp only [go_sem, dA, dB, dC]; first | done | rfl) (fun hg => ?_) (fun _ => ⟨rs (enD O), (recs [] (L O)).map B, rfl, rfl⟩) (by simp only [go_sem, dA, dB, dC]; rfl) ?_ | refine stepcallB [4] K24 (by simp only [go_sem, dA, dB, dC]; rfl) (by simp only [go_sem, dA, dB, dC]; first | done | rfl) ?_ ⟨rs (enD O), want, rfl, rfl⟩ (by rfl) (by simp only [go_sem, dA, dB, dC]; rfl) ?_ | refine runL_gT 133 (by rfl) (by simp only [go_sem, dA, dB, dC]; first | done | rfl) ?_ | refine runL_gT 139 (by rfl) (by simp only [go_sem, dA, dB, dC]; first | done | rfl) ?_ | refine runL_gT 150 (by rfl) (by simp only [go_sem, dA, dB, dC]; first | done | rfl) ?_ | (refine run_cond (by simp only [go_sem, dA, dB, dC]; rfl) ?_ ?_ <;> intro hb <;> have hc := hb <;> (try simp only [decide_eq_true_eq, decide_eq_false_iff_not, Int.not_lt, Int.not_le, Int.ofNat_lt, Int.ofNat_le, Bool.and_eq_true, Bool.or_eq_true, Bool.or_eq_false_iff, Bool.not_eq_true', Bool.not_eq_false', beq_iff_eq, beq_eq_false_iff_ne, bne_iff_ne, bne_eq_false_iff_eq] at hc) <;> (try (exfalso; simp at hc; done))) | refine run_ret (by rfl) ?_ | refine run_exit (by rfl) ?_ | exact True.intro | exact rfl | exact SLe0.bool rfl | (show allP _; first | exact True.intro | (simp only [allP, go_sem, Bool.not_eq_true', Bool.not_eq_false', implies_true, true_and, and_true, and_self, imp_self]; done) | (simp [allP, go_sem]; done) | (simp [allP, go_sem] at *; first | done | assumption | omega | (simp_all; done)) | (simp only [allP, go_sem]; intros; simp_all; done) | (simp only [allP, go_sem, ByteArray.size_append, size_mk, List.size_toArray, List.length_append, List.length_cons, List.length_nil, and_true, true_and]; (repeat' apply And.intro) <;> omega)))
          all_goals skip
end Go.Sx
