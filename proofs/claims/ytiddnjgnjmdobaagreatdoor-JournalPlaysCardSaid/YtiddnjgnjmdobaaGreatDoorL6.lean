/- Part of the proofs that the laws of the journal return true for every input: L6. -/
import Derived.Test.YtiddnjgnjmdobaaGreatDoorL5
set_option linter.unusedVariables false
set_option linter.unusedSimpArgs false
set_option linter.all false
/-! L6: records of contents: the reference, whole. -/
namespace Go.Sx
open Go.Proofs Go.RowKit
attribute [local irreducible] Run RunL RunD SLe0 SLe OLe
set_option maxHeartbeats 2000000
set_option maxRecDepth 8000
set_option linter.unusedSimpArgs false
set_option linter.unusedVariables false
def recs : List UInt8 → List UInt8 → List (List UInt8)
  | _, [] => []
  | cur, c :: r => if c = 10 then (recOf (cur ++ [c])).toList ++ recs [] r else recs (cur ++ [c]) r
theorem recs_10 (cur r : List UInt8) (c : UInt8) (h : c = 10) : recs cur (c :: r) = (recOf (cur ++ [c])).toList ++ recs [] r := by rw [recs, if_pos h]
theorem recs_o (cur r : List UInt8) (c : UInt8) (h : c ≠ 10) : recs cur (c :: r) = recs (cur ++ [c]) r := by rw [recs, if_neg h]
theorem K34 : FnOK Tryz.prog 34 (fun ds d => ∃ s, s.size ≤ 400000000 ∧ ds = [.str s] ∧ d = strs ((recs [] (L s)).map B)) := by
  refine fn_intro Tryz.call34 Tryz.func34 rfl Tryz.ntmps34 ?_
  rintro ds d ⟨s, hsz, rfl, rfl⟩
  refine ⟨by simp, fun w0 => ?_⟩
  repeat' (first | apply run_seq | apply run_block | apply run_region | apply runL_nil | refine runxP (by simp only [go_sem]; rfl) (by rfl) ?_ ?_ | exact True.intro | exact rfl)
  refine run_nilacc 3 9 1 (fun i => .str (([] : List ByteArray).getD i default)) rfl rfl rfl ?_
  refine run_loopK [0, 3] (fun x : Nat × Nat × List ByteArray => [(4, .int .i64 (x.2.1 : Int)), (5, .int .i64 (x.1 : Int))]) (fun x : Nat × Nat × List ByteArray => [(0, .acc 9 1 x.2.2.length fun i => .str (x.2.2.getD i default))]) (fun x : Nat × Nat × List ByteArray => x.1 ≤ s.size ∧ x.2.1 ≤ x.1 ∧ x.2.2.length ≤ x.1 ∧ (recs [] (L s)).map B = x.2.2 ++ (recs (((L s).drop x.2.1).take (x.1 - x.2.1)) ((L s).drop x.1)).map B) (fun x : Nat × Nat × List ByteArray => s.size - x.1) (0, 0, []) (fun x => by simp only [go_sem]; rfl) ?_ (by simp only [go_sem]; repeat' (first | exact trivial | exact True.intro | exact SLe.refl _ | exact OLe.refl _ | exact ⟨_, rfl, OLe.refl _⟩ | refine ⟨_, rfl, ?_⟩ | refine OLe.var ?_ | (show SLeL _ _; refine ⟨?_, ?_⟩) | (show SLeL [] []; exact True.intro) | (refine SLe.int ?_; rw [w64]; omega) | refine SLe.int ?_ | refine SLe.bool ?_ | apply And.intro)) (by simp only [go_sem]; repeat' (first | exact trivial | exact True.intro | exact SLe.refl _ | exact OLe.refl _ | exact ⟨_, rfl, OLe.refl _⟩ | refine ⟨_, rfl, ?_⟩ | refine OLe.var ?_ | (show SLeL _ _; refine ⟨?_, ?_⟩) | (show SLeL [] []; exact True.intro) | (refine SLe.int ?_; rw [w64]; omega) | refine SLe.int ?_ | refine SLe.bool ?_ | apply And.intro)) ?_
  · exact ⟨Nat.zero_le _, by simp, by simp, rfl⟩
  rintro ⟨k, fr, t⟩ ⟨h1, h2, h3, h4⟩
  simp only at h1 h2 h3 h4
  have e1 : IntKind.i64.wrap ((k : Int) + 1) = ((k + 1 : Nat) : Int) := by rw [w64]; omega
  have hx : (s.extract fr (k + 1)).size ≤ 400000000 := by
    rw [size_L, L_extract, List.length_take, List.length_drop, ← size_L]; omega
  have hL : L (s.extract fr (k + 1)) = ((L s).drop fr).take (k + 1 - fr) := L_extract _ _ _
  repeat' (first | apply run_seq | apply run_region | apply runL_nil | refine runxP (by simp only [go_sem]; rfl) (by rfl) ?_ ?_ | exact True.intro | exact rfl)
  (refine run_cond (by simp only [go_sem]; rfl) ?_ ?_ <;> intro hb <;> have hc := hb <;> (try simp only [decide_eq_true_eq, decide_eq_false_iff_not, Int.not_lt, Int.not_le, Int.ofNat_lt, Int.ofNat_le, Bool.and_eq_true, Bool.or_eq_true, Bool.or_eq_false_iff, Bool.not_eq_true', Bool.not_eq_false', beq_iff_eq, beq_eq_false_iff_ne, bne_iff_ne, bne_eq_false_iff_eq] at hc) <;> (try (exfalso; simp at hc; done)))
  · have hl : k < (L s).length := by rw [← size_L]; exact hc
    have hcur : ((L s).drop fr).take (k + 1 - fr) = ((L s).drop fr).take (k - fr) ++ [s.data.toList.getD k 0] := by
      have h0 : k - fr < ((L s).drop fr).length := by rw [List.length_drop]; omega
      rw [show k + 1 - fr = (k - fr) + 1 by omega, List.take_add_one, List.getElem?_drop, show fr + (k - fr) = k by omega, List.getElem?_eq_getElem hl]
      simp [List.getD_eq_getElem?_getD, List.getElem?_eq_getElem hl]
    rw [drop8 _ _ hl] at h4
    repeat' (first | apply run_seq | apply run_skip | apply run_block | apply run_region | apply runL_nil | refine runxP (by simp only [go_sem, e1]; rfl) (by rfl) ?_ ?_ | exact rfl | (show allP _; first | exact True.intro | (simp only [allP, go_sem, Bool.not_eq_true', Bool.not_eq_false', implies_true, true_and, and_true, and_self, imp_self]; done) | (simp [allP, go_sem]; done) | (simp [allP, go_sem] at *; first | done | assumption | omega | (simp_all; done)) | (simp only [allP, go_sem]; intros; simp_all; done) | (simp only [allP, go_sem, ByteArray.size_append, size_mk, List.size_toArray, List.length_append, List.length_cons, List.length_nil, and_true, true_and]; (repeat' apply And.intro) <;> omega)))
    (refine run_cond (by simp only [go_sem]; rfl) ?_ ?_ <;> intro hb <;> have hc := hb <;> (try simp only [decide_eq_true_eq, decide_eq_false_iff_not, Int.not_lt, Int.not_le, Int.ofNat_lt, Int.ofNat_le, Bool.and_eq_true, Bool.or_eq_true, Bool.or_eq_false_iff, Bool.not_eq_true', Bool.not_eq_false', beq_iff_eq, beq_eq_false_iff_ne, bne_iff_ne, bne_eq_false_iff_eq] at hc) <;> (try (exfalso; simp at hc; done)))
    · repeat' (first | apply run_region | apply runL_nil | refine runxP (by simp only [go_sem, e1]; rfl) (by rfl) ?_ ?_ | refine run_exit (by rfl) ?_ | refine run_lp (k+1,fr,t) ?_ ?_ ⟨rfl, by simp only [go_sem]; repeat' (first | exact trivial | exact True.intro | exact SLe.refl _ | exact OLe.refl _ | exact ⟨_, rfl, OLe.refl _⟩ | refine ⟨_, rfl, ?_⟩ | refine OLe.var ?_ | (show SLeL _ _; refine ⟨?_, ?_⟩) | (show SLeL [] []; exact True.intro) | (refine SLe.int ?_; rw [w64]; omega) | refine SLe.int ?_ | refine SLe.bool ?_ | apply And.intro), by simp only [go_sem]; repeat' (first | exact trivial | exact True.intro | exact SLe.refl _ | exact OLe.refl _ | exact ⟨_, rfl, OLe.refl _⟩ | refine ⟨_, rfl, ?_⟩ | refine OLe.var ?_ | (show SLeL _ _; refine ⟨?_, ?_⟩) | (show SLeL [] []; exact True.intro) | (refine SLe.int ?_; rw [w64]; omega) | refine SLe.int ?_ | refine SLe.bool ?_ | apply And.intro)⟩ | exact True.intro | exact rfl | omega)
      refine ⟨by simp only; omega, by simp only; omega, by simp only; omega, ?_⟩
      rw [h4, recs_o _ _ _ (u8n _ 10 (by omega) hc)]
      simp only [hcur]
    · have hr := recs_10 (((L s).drop fr).take (k - fr)) ((L s).drop (k + 1)) ((L s).getD k 0) (u8i _ 10 (by omega) hc)
      rw [hr, ← hcur, ← hL, List.map_append, ← List.append_assoc] at h4
      repeat' (first | apply run_seq | apply run_skip | apply run_region | apply runL_nil | refine runxP (by simp only [go_sem, e1]; rfl) (by rfl) ?_ ?_ | refine stepcall K47 (by simp only [go_sem, e1]; first | done | rfl) ?_ ⟨s.extract fr (k+1), hx, rfl, rfl⟩ (by simp only [go_sem, e1]; rfl) ?_ | exact True.intro | exact rfl | (show allP _; first | exact True.intro | (simp only [allP, go_sem, Bool.not_eq_true', Bool.not_eq_false', implies_true, true_and, and_true, and_self, imp_self]; done) | (simp [allP, go_sem]; done) | (simp [allP, go_sem] at *; first | done | assumption | omega | (simp_all; done)) | (simp only [allP, go_sem]; intros; simp_all; done) | (simp only [allP, go_sem, ByteArray.size_append, size_mk, List.size_toArray, List.length_append, List.length_cons, List.length_nil, and_true, true_and]; (repeat' apply And.intro) <;> omega)))
      (refine run_cond (by simp only [go_sem]; rfl) ?_ ?_ <;> intro hb <;> have hc := hb <;> (try simp only [decide_eq_true_eq, decide_eq_false_iff_not, Int.not_lt, Int.not_le, Int.ofNat_lt, Int.ofNat_le, Bool.and_eq_true, Bool.or_eq_true, Bool.or_eq_false_iff, Bool.not_eq_true', Bool.not_eq_false', beq_iff_eq, beq_eq_false_iff_ne, bne_iff_ne, bne_eq_false_iff_eq] at hc) <;> (try (exfalso; simp at hc; done)))
      · have he : lineL (parse 0 (L (s.extract fr (k + 1)))) = L (s.extract fr (k + 1)) := by
          have := congrArg L hc
          exact this
        repeat' (first | apply run_blk | apply run_region | apply runL_nil | refine runxP (by simp only [go_sem, e1]; rfl) (by rfl) ?_ ?_ | refine run_lp (k+1,k+1,t++[B (parse 0 (L (s.extract fr (k+1))))]) ?_ ?_ ⟨rfl, by simp only [go_sem]; repeat' (first | exact trivial | exact True.intro | exact SLe.refl _ | exact OLe.refl _ | exact ⟨_, rfl, OLe.refl _⟩ | refine ⟨_, rfl, ?_⟩ | refine OLe.var ?_ | (show SLeL _ _; refine ⟨?_, ?_⟩) | (show SLeL [] []; exact True.intro) | (refine SLe.int ?_; rw [w64]; omega) | refine SLe.int ?_ | refine SLe.bool ?_ | apply And.intro | (exact OLe.snoc2 _ _)), by simp only [go_sem]; repeat' (first | exact trivial | exact True.intro | exact SLe.refl _ | exact OLe.refl _ | exact ⟨_, rfl, OLe.refl _⟩ | refine ⟨_, rfl, ?_⟩ | refine OLe.var ?_ | (show SLeL _ _; refine ⟨?_, ?_⟩) | (show SLeL [] []; exact True.intro) | (refine SLe.int ?_; rw [w64]; omega) | refine SLe.int ?_ | refine SLe.bool ?_ | apply And.intro | (exact OLe.snoc2 _ _))⟩ | exact True.intro | exact rfl | omega | (show allP _; first | exact True.intro | (simp only [allP, go_sem, Bool.not_eq_true', Bool.not_eq_false', implies_true, true_and, and_true, and_self, imp_self]; done) | (simp [allP, go_sem]; done) | (simp [allP, go_sem] at *; first | done | assumption | omega | (simp_all; done)) | (simp only [allP, go_sem]; intros; simp_all; done) | (simp only [allP, go_sem, ByteArray.size_append, size_mk, List.size_toArray, List.length_append, List.length_cons, List.length_nil, and_true, true_and]; (repeat' apply And.intro) <;> omega)))
        refine ⟨by simp only; omega, by simp only; omega, by simp only [List.length_append, List.length_cons, List.length_nil]; omega, ?_⟩
        rw [h4, recOf, if_pos he]; simp
      · have he : ¬ lineL (parse 0 (L (s.extract fr (k + 1)))) = L (s.extract fr (k + 1)) := fun h => hc (L_inj h)
        repeat' (first | apply run_skip | apply run_blk | apply run_region | apply runL_nil | refine runxP (by simp only [go_sem, e1]; rfl) (by rfl) ?_ ?_ | refine run_lp (k+1,k+1,t) ?_ ?_ ⟨rfl, by simp only [go_sem]; repeat' (first | exact trivial | exact True.intro | exact SLe.refl _ | exact OLe.refl _ | exact ⟨_, rfl, OLe.refl _⟩ | refine ⟨_, rfl, ?_⟩ | refine OLe.var ?_ | (show SLeL _ _; refine ⟨?_, ?_⟩) | (show SLeL [] []; exact True.intro) | (refine SLe.int ?_; rw [w64]; omega) | refine SLe.int ?_ | refine SLe.bool ?_ | apply And.intro), by simp only [go_sem]; repeat' (first | exact trivial | exact True.intro | exact SLe.refl _ | exact OLe.refl _ | exact ⟨_, rfl, OLe.refl _⟩ | refine ⟨_, rfl, ?_⟩ | refine OLe.var ?_ | (show SLeL _ _; refine ⟨?_, ?_⟩) | (show SLeL [] []; exact True.intro) | (refine SLe.int ?_; rw [w64]; omega) | refine SLe.int ?_ | refine SLe.bool ?_ | apply And.intro)⟩ | exact True.intro | exact rfl | omega)
        refine ⟨by simp only; omega, by simp only; omega, by simp only; omega, ?_⟩
        rw [h4, recOf, if_neg he]; simp
  · have ht : (recs [] (L s)).map B = t := by
      have hk : k = s.size := by omega
      rw [h4, hk, size_L, List.drop_length]
      show t ++ List.map B [] = t
      simp
    rw [ht]
    repeat' (first | refine run_frz 0 (by simp only [go_sem]; rfl) ?_ | apply run_seq | apply run_region | apply runL_nil | refine runxP (by simp only [go_sem]; rfl) (by rfl) ?_ ?_ | refine run_ret (by rfl) ?_ | refine run_exit (by rfl) ?_ | exact True.intro | exact rfl | exact SLe0.pure rfl)
theorem K24 : FnOK Tryz.prog 24 (fun ds d => ∃ a b : List ByteArray, ds = [strs a, strs b] ∧ d = .bool (decide (a = b))) := by
  refine fn_intro Tryz.call24 Tryz.func24 rfl Tryz.ntmps24 ?_
  rintro ds d ⟨a, b, rfl, rfl⟩
  refine ⟨by simp, fun w0 => ?_⟩
  repeat' (first | apply run_seq | apply run_skip | apply run_block | apply run_region | apply runL_nil | refine runxP (by simp only [go_sem]; rfl) (by rfl) ?_ ?_ | (refine run_cond (by simp only [go_sem]; rfl) ?_ ?_ <;> intro hb <;> have hc := hb <;> (try simp only [decide_eq_true_eq, decide_eq_false_iff_not, Int.not_lt, Int.not_le, Int.ofNat_lt, Int.ofNat_le, Bool.and_eq_true, Bool.or_eq_true, Bool.or_eq_false_iff, Bool.not_eq_true', Bool.not_eq_false', beq_iff_eq, beq_eq_false_iff_ne, bne_iff_ne, bne_eq_false_iff_eq] at hc) <;> (try (exfalso; simp at hc; done))) | refine run_ret (by rfl) ?_ | exact True.intro | exact rfl | refine SLe0.bool ?_)
  · have : a ≠ b := fun h => hc (by rw [h])
    simp [this]
  · have hlen : a.length = b.length := by omega
    refine run_len 0 rfl fun hl0 => ?_
    refine run_loopK [0, 1] (fun k : Nat => [(5, .int .i64 (k : Int))]) (fun k : Nat => []) (fun k : Nat => k ≤ a.length ∧ decide (a = b) = decide (a.drop k = b.drop k)) (fun k : Nat => a.length - k) 0 (fun x => by simp only [go_sem]; rfl) ?_ (by simp only [go_sem]; repeat' (first | exact trivial | exact True.intro | exact SLe.refl _ | exact OLe.refl _ | exact ⟨_, rfl, OLe.refl _⟩ | refine ⟨_, rfl, ?_⟩ | refine OLe.var ?_ | (show SLeL _ _; refine ⟨?_, ?_⟩) | (show SLeL [] []; exact True.intro) | (refine SLe.int ?_; rw [w64]; omega) | refine SLe.int ?_ | refine SLe.bool ?_ | apply And.intro)) (by simp only [go_sem]; repeat' (first | exact trivial | exact True.intro | exact SLe.refl _ | exact OLe.refl _ | exact ⟨_, rfl, OLe.refl _⟩ | refine ⟨_, rfl, ?_⟩ | refine OLe.var ?_ | (show SLeL _ _; refine ⟨?_, ?_⟩) | (show SLeL [] []; exact True.intro) | (refine SLe.int ?_; rw [w64]; omega) | refine SLe.int ?_ | refine SLe.bool ?_ | apply And.intro)) ?_
    · exact ⟨Nat.zero_le _, rfl⟩
    rintro k ⟨h1, h2⟩
    have e1 : IntKind.i64.wrap ((k : Int) + 1) = ((k + 1 : Nat) : Int) := by rw [w64]; omega
    repeat' (first | apply run_seq | apply run_skip | apply run_block | apply run_blk | apply run_region | apply run_draw | apply runL_nil | refine runxP (by simp only [go_sem, e1]; rfl) (by rfl) ?_ ?_ | refine runDqP (by simp only [go_sem, e1]; rfl) (by rfl) ?_ ?_ | refine runD_end (by kernel_rfl) (by kernel_rfl) ?_ | (refine run_cond (by simp only [go_sem, e1]; rfl) ?_ ?_ <;> intro hb <;> have hc := hb <;> (try simp only [decide_eq_true_eq, decide_eq_false_iff_not, Int.not_lt, Int.not_le, Int.ofNat_lt, Int.ofNat_le, Bool.and_eq_true, Bool.or_eq_true, Bool.or_eq_false_iff, Bool.not_eq_true', Bool.not_eq_false', beq_iff_eq, beq_eq_false_iff_ne, bne_iff_ne, bne_eq_false_iff_eq] at hc) <;> (try (exfalso; simp at hc; done))) | refine run_ret (by rfl) ?_ | refine run_exit (by rfl) ?_ | refine run_lp (k+1) ?_ ?_ ⟨rfl, by simp only [go_sem]; repeat' (first | exact trivial | exact True.intro | exact SLe.refl _ | exact OLe.refl _ | exact ⟨_, rfl, OLe.refl _⟩ | refine ⟨_, rfl, ?_⟩ | refine OLe.var ?_ | (show SLeL _ _; refine ⟨?_, ?_⟩) | (show SLeL [] []; exact True.intro) | (refine SLe.int ?_; rw [w64]; omega) | refine SLe.int ?_ | refine SLe.bool ?_ | apply And.intro), by simp only [go_sem]; repeat' (first | exact trivial | exact True.intro | exact SLe.refl _ | exact OLe.refl _ | exact ⟨_, rfl, OLe.refl _⟩ | refine ⟨_, rfl, ?_⟩ | refine OLe.var ?_ | (show SLeL _ _; refine ⟨?_, ?_⟩) | (show SLeL [] []; exact True.intro) | (refine SLe.int ?_; rw [w64]; omega) | refine SLe.int ?_ | refine SLe.bool ?_ | apply And.intro)⟩ | exact True.intro | exact rfl | omega | refine SLe0.bool ?_ | (show allP _; first | exact True.intro | (simp only [allP, go_sem, Bool.not_eq_true', Bool.not_eq_false', implies_true, true_and, and_true, and_self, imp_self]; done) | (simp [allP, go_sem]; done) | (simp [allP, go_sem] at *; first | done | assumption | omega | (simp_all; done)) | (simp only [allP, go_sem]; intros; simp_all; done) | (simp only [allP, go_sem, ByteArray.size_append, size_mk, List.size_toArray, List.length_append, List.length_cons, List.length_nil, and_true, true_and]; (repeat' apply And.intro) <;> omega)))
    · rw [h2, drop_get a k (by assumption), drop_get b k (by omega)]
      simp only [List.cons.injEq, hc, false_and, decide_false]
    · refine ⟨by omega, ?_⟩
      rw [h2, drop_get a k (by assumption), drop_get b k (by omega)]
      simp only [List.cons.injEq, hc, true_and]
    · rw [h2, List.drop_of_length_le (by omega), List.drop_of_length_le (by omega)]; simp
end Go.Sx
