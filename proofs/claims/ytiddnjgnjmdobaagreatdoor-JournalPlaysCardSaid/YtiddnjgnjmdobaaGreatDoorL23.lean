/- Part of the proofs that the laws of the journal return true for every input: L22, L23. -/
import Derived.Test.YtiddnjgnjmdobaaGreatDoorL15
import Derived.Test.YtiddnjgnjmdobaaGreatDoorL12
import Derived.Test.YtiddnjgnjmdobaaGreatDoorS3
set_option linter.unusedVariables false
set_option linter.unusedSimpArgs false
set_option linter.all false
/-! L22: what 'show' writes with. -/
namespace Go.Sx
open Go.Proofs Go.RowKit
attribute [local irreducible] Run RunL RunD SLe0 SLe OLe
set_option maxHeartbeats 2000000
set_option maxRecDepth 8000
set_option linter.unusedSimpArgs false
set_option linter.unusedVariables false
attribute [go_sem] apsS
theorem as202 : AsP Tryz.prog 202 206 := fun _ _ _ => by kernel_rfl
theorem joinB (l : List UInt8) (b : ByteArray) (i : Nat) (hi : i < l.length + b.size) : joinF l.length (byF l) (byF b.data.toList) i = byF (l ++ L b) i := by
  have hlb : b.data.toList.length = b.size := by simp
  simp only [joinF, byF]
  by_cases h : i < l.length
  · rw [if_pos h]
    simp only [List.getD_eq_getElem?_getD, List.getElem?_append_left h]
  · rw [if_neg h]
    simp only [List.getD_eq_getElem?_getD, List.getElem?_append_right (Nat.not_lt.1 h)]
theorem K157 : FnM Tryz.prog 157 (fun ds os d os' => ∃ (l : List UInt8), True ∧ ds = [.iface 202 (.loc 1000 0)] ∧ os = [.var [.acc 1001], .acc 5 1 l.length (byF l)] ∧ d = .iface 202 (.loc 1000 0) ∧ os' = [(1000, .var [.acc 1001]), (1001, .acc 5 1 l.length (byF l))]) := by
  refine fn_introM Tryz.call157 Tryz.func157 rfl Tryz.ntmps157 ?_
  rintro ds os d os' ⟨l, -, rfl, rfl, rfl, rfl⟩
  refine ⟨by simp, fun F w0 => ?_⟩
  repeat' (first | apply run_seq | apply run_skip | apply run_region | apply runL_nil | refine runxP (by simp only [go_sem]; rfl) (by rfl) ?_ ?_ | refine stepta as202 (by simp only [go_sem]; rfl) (by simp only [go_sem]; rfl) ?_ | (refine run_cond (by simp only [go_sem]; rfl) ?_ ?_ <;> intro hb <;> have hc := hb <;> (try simp only [decide_eq_true_eq, decide_eq_false_iff_not, Int.not_lt, Int.not_le, Int.ofNat_lt, Int.ofNat_le, Bool.and_eq_true, Bool.or_eq_true, Bool.or_eq_false_iff, Bool.not_eq_true', Bool.not_eq_false', beq_iff_eq, beq_eq_false_iff_ne, bne_iff_ne, bne_eq_false_iff_eq] at hc) <;> (try (exfalso; simp at hc; done))) | refine run_retM (by rfl) (by simp only [go_sem]; rfl) ?_ ?_ | exact True.intro | exact rfl | exact SLe.refl _ | (show subO _ _; simp only [go_sem]; repeat' (first | exact trivial | exact True.intro | exact SLe.refl _ | exact OLe.refl _ | exact ⟨_, rfl, OLe.refl _⟩ | refine ⟨_, rfl, ?_⟩ | refine OLe.var ?_ | (show SLeL _ _; refine ⟨?_, ?_⟩) | (show SLeL [] []; exact True.intro) | (refine SLe.int ?_; rw [w64]; omega) | refine SLe.int ?_ | refine SLe.bool ?_ | apply And.intro)))
theorem K165 : FnM Tryz.prog 165 (fun ds os d os' => ∃ (l : List UInt8) (b : ByteArray), (l.length + b.size ≤ 800000000) ∧ ds = [.loc 1000 0, .str b] ∧ os = [.var [.acc 1001], .acc 5 1 l.length (byF l)] ∧ d = .tup [eInt b.size, .nilif] ∧ os' = [(1000, .var [.acc 1001]), (1001, .acc 5 1 (l ++ L b).length (byF (l ++ L b)))]) := by
  refine fn_introM Tryz.call165 Tryz.func165 rfl Tryz.ntmps165 ?_
  rintro ds os d os' ⟨l, b, hl, rfl, rfl, rfl, rfl⟩
  refine ⟨by simp, fun F w0 => ?_⟩
  repeat' (first | apply run_seq | apply run_region | apply runL_nil | refine runxP (by simp only [go_sem]; rfl) (by rfl) ?_ ?_ | refine stepapS' (by simp only [go_sem]; rfl) (by simp only [go_sem]; rfl) ?_ (by simp only [go_sem]; rfl) (by first | exact tU57 | exact tU201 | exact tU9 | exact tU5) (by first | exact tU57 | exact tU201 | exact tU9 | exact tU5) (by kernel_rfl) ?_ (by simp only [go_sem]; rfl) ?_ | exact True.intro | exact rfl | omega)
  refine run_accLe (o' := .acc 5 1 (l ++ L b).length (byF (l ++ L b))) 1001 (by rfl) (OLe.accS (by simp [L]) fun i hi => joinB l b i hi) ?_
  repeat' (first | refine run_retM (by rfl) (by simp only [go_sem]; rfl) ?_ ?_ | exact SLe.refl _ | (show subO _ _; simp only [go_sem]; repeat' (first | exact trivial | exact True.intro | exact SLe.refl _ | exact OLe.refl _ | exact ⟨_, rfl, OLe.refl _⟩ | refine ⟨_, rfl, ?_⟩ | refine OLe.var ?_ | (show SLeL _ _; refine ⟨?_, ?_⟩) | (show SLeL [] []; exact True.intro) | (refine SLe.int ?_; rw [w64]; omega) | refine SLe.int ?_ | refine SLe.bool ?_ | apply And.intro)))
end Go.Sx

/-! L23: 'show' reads a line's text back. -/
namespace Go.Sx
open Go.Proofs Go.RowKit
attribute [local irreducible] Run RunL RunD SLe0 SLe OLe
set_option maxHeartbeats 2000000
set_option maxRecDepth 8000
set_option linter.unusedSimpArgs false
set_option linter.unusedVariables false
def unL : List UInt8 → List UInt8
  | 92 :: 92 :: r => 92 :: unL r
  | 92 :: 110 :: r => 10 :: unL r
  | c :: r => c :: unL r
  | [] => []
theorem unL_92 (r : List UInt8) : unL (92 :: 92 :: r) = 92 :: unL r := by simp [unL]
theorem unL_110 (r : List UInt8) : unL (92 :: 110 :: r) = 10 :: unL r := by simp [unL]
theorem unL_c (c : UInt8) (r : List UInt8) (h : c ≠ 92) : unL (c :: r) = c :: unL r := by
  cases r with
  | nil => simp [unL]
  | cons d r => rw [unL.eq_def]; split <;> simp_all
theorem unL_b (c : UInt8) (r : List UInt8) (h : c ≠ 92) (h' : c ≠ 110) : unL (92 :: c :: r) = 92 :: unL (c :: r) := by
  rw [unL.eq_def]; split <;> simp_all
theorem unL_b1 : unL [92] = [92] := by simp [unL]
theorem unL_le (l : List UInt8) : (unL l).length ≤ l.length := by
  induction l using unL.induct <;> simp only [unL, List.length_cons, List.length_nil] <;> first | omega | skip
  all_goals (rw [unL.eq_def]; split <;> simp_all; omega)
theorem K158 : FnOK Tryz.prog 158 (fun ds d => ∃ t : ByteArray, (t.size ≤ 400000000 ∧ (L t = [] ∨ ∃ r, L t = 92 :: r)) ∧ ds = [.fp treeS, .str t, .bool false] ∧ d = .tup [.str (lkS (L t)).1, .int .i64 (lkS (L t)).2.1, .bool (lkS (L t)).2.2]) := by
  refine ⟨K158a.call, fun ds d ⟨t, ⟨ht, hl⟩, h1, h2⟩ => ?_⟩
  have hB : t = B (L t) := rfl
  have hsz : t.size = (L t).length := by simp [L]
  rcases hl with hl | ⟨r, hl⟩
  · rw [hl] at h2 hB
    refine K158a.ok ds d ⟨by rw [h1, hB]; rfl, by rw [h2]; rfl⟩
  · rw [hl] at h2 hB hsz
    cases r with
    | nil => exact K158b.ok ds d ⟨by rw [h1, hB], by rw [h2]; rfl⟩
    | cons b r =>
      simp only [List.length_cons] at hsz
      by_cases hb : b = 92
      · subst hb
        exact K158c.ok ds d ⟨r, by omega, by rw [h1, hB], by rw [h2]; rfl⟩
      · by_cases hb' : b = 110
        · subst hb'
          exact K158d.ok ds d ⟨r, by omega, by rw [h1, hB], by rw [h2]; rfl⟩
        · refine K158e.ok ds d ⟨b, r, ⟨by omega, hb, hb'⟩, by rw [h1, hB], ?_⟩
          have : lkS (92 :: b :: r) = (ByteArray.empty, 0, false) := by
            rw [lkS]
            · intro x hx; simp at hx; exact hb hx.1
            · intro x hx; simp at hx; exact hb' hx.1
          rw [h2, this]
end Go.Sx
