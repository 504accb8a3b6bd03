/- Part of the proof that JournalMany returns true for every input: L22. -/
import Derived.Test.YtiddnjgnjmdobaaGreatDoorL15
import Derived.Test.YtiddnjgnjmdobaaGreatDoorL12
import Derived.Test.YtiddnjgnjmdobaaGreatDoorS3
set_option linter.unusedVariables false
set_option linter.unusedSimpArgs false
set_option linter.all false
/-! L22: what 'show' writes with. -/
namespace Go.Sx
open Go.Proofs Go.RowKit
attribute [local irreducible] Run RunL RunD SLe0 SLe OLe
set_option maxHeartbeats 2000000
set_option maxRecDepth 8000
set_option linter.unusedSimpArgs false
set_option linter.unusedVariables false
attribute [go_sem] apsS
theorem as202 : AsP Tryz.prog 202 206 := fun _ _ _ => by kernel_rfl
theorem joinB (l : List UInt8) (b : ByteArray) (i : Nat) (hi : i < l.length + b.size) : joinF l.length (byF l) (byF b.data.toList) i = byF (l ++ L b) i := by
  have hlb : b.data.toList.length = b.size := by simp
  simp only [joinF, byF]
  by_cases h : i < l.length
  · rw [if_pos h]
    simp only [List.getD_eq_getElem?_getD, List.getElem?_append_left h]
  · rw [if_neg h]
    simp only [List.getD_eq_getElem?_getD, List.getElem?_append_right (Nat.not_lt.1 h)]
theorem K157 : FnM Tryz.prog 157 (fun ds os d os' => ∃ (l : List UInt8), True ∧ ds = [.iface 202 (.loc 1000 0)] ∧ os = [.var [.acc 1001], .acc 5 1 l.length (byF l)] ∧ d = .iface 202 (.loc 1000 0) ∧ os' = [(1000, .var [.acc 1001]), (1001, .acc 5 1 l.length (byF l))]) := by
  refine fn_introM Tryz.call157 Tryz.func157 rfl Tryz.ntmps157 ?_
  rintro ds os d os' ⟨l, -, rfl, rfl, rfl, rfl⟩
  refine ⟨by simp, fun F w0 => ?_⟩
  repeat' (first | apply run_seq | apply run_skip | apply run_region | apply runL_nil | refine runxP (by simp only [go_sem]; rfl) (by rfl) ?_ ?_ | refine stepta as202 (by simp only [go_sem]; rfl) (by simp only [go_sem]; rfl) ?_ | (refine run_cond (by simp only [go_sem]; rfl) ?_ ?_ <;> intro hb <;> have hc := hb <;> (try simp only [decide_eq_true_eq, decide_eq_false_iff_not, Int.not_lt, Int.not_le, Int.ofNat_lt, Int.ofNat_le, Bool.and_eq_true, Bool.or_eq_true, Bool.or_eq_false_iff, Bool.not_eq_true', Bool.not_eq_false', beq_iff_eq, beq_eq_false_iff_ne, bne_iff_ne, bne_eq_false_iff_eq] at hc) <;> (try (exfalso; simp at hc; done))) | refine run_retM (by rfl) (by simp only [go_sem]; rfl) ?_ ?_ | exact True.intro | exact rfl | exact SLe.refl _ | (show subO _ _; simp only [go_sem]; repeat' (first | exact trivial | exact True.intro | exact SLe.refl _ | exact OLe.refl _ | exact ⟨_, rfl, OLe.refl _⟩ | refine ⟨_, rfl, ?_⟩ | refine OLe.var ?_ | (show SLeL _ _; refine ⟨?_, ?_⟩) | (show SLeL [] []; exact True.intro) | (refine SLe.int ?_; rw [w64]; omega) | refine SLe.int ?_ | refine SLe.bool ?_ | apply And.intro)))
theorem K165 : FnM Tryz.prog 165 (fun ds os d os' => ∃ (l : List UInt8) (b : ByteArray), (l.length + b.size ≤ 800000000) ∧ ds = [.loc 1000 0, .str b] ∧ os = [.var [.acc 1001], .acc 5 1 l.length (byF l)] ∧ d = .tup [eInt b.size, .nilif] ∧ os' = [(1000, .var [.acc 1001]), (1001, .acc 5 1 (l ++ L b).length (byF (l ++ L b)))]) := by
  refine fn_introM Tryz.call165 Tryz.func165 rfl Tryz.ntmps165 ?_
  rintro ds os d os' ⟨l, b, hl, rfl, rfl, rfl, rfl⟩
  refine ⟨by simp, fun F w0 => ?_⟩
  repeat' (first | apply run_seq | apply run_region | apply runL_nil | refine runxP (by simp only [go_sem]; rfl) (by rfl) ?_ ?_ | refine stepapS' (by simp only [go_sem]; rfl) (by simp only [go_sem]; rfl) ?_ (by simp only [go_sem]; rfl) (by first | exact tU57 | exact tU201 | exact tU9 | exact tU5) (by first | exact tU57 | exact tU201 | exact tU9 | exact tU5) (by kernel_rfl) ?_ (by simp only [go_sem]; rfl) ?_ | exact True.intro | exact rfl | omega)
  refine run_accLe (o' := .acc 5 1 (l ++ L b).length (byF (l ++ L b))) 1001 (by rfl) (OLe.accS (by simp [L]) fun i hi => joinB l b i hi) ?_
  repeat' (first | refine run_retM (by rfl) (by simp only [go_sem]; rfl) ?_ ?_ | exact SLe.refl _ | (show subO _ _; simp only [go_sem]; repeat' (first | exact trivial | exact True.intro | exact SLe.refl _ | exact OLe.refl _ | exact ⟨_, rfl, OLe.refl _⟩ | refine ⟨_, rfl, ?_⟩ | refine OLe.var ?_ | (show SLeL _ _; refine ⟨?_, ?_⟩) | (show SLeL [] []; exact True.intro) | (refine SLe.int ?_; rw [w64]; omega) | refine SLe.int ?_ | refine SLe.bool ?_ | apply And.intro)))
end Go.Sx
