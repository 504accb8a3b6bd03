/- Part of the proofs that the laws of the journal return true for every input: L38a. -/
import Derived.Test.YtiddnjgnjmdobaaGreatDoorL36
set_option linter.unusedVariables false
set_option linter.unusedSimpArgs false
set_option linter.all false
/-! L38a: a disk that is written and synced. -/
namespace Go.Sx
open Go.Proofs Go.RowKit
attribute [local irreducible] Run RunL RunD OpT SLe0 SLe OLe
set_option maxHeartbeats 2000000
set_option maxRecDepth 8000
set_option linter.unusedSimpArgs false
set_option linter.unusedVariables false
theorem eapp (s : ByteArray) : ByteArray.empty ++ s = s := by simp
theorem K14w : FnM Tryz.prog 14 (fun ds os d os' => ∃ s : ByteArray, s.size ≤ 400000000 ∧ ds = [.loc 1000 0, .str s] ∧ os = [eDk (wk ByteArray.empty)] ∧ d = .bool true ∧ os' = [(1000, eDk ⟨s, (s.size : Int), false, false, 0⟩)]) := by
  refine K14.weaken ?_
  rintro ds os d os' ⟨s, hs, rfl, rfl, rfl, rfl⟩
  have w : IntKind.i64.wrap ((0 : Int) + (s.size : Int)) = (s.size : Int) := by rw [w64]; omega
  have e : wrD (wk ByteArray.empty) s = ⟨s, (s.size : Int), false, false, 0⟩ := by
    simp only [wrD, wOk, wDk, wk, Bool.not_false, Bool.true_and, Bool.false_and, cond_true, cond_false, eapp, w]
  exact ⟨wk ByteArray.empty, s, by simp [wk]; omega, rfl, rfl, rfl, by rw [e]⟩
theorem K16w : FnM Tryz.prog 16 (fun ds os d os' => ∃ (s : ByteArray) (p : Int), True ∧ ds = [.loc 1000 0] ∧ os = [eDk ⟨s, p, false, false, 0⟩] ∧ d = .bool true ∧ os' = [(1000, eDk (wk s))]) := by
  refine K16.weaken ?_
  rintro ds os d os' ⟨s, p, -, rfl, rfl, rfl, rfl⟩
  exact ⟨⟨s, p, false, false, 0⟩, trivial, rfl, rfl, rfl, rfl⟩
end Go.Sx
