/- Part of the proofs that the laws of the journal return true for every input: L19. -/
import Derived.Test.YtiddnjgnjmdobaaGreatDoorL18
import Derived.Test.YtiddnjgnjmdobaaGreatDoorL12
set_option linter.unusedVariables false
set_option linter.unusedSimpArgs false
set_option linter.all false
/-! L19: the program's line, told that its decimals and its hex are right. -/
namespace Go.Sx
open Go.Proofs Go.RowKit
attribute [local irreducible] Run RunL RunD SLe0 SLe OLe
set_option maxHeartbeats 2000000
set_option maxRecDepth 8000
set_option linter.unusedSimpArgs false
set_option linter.unusedVariables false
theorem K44of (K55 : FnOK Tryz.prog 55 (fun ds d => ∃ n : Nat, n ≤ 400000000 ∧ ds = [eInt n] ∧ d = .str (B (decL n))))
    (K56 : FnOK Tryz.prog 56 (fun ds d => ∃ s : ByteArray, s.size ≤ 1000 ∧ ds = [.str s] ∧ d = .str (B (hexL (L s))))) :
    FnOK Tryz.prog 44 (fun ds d => ∃ s : ByteArray, s.size ≤ 400000000 ∧ ds = [.str s] ∧ d = .str (liB s)) := by
  refine fn_intro Tryz.call44 Tryz.func44 rfl Tryz.ntmps44 ?_
  rintro ds d ⟨s, hs, rfl, rfl⟩
  refine ⟨by simp, fun w0 => ?_⟩
  have l1 : (decL s.size).length ≤ 12 := decL_len _ _ (by omega) (by omega)
  have l3 : (B (dgR s)).size ≤ 1000 := by rw [size_B, dgR_len]; omega
  have l2 : (hexL (L (B (dgR s)))).length = 16 := by show (hexL (dgR s)).length = 16; rw [hexL_len, dgR_len]
  have l4 := escL_len (L s)
  rw [← size_L] at l4
  repeat' (first | apply run_seq | apply run_region | apply runL_nil | refine runxP (by simp only [go_sem]; rfl) (by rfl) ?_ ?_ | refine stepcall K55 (by simp only [go_sem]; first | done | rfl) ?_ ⟨s.size, hs, rfl, rfl⟩ (by simp only [go_sem]; rfl) ?_ | refine stepcall K37 (by simp only [go_sem]; first | done | rfl) ?_ ⟨s, by omega, rfl, rfl⟩ (by simp only [go_sem]; rfl) ?_ | refine stepcall K56 (by simp only [go_sem]; first | done | rfl) ?_ ⟨B (dgR s), l3, rfl, rfl⟩ (by simp only [go_sem]; rfl) ?_ | refine stepcall K57 (by simp only [go_sem]; first | done | rfl) ?_ ⟨s, hs, rfl, rfl⟩ (by simp only [go_sem]; rfl) ?_ | refine run_ret (by rfl) ?_ | exact True.intro | exact rfl | refine SLe0.str ?_ | (show allP _; first | exact True.intro | (simp only [allP, go_sem, Bool.not_eq_true', Bool.not_eq_false', implies_true, true_and, and_true, and_self, imp_self]; done) | (simp [allP, go_sem]; done) | (simp [allP, go_sem] at *; first | done | assumption | omega | (simp_all; done)) | (simp only [allP, go_sem]; intros; simp_all; done) | (simp only [allP, go_sem, ByteArray.size_append, size_mk, List.size_toArray, List.length_append, List.length_cons, List.length_nil, and_true, true_and]; (repeat' apply And.intro) <;> omega)))
end Go.Sx
