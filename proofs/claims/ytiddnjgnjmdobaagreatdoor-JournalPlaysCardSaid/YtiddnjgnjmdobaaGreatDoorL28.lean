/- Part of the proofs that the laws of the journal return true for every input: L28. -/
import Derived.Test.YtiddnjgnjmdobaaGreatDoorL27
import Derived.Test.YtiddnjgnjmdobaaGreatDoorS3
set_option linter.unusedVariables false
set_option linter.unusedSimpArgs false
set_option linter.all false
/-! L28: the functions that make the iterators. -/
namespace Go.Sx
open Go.Proofs Go.RowKit
attribute [local irreducible] Run RunL RunD OpT SLe0 SLe OLe
set_option maxHeartbeats 2000000
set_option maxRecDepth 8000
set_option linter.unusedSimpArgs false
set_option linter.unusedVariables false
theorem K43 : FnOK Tryz.prog 43 (fun ds d => ∃ s : ByteArray, ds = [.str s] ∧ d = .fn 50 [.fp [.str s]]) := by
  refine fn_intro Tryz.call43 Tryz.func43 rfl Tryz.ntmps43 ?_
  rintro ds d ⟨s, rfl, rfl⟩
  refine ⟨by simp, fun w0 => ?_⟩
  repeat' (first | refine run_frz 0 (by simp only [go_sem]; rfl) ?_ | apply run_seq | apply run_region | apply runL_nil | refine runxP (by simp only [go_sem]; rfl) (by rfl) ?_ ?_ | refine run_ret (by rfl) ?_ | exact True.intro | exact rfl | exact SLe0.pure rfl)
theorem K60 : FnM Tryz.prog 60 (fun ds os d os' => ∃ s : ByteArray, True ∧ ds = [.str s, .str (B [10]), .int .i64 1] ∧ os = [] ∧ d = .fn 68 [.fp [.str (B [10])], .loc 0 0, .fp [.int .i64 1]] ∧ os' = [(0, .var [.str s])]) := by
  refine fn_introM Tryz.call60 Tryz.func60 rfl Tryz.ntmps60 ?_
  rintro ds os d os' ⟨s, -, rfl, rfl, rfl, rfl⟩
  refine ⟨by simp, fun F w0 => ?_⟩
  repeat' (first | refine run_frz 1 (by simp only [go_sem]; rfl) ?_ | refine run_frz 2 (by simp only [go_sem]; rfl) ?_ | apply run_seq | apply run_region | apply runL_nil | refine runxP (by simp only [go_sem]; rfl) (by rfl) ?_ ?_ | refine run_retM (by rfl) (by simp only [go_sem]; rfl) ?_ ?_ | exact True.intro | exact rfl | exact SLe.refl _ | (show subO _ _; simp only [go_sem]; repeat' (first | exact trivial | exact True.intro | exact SLe.refl _ | exact OLe.refl _ | exact ⟨_, rfl, OLe.refl _⟩ | refine ⟨_, rfl, ?_⟩ | refine OLe.var ?_ | (show SLeL _ _; refine ⟨?_, ?_⟩) | (show SLeL [] []; exact True.intro) | (refine SLe.int ?_; rw [w64]; omega) | refine SLe.int ?_ | refine SLe.bool ?_ | apply And.intro)))
theorem K51 : FnM Tryz.prog 51 (fun ds os d os' => ∃ s : ByteArray, True ∧ ds = [.str s, .str (B [10])] ∧ os = [] ∧ d = .fn 68 [.fp [.str (B [10])], .loc 0 0, .fp [.int .i64 1]] ∧ os' = [(0, .var [.str s])]) := by
  refine fn_introM Tryz.call51 Tryz.func51 rfl Tryz.ntmps51 ?_
  rintro ds os d os' ⟨s, -, rfl, rfl, rfl, rfl⟩
  refine ⟨by simp, fun F w0 => ?_⟩
  have h2 : (((B [10]).size : Nat) : Int) = 1 := rfl
  repeat' (first | apply run_seq | apply run_region | apply runL_nil | refine runxP (by simp only [go_sem, h2]; rfl) (by rfl) ?_ ?_ | refine stepcallM [] K60 (by rfl) (by simp only [go_sem, h2]; first | done | rfl) (by simp only [go_sem, h2]) (by first | (simp only [go_sem, h2]; done) | (simp only [go_sem, h2]; rfl)) ?_ ⟨s, trivial, rfl, rfl, rfl, rfl⟩ (by simp only [go_sem, h2]; rfl) ?_ | refine run_retM (by rfl) (by simp only [go_sem, h2]; rfl) ?_ ?_ | exact True.intro | exact rfl | exact SLe.refl _ | (show subO _ _; simp only [go_sem, h2]; repeat' (first | exact trivial | exact True.intro | exact SLe.refl _ | exact OLe.refl _ | exact ⟨_, rfl, OLe.refl _⟩ | refine ⟨_, rfl, ?_⟩ | refine OLe.var ?_ | (show SLeL _ _; refine ⟨?_, ?_⟩) | (show SLeL [] []; exact True.intro) | (refine SLe.int ?_; rw [w64]; omega) | refine SLe.int ?_ | refine SLe.bool ?_ | apply And.intro)))
end Go.Sx
