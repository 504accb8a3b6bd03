/- Part of the proofs that the laws of the journal return true for every input: L25. -/
import Derived.Test.YtiddnjgnjmdobaaGreatDoorL24
set_option linter.unusedVariables false
set_option linter.unusedSimpArgs false
set_option linter.all false
/-! L25: 'show'. -/
namespace Go.Sx
open Go.Proofs Go.RowKit
attribute [local irreducible] Run RunL RunD OpT SLe0 SLe OLe
set_option maxHeartbeats 2000000
set_option maxRecDepth 8000
set_option linter.unusedSimpArgs false
set_option linter.unusedVariables false
theorem K155 : FnOK Tryz.prog 155 (fun ds d => ∃ s : ByteArray, s.size ≤ 400000000 ∧ ds = [.fp treeS, .str s] ∧ d = .str (B (unL (L s)))) := by
  refine fn_intro Tryz.call155 Tryz.func155 rfl Tryz.ntmps155 ?_
  rintro ds d ⟨s, hs, rfl, rfl⟩
  refine ⟨by simp, fun w0 => ?_⟩
  iterate 8 any_goals (first | apply run_seq | apply run_region | apply runL_nil | refine runxP (by simp only [go_sem]; rfl) (by rfl) ?_ ?_ | exact True.intro | exact rfl | (show allP _; first | exact True.intro | (simp only [allP, go_sem, Bool.not_eq_true', Bool.not_eq_false', implies_true, true_and, and_true, and_self, imp_self]; done) | (simp [allP, go_sem]; done) | (simp [allP, go_sem] at *; first | done | assumption | omega | (simp_all; done)) | (simp only [allP, go_sem]; intros; simp_all; done) | (simp only [allP, go_sem, ByteArray.size_append, size_mk, List.size_toArray, List.length_append, List.length_cons, List.length_nil, and_true, true_and]; (repeat' apply And.intro) <;> omega)))
  refine run_accLe (o' := .acc 5 1 0 (byF [])) 0 (by rfl) (OLe.accS rfl fun i hi => absurd hi (by omega)) ?_
  repeat' (first | apply run_seq | apply run_region | apply runL_nil | refine runxP (by simp only [go_sem]; rfl) (by rfl) ?_ ?_ | refine stepcallM [1, 0] K156 (by rfl) (by simp only [go_sem]; first | done | rfl) (by simp only [go_sem]) (by first | (simp only [go_sem]; done) | (simp only [go_sem]; rfl)) ?_ ⟨s, hs, rfl, rfl, rfl, rfl⟩ (by simp only [go_sem]; rfl) ?_ | refine stepcvA (unL (L s)) (by simp only [go_sem]; rfl) (by simp only [go_sem]; rfl) ?_ ?_ (by first | exact tU57 | exact tU201 | exact tU9 | exact tU5) (by first | exact tU57 | exact tU201 | exact tU9 | exact tU5) (by first | exact tU57 | exact tU201 | exact tU9 | exact tU5) (by simp only [go_sem]; rfl) ?_ | refine run_ret (by rfl) ?_ | exact True.intro | exact rfl | refine SLe0.str ?_)
  intro i hi; rfl
theorem K64s : FnM Tryz.prog 64 (fun ds os d os' => ∃ s : ByteArray, s.size ≤ 400000000 ∧ ds = [.loc 1000 0, .str s] ∧ os = [eRp 0 showA] ∧ d = .str (B (unL (L s))) ∧ os' = [(1000, eRd (.iface 141 (.fp treeS)))]) := by
  refine fn_introM Tryz.call64 Tryz.func64 rfl Tryz.ntmps64 ?_
  rintro ds os d os' ⟨s, hsz, rfl, rfl, rfl, rfl⟩
  refine ⟨by simp, fun F w0 => ?_⟩
  repeat' (first | apply run_seq | apply run_region | apply runL_nil | refine runxP (by simp only [go_sem]; rfl) (by rfl) ?_ ?_ | refine stepcallM [1000] K73s (by rfl) (by simp only [go_sem]; first | done | rfl) (by simp only [go_sem]) (by first | (simp only [go_sem]; done) | (simp only [go_sem]; rfl)) ?_ ⟨trivial, rfl, rfl, rfl, rfl⟩ (by simp only [go_sem]; rfl) ?_ | refine run_retM (by rfl) (by simp only [go_sem]; rfl) ?_ ?_ | refine stepinv meth141 K155 (by simp only [go_sem]; rfl) (by rfl) (by simp only [go_sem]; first | done | rfl) ?_ ⟨s, hsz, rfl, rfl⟩ (by simp only [go_sem]; rfl) ?_ | exact True.intro | exact rfl | exact SLe.refl _ | (show subO _ _; simp only [go_sem]; repeat' (first | exact trivial | exact True.intro | exact SLe.refl _ | exact OLe.refl _ | exact ⟨_, rfl, OLe.refl _⟩ | refine ⟨_, rfl, ?_⟩ | refine OLe.var ?_ | (show SLeL _ _; refine ⟨?_, ?_⟩) | (show SLeL [] []; exact True.intro) | (refine SLe.int ?_; rw [w64]; omega) | refine SLe.int ?_ | refine SLe.bool ?_ | apply And.intro)))
theorem K54 : FnOK Tryz.prog 54 (fun ds d => ∃ s : ByteArray, s.size ≤ 400000000 ∧ ds = [.str s] ∧ d = .str (B (unL (L s)))) := by
  refine fn_intro Tryz.call54 Tryz.func54 rfl Tryz.ntmps54 ?_
  rintro ds d ⟨s, hsz, rfl, rfl⟩
  refine ⟨by simp, fun w0 => ?_⟩
  repeat' (first | apply run_seq | apply run_region | apply runL_nil | refine runxP (by simp only [go_sem]; rfl) (by rfl) ?_ ?_ | refine stepcallM [] K63 (by rfl) (by simp only [go_sem]; first | done | rfl) (by simp only [go_sem]) (by first | (simp only [go_sem]; done) | (simp only [go_sem]; rfl)) ?_ ⟨showA, rfl, rfl, rfl, rfl, rfl⟩ (by simp only [go_sem]; rfl) ?_ | refine stepcallM [1] K64s (by rfl) (by simp only [go_sem]; first | done | rfl) (by simp only [go_sem]) (by first | (simp only [go_sem]; done) | (simp only [go_sem]; rfl)) ?_ ⟨s, hsz, rfl, rfl, rfl, rfl⟩ (by simp only [go_sem]; rfl) ?_ | refine run_ret (by rfl) ?_ | exact True.intro | exact rfl | refine SLe0.str ?_)
end Go.Sx
