/- Part of the proofs that the laws of the journal return true for every input: L12. -/
import Derived.Test.YtiddnjgnjmdobaaGreatDoorL11
set_option linter.unusedVariables false
set_option linter.unusedSimpArgs false
set_option linter.all false
/-! L12: 'hide'. -/
namespace Go.Sx
open Go.Proofs Go.RowKit
attribute [local irreducible] Run RunL RunD SLe0 SLe OLe
set_option maxHeartbeats 2000000
set_option maxRecDepth 8000
set_option linter.unusedSimpArgs false
set_option linter.unusedVariables false
theorem K74h : FnM Tryz.prog 74 (fun ds os d os' => ∃ lk : Int, True ∧ ds = [.loc 1000 0] ∧ os = [eRp lk hideA] ∧ d = .tup [] ∧ os' = [(1000, eRu (.iface 148 (.fp tabH)) lk)]) := by
  refine fn_introM Tryz.call74 Tryz.func74 rfl Tryz.ntmps74 ?_
  rintro ds os d os' ⟨lk, -, rfl, rfl, rfl, rfl⟩
  refine ⟨by simp, fun F w0 => ?_⟩
  repeat' (first | apply run_seq | apply run_region | apply runL_nil | refine runxP (by simp only [go_sem]; rfl) (by rfl) ?_ ?_ | refine stepcallM [1000] K83h (by rfl) (by simp only [go_sem]; first | done | rfl) (by simp only [go_sem]) (by first | (simp only [go_sem]; done) | (simp only [go_sem]; rfl)) ?_ ⟨lk, trivial, rfl, rfl, rfl, rfl⟩ (by simp only [go_sem]; rfl) ?_ | refine run_endM (by rfl) ?_ ?_ | exact True.intro | exact rfl | exact SLe.refl _ | (show subO _ _; simp only [go_sem]; repeat' (first | exact trivial | exact True.intro | exact SLe.refl _ | exact OLe.refl _ | exact ⟨_, rfl, OLe.refl _⟩ | refine ⟨_, rfl, ?_⟩ | refine OLe.var ?_ | (show SLeL _ _; refine ⟨?_, ?_⟩) | (show SLeL [] []; exact True.intro) | (refine SLe.int ?_; rw [w64]; omega) | refine SLe.int ?_ | refine SLe.bool ?_ | apply And.intro)))
theorem K73h : FnM Tryz.prog 73 (fun ds os d os' => True ∧ ds = [.loc 1000 0, .bfn (.func 74) [.loc 1000 0]] ∧ os = [eRp 0 hideA] ∧ d = .tup [] ∧ os' = [(1000, eRd (.iface 148 (.fp tabH)))]) := K73of hideA (.iface 148 (.fp tabH)) K74h
theorem K64h : FnM Tryz.prog 64 (fun ds os d os' => ∃ s : ByteArray, s.size ≤ 400000000 ∧ ds = [.loc 1000 0, .str s] ∧ os = [eRp 0 hideA] ∧ d = .str (B (escL (L s))) ∧ os' = [(1000, eRd (.iface 148 (.fp tabH)))]) := by
  refine fn_introM Tryz.call64 Tryz.func64 rfl Tryz.ntmps64 ?_
  rintro ds os d os' ⟨s, hsz, rfl, rfl, rfl, rfl⟩
  refine ⟨by simp, fun F w0 => ?_⟩
  repeat' (first | apply run_seq | apply run_region | apply runL_nil | refine runxP (by simp only [go_sem]; rfl) (by rfl) ?_ ?_ | refine stepcallM [1000] K73h (by rfl) (by simp only [go_sem]; first | done | rfl) (by simp only [go_sem]) (by first | (simp only [go_sem]; done) | (simp only [go_sem]; rfl)) ?_ ⟨trivial, rfl, rfl, rfl, rfl⟩ (by simp only [go_sem]; rfl) ?_ | refine run_retM (by rfl) (by simp only [go_sem]; rfl) ?_ ?_ | refine stepinv meth148 K161 (by simp only [go_sem]; rfl) (by rfl) (by simp only [go_sem]; first | done | rfl) ?_ ⟨s, hsz, rfl, rfl⟩ (by simp only [go_sem]; rfl) ?_ | exact True.intro | exact rfl | exact SLe.refl _ | (show subO _ _; simp only [go_sem]; repeat' (first | exact trivial | exact True.intro | exact SLe.refl _ | exact OLe.refl _ | exact ⟨_, rfl, OLe.refl _⟩ | refine ⟨_, rfl, ?_⟩ | refine OLe.var ?_ | (show SLeL _ _; refine ⟨?_, ?_⟩) | (show SLeL [] []; exact True.intro) | (refine SLe.int ?_; rw [w64]; omega) | refine SLe.int ?_ | refine SLe.bool ?_ | apply And.intro)))
theorem K57 : FnOK Tryz.prog 57 (fun ds d => ∃ s : ByteArray, s.size ≤ 400000000 ∧ ds = [.str s] ∧ d = .str (B (escL (L s)))) := by
  refine fn_intro Tryz.call57 Tryz.func57 rfl Tryz.ntmps57 ?_
  rintro ds d ⟨s, hsz, rfl, rfl⟩
  refine ⟨by simp, fun w0 => ?_⟩
  repeat' (first | apply run_seq | apply run_region | apply runL_nil | refine runxP (by simp only [go_sem]; rfl) (by rfl) ?_ ?_ | refine stepcallM [] K63 (by rfl) (by simp only [go_sem]; first | done | rfl) (by simp only [go_sem]) (by first | (simp only [go_sem]; done) | (simp only [go_sem]; rfl)) ?_ ⟨hideA, rfl, rfl, rfl, rfl, rfl⟩ (by simp only [go_sem]; rfl) ?_ | refine stepcallM [1] K64h (by rfl) (by simp only [go_sem]; first | done | rfl) (by simp only [go_sem]) (by first | (simp only [go_sem]; done) | (simp only [go_sem]; rfl)) ?_ ⟨s, hsz, rfl, rfl, rfl, rfl⟩ (by simp only [go_sem]; rfl) ?_ | refine run_ret (by rfl) ?_ | exact True.intro | exact rfl | refine SLe0.str ?_)
end Go.Sx
