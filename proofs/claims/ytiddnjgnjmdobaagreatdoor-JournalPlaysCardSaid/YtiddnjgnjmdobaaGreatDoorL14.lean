/- Part of the proofs that the laws of the journal return true for every input: L14. -/
import Derived.Test.YtiddnjgnjmdobaaGreatDoorL13d
import Derived.Test.YtiddnjgnjmdobaaGreatDoorL12
set_option linter.unusedVariables false
set_option linter.unusedSimpArgs false
set_option linter.all false
/-! L14: 'show' is built. -/
namespace Go.Sx
open Go.Proofs Go.RowKit
attribute [local irreducible] Run RunL RunD SLe0 SLe OLe
set_option maxHeartbeats 2000000
set_option maxRecDepth 8000
set_option linter.unusedSimpArgs false
set_option linter.unusedVariables false
theorem szB2 (a b : UInt8) : (B [a, b]).size = 2 := rfl
theorem szB1 (a : UInt8) : (B [a]).size = 1 := rfl
theorem sAc : ((showA.length : Nat) : Int) = 4 := rfl
attribute [go_sem] szB2 szB1 sAc
theorem K83s : FnM Tryz.prog 83 (fun ds os d os' => ∃ (lk : Int), True ∧ ds = [.loc 1000 0] ∧ os = [eRp lk showA] ∧ d = .iface 141 (.fp treeS) ∧ os' = [(1000, eRp lk showA)]) := by
  refine fn_introM Tryz.call83 Tryz.func83 rfl Tryz.ntmps83 ?_
  rintro ds os d os' ⟨lk, -, rfl, rfl, rfl, rfl⟩
  refine ⟨by simp, fun F w0 => ?_⟩
  repeat' (first | apply run_seq | apply run_skip | apply run_block | apply run_region | apply runL_nil | refine runxP (by simp only [go_sem]; rfl) (by rfl) ?_ ?_ | refine stepcall K98 (by simp only [go_sem]; first | done | rfl) ?_ ⟨rfl, rfl⟩ (by simp only [go_sem]; rfl) ?_ | (refine run_cond (by simp only [go_sem]; rfl) ?_ ?_ <;> intro hb <;> have hc := hb <;> (try simp only [decide_eq_true_eq, decide_eq_false_iff_not, Int.not_lt, Int.not_le, Int.ofNat_lt, Int.ofNat_le, Bool.and_eq_true, Bool.or_eq_true, Bool.or_eq_false_iff, Bool.not_eq_true', Bool.not_eq_false', beq_iff_eq, beq_eq_false_iff_ne, bne_iff_ne, bne_eq_false_iff_eq] at hc) <;> (try (exfalso; simp at hc; done))) | refine run_retM (by rfl) (by simp only [go_sem]; rfl) ?_ ?_ | refine run_rounds 1 ?_ | exact True.intro | exact rfl | exact SLe.refl _ | (show subO _ _; simp only [go_sem]; repeat' (first | exact trivial | exact True.intro | exact SLe.refl _ | exact OLe.refl _ | exact ⟨_, rfl, OLe.refl _⟩ | refine ⟨_, rfl, ?_⟩ | refine OLe.var ?_ | (show SLeL _ _; refine ⟨?_, ?_⟩) | (show SLeL [] []; exact True.intro) | (refine SLe.int ?_; rw [w64]; omega) | refine SLe.int ?_ | refine SLe.bool ?_ | apply And.intro)) | (show allP _; first | exact True.intro | (simp only [allP, go_sem, Bool.not_eq_true', Bool.not_eq_false', implies_true, true_and, and_true, and_self, imp_self]; done) | (simp [allP, go_sem]; done) | (simp [allP, go_sem] at *; first | done | assumption | omega | (simp_all; done)) | (simp only [allP, go_sem]; intros; simp_all; done) | (simp only [allP, go_sem, ByteArray.size_append, size_mk, List.size_toArray, List.length_append, List.length_cons, List.length_nil, and_true, true_and]; (repeat' apply And.intro) <;> omega)))
theorem K74s : FnM Tryz.prog 74 (fun ds os d os' => ∃ lk : Int, True ∧ ds = [.loc 1000 0] ∧ os = [eRp lk showA] ∧ d = .tup [] ∧ os' = [(1000, eRu (.iface 141 (.fp treeS)) lk)]) := by
  refine fn_introM Tryz.call74 Tryz.func74 rfl Tryz.ntmps74 ?_
  rintro ds os d os' ⟨lk, -, rfl, rfl, rfl, rfl⟩
  refine ⟨by simp, fun F w0 => ?_⟩
  repeat' (first | apply run_seq | apply run_region | apply runL_nil | refine runxP (by simp only [go_sem]; rfl) (by rfl) ?_ ?_ | refine stepcallM [1000] K83s (by rfl) (by simp only [go_sem]; first | done | rfl) (by simp only [go_sem]) (by first | (simp only [go_sem]; done) | (simp only [go_sem]; rfl)) ?_ ⟨lk, trivial, rfl, rfl, rfl, rfl⟩ (by simp only [go_sem]; rfl) ?_ | refine run_endM (by rfl) ?_ ?_ | exact True.intro | exact rfl | exact SLe.refl _ | (show subO _ _; simp only [go_sem]; repeat' (first | exact trivial | exact True.intro | exact SLe.refl _ | exact OLe.refl _ | exact ⟨_, rfl, OLe.refl _⟩ | refine ⟨_, rfl, ?_⟩ | refine OLe.var ?_ | (show SLeL _ _; refine ⟨?_, ?_⟩) | (show SLeL [] []; exact True.intro) | (refine SLe.int ?_; rw [w64]; omega) | refine SLe.int ?_ | refine SLe.bool ?_ | apply And.intro)))
theorem K73s : FnM Tryz.prog 73 (fun ds os d os' => True ∧ ds = [.loc 1000 0, .bfn (.func 74) [.loc 1000 0]] ∧ os = [eRp 0 showA] ∧ d = .tup [] ∧ os' = [(1000, eRd (.iface 141 (.fp treeS)))]) := K73of showA (.iface 141 (.fp treeS)) K74s
end Go.Sx
