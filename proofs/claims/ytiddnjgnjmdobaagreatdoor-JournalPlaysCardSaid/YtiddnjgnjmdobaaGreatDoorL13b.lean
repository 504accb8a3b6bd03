/- Part of the proofs that the laws of the journal return true for every input: L13b. -/
import Derived.Test.YtiddnjgnjmdobaaGreatDoorL13
set_option linter.unusedVariables false
set_option linter.unusedSimpArgs false
set_option linter.all false
/-! L13b: the second key of a generic replacer's tree. -/
namespace Go.Sx
open Go.Proofs Go.RowKit
attribute [local irreducible] Run RunL RunD SLe0 SLe OLe
set_option maxHeartbeats 2000000
set_option maxRecDepth 8000
set_option linter.unusedSimpArgs false
set_option linter.unusedVariables false
/-- Where a byte is in the tables of this replacer. -/
def gF : Nat → Int := fun i => if i = 92 then 0 else if i = 110 then 1 else 2
theorem gF92 : gF 92 = 0 := rfl
theorem gF110 : gF 110 = 1 := rfl
theorem A4 : FnM Tryz.prog 111 (fun ds os d os' => ∃ (v v1 : ByteArray), True ∧ ds = [.loc 1000 0, .str (B [110]), .str v, .int .i64 2, .loc 1001 0] ∧
    os = [eNd ByteArray.empty 0 (B [92]) (.loc 1003 0) .nils, eGr (.vsl 1002 0 2 2) 2 gF, .var [.loc 1000 0, .nilp], eNd v1 4 ByteArray.empty .nilp .nils] ∧ d = .tup [] ∧
    os' = [(1000, eNd ByteArray.empty 0 ByteArray.empty .nilp (.vsl 1 0 2 2)), (1001, eGr (.vsl 1002 0 2 2) 2 gF), (1002, .var [.loc 1000 0, .nilp]), (1003, eNd v1 4 ByteArray.empty .nilp .nils), (0, eNd v 2 ByteArray.empty .nilp .nils), (1, .var [.loc 1003 0, .loc 0 0])]) := by
  refine fn_introM Tryz.call111 Tryz.func111 rfl Tryz.ntmps111 ?_
  rintro ds os d os' ⟨v, v1, -, rfl, rfl, rfl, rfl⟩
  refine ⟨by simp, fun F w0 => ?_⟩
  have hf1 := gF92
  have hf2 := gF110
  have hpl := plT130_all 92 (by omega)
  have hdr := mapL_drop gF 92 (by omega)
  have hpl2 := plT130_all 110 (by omega)
  have hdr2 := mapL_drop gF 110 (by omega)
  repeat' (first | apply run_seq | apply run_region | apply runL_nil | refine runxP (by simp only [go_sem, hpl, hdr, hpl2, hdr2, hf1, hf2]; rfl) (by rfl) ?_ ?_ | exact True.intro | exact rfl)
  (refine run_cond (by simp only [go_sem]; rfl) ?_ ?_ <;> intro hb <;> have hc := hb <;> (try simp only [decide_eq_true_eq, decide_eq_false_iff_not, Int.not_lt, Int.not_le, Int.ofNat_lt, Int.ofNat_le, Bool.and_eq_true, Bool.or_eq_true, Bool.or_eq_false_iff, Bool.not_eq_true', Bool.not_eq_false', beq_iff_eq, beq_eq_false_iff_ne, bne_iff_ne, bne_eq_false_iff_eq] at hc) <;> (try (exfalso; simp at hc; done)))
  repeat' (first | apply run_seq | apply run_skip | apply run_region | apply runL_nil | refine runxP (by simp only [go_sem, hpl, hdr, hpl2, hdr2, hf1, hf2]; rfl) (by rfl) ?_ ?_ | exact True.intro | exact rfl)
  (refine run_cond (by simp only [go_sem]; rfl) ?_ ?_ <;> intro hb <;> have hc := hb <;> (try simp only [decide_eq_true_eq, decide_eq_false_iff_not, Int.not_lt, Int.not_le, Int.ofNat_lt, Int.ofNat_le, Bool.and_eq_true, Bool.or_eq_true, Bool.or_eq_false_iff, Bool.not_eq_true', Bool.not_eq_false', beq_iff_eq, beq_eq_false_iff_ne, bne_iff_ne, bne_eq_false_iff_eq] at hc) <;> (try (exfalso; simp at hc; done)))
  repeat' (first | apply run_seq | apply run_block | apply run_region | apply runL_nil | refine runxP (by simp only [go_sem, hpl, hdr, hpl2, hdr2, hf1, hf2]; rfl) (by rfl) ?_ ?_ | refine run_rounds 1 ?_ | exact True.intro | exact rfl | (show allP _; first | exact True.intro | (simp only [allP, go_sem, Bool.not_eq_true', Bool.not_eq_false', implies_true, true_and, and_true, and_self, imp_self]; done) | (simp [allP, go_sem]; done) | (simp [allP, go_sem] at *; first | done | assumption | omega | (simp_all; done)) | (simp only [allP, go_sem]; intros; simp_all; done) | (simp only [allP, go_sem, ByteArray.size_append, size_mk, List.size_toArray, List.length_append, List.length_cons, List.length_nil, and_true, true_and]; (repeat' apply And.intro) <;> omega)))
  (refine run_cond (by simp only [go_sem]; rfl) ?_ ?_ <;> intro hb <;> have hc := hb <;> (try simp only [decide_eq_true_eq, decide_eq_false_iff_not, Int.not_lt, Int.not_le, Int.ofNat_lt, Int.ofNat_le, Bool.and_eq_true, Bool.or_eq_true, Bool.or_eq_false_iff, Bool.not_eq_true', Bool.not_eq_false', beq_iff_eq, beq_eq_false_iff_ne, bne_iff_ne, bne_eq_false_iff_eq] at hc) <;> (try (exfalso; simp at hc; done)))
  repeat' (first | apply run_seq | apply run_skip | apply run_block | apply run_draw | refine runDqP (by simp only [go_sem, hpl, hdr, hpl2, hdr2, hf1, hf2]; rfl) (by rfl) ?_ ?_ | refine runD_end (by kernel_rfl) (by kernel_rfl) ?_ | (show allP _; first | exact True.intro | (simp only [allP, go_sem, Bool.not_eq_true', Bool.not_eq_false', implies_true, true_and, and_true, and_self, imp_self]; done) | (simp [allP, go_sem]; done) | (simp [allP, go_sem] at *; first | done | assumption | omega | (simp_all; done)) | (simp only [allP, go_sem]; intros; simp_all; done) | (simp only [allP, go_sem, ByteArray.size_append, size_mk, List.size_toArray, List.length_append, List.length_cons, List.length_nil, and_true, true_and]; (repeat' apply And.intro) <;> omega)))
  (refine run_cond (by simp only [go_sem]; rfl) ?_ ?_ <;> intro hb <;> have hc := hb <;> (try simp only [decide_eq_true_eq, decide_eq_false_iff_not, Int.not_lt, Int.not_le, Int.ofNat_lt, Int.ofNat_le, Bool.and_eq_true, Bool.or_eq_true, Bool.or_eq_false_iff, Bool.not_eq_true', Bool.not_eq_false', beq_iff_eq, beq_eq_false_iff_ne, bne_iff_ne, bne_eq_false_iff_eq] at hc) <;> (try (exfalso; simp at hc; done)))
  repeat' (first | apply run_seq | apply run_region | apply runL_nil | refine runxP (by simp only [go_sem, hpl, hdr, hpl2, hdr2, hf1, hf2]; rfl) (by rfl) ?_ ?_ | refine run_exit (by rfl) ?_ | exact True.intro | exact rfl)
  (refine run_cond (by simp only [go_sem]; rfl) ?_ ?_ <;> intro hb <;> have hc := hb <;> (try simp only [decide_eq_true_eq, decide_eq_false_iff_not, Int.not_lt, Int.not_le, Int.ofNat_lt, Int.ofNat_le, Bool.and_eq_true, Bool.or_eq_true, Bool.or_eq_false_iff, Bool.not_eq_true', Bool.not_eq_false', beq_iff_eq, beq_eq_false_iff_ne, bne_iff_ne, bne_eq_false_iff_eq] at hc) <;> (try (exfalso; simp at hc; done)))
  repeat' (first | apply run_seq | apply run_region | apply runL_nil | refine runxP (by simp only [go_sem, hpl, hdr, hpl2, hdr2, hf1, hf2]; rfl) (by rfl) ?_ ?_ | exact True.intro | exact rfl)
  (refine run_cond (by simp only [go_sem]; rfl) ?_ ?_ <;> intro hb <;> have hc := hb <;> (try simp only [decide_eq_true_eq, decide_eq_false_iff_not, Int.not_lt, Int.not_le, Int.ofNat_lt, Int.ofNat_le, Bool.and_eq_true, Bool.or_eq_true, Bool.or_eq_false_iff, Bool.not_eq_true', Bool.not_eq_false', beq_iff_eq, beq_eq_false_iff_ne, bne_iff_ne, bne_eq_false_iff_eq] at hc) <;> (try (exfalso; simp at hc; done)))
  repeat' (first | apply run_seq | apply run_region | apply runL_nil | refine runxP (by simp only [go_sem, hpl, hdr, hpl2, hdr2, hf1, hf2]; rfl) (by rfl) ?_ ?_ | exact True.intro | exact rfl)
  (refine run_cond (by simp only [go_sem]; rfl) ?_ ?_ <;> intro hb <;> have hc := hb <;> (try simp only [decide_eq_true_eq, decide_eq_false_iff_not, Int.not_lt, Int.not_le, Int.ofNat_lt, Int.ofNat_le, Bool.and_eq_true, Bool.or_eq_true, Bool.or_eq_false_iff, Bool.not_eq_true', Bool.not_eq_false', beq_iff_eq, beq_eq_false_iff_ne, bne_iff_ne, bne_eq_false_iff_eq] at hc) <;> (try (exfalso; simp at hc; done)))
  iterate 9 any_goals (first | apply run_seq | apply run_region | apply runL_nil | refine runxP (by simp only [go_sem, hpl, hdr, hpl2, hdr2, hf1, hf2]; rfl) (by rfl) ?_ ?_ | exact True.intro | exact rfl)
  · rfl
  iterate 5 (refine stepX_ok (by simp only [go_sem]; rfl) ?_ ?_; · exact True.intro)
  refine stepmk2 (by simp only [go_sem]; rfl) (by simp only [go_sem]; rfl) tU164 info163 (by simp only [go_sem]) (by simp only [go_sem]; rfl) ?_
  repeat' (first | apply run_seq | apply run_region | apply run_draw | apply runL_nil | refine runxP (by simp only [go_sem, hpl, hdr, hpl2, hdr2, hf1, hf2]; rfl) (by rfl) ?_ ?_ | refine runDqP (by simp only [go_sem, hpl, hdr, hpl2, hdr2, hf1, hf2]; rfl) (by rfl) ?_ ?_ | refine runD_end (by kernel_rfl) (by kernel_rfl) ?_ | exact True.intro | exact rfl | (show allP _; first | exact True.intro | (simp only [allP, go_sem, Bool.not_eq_true', Bool.not_eq_false', implies_true, true_and, and_true, and_self, imp_self]; done) | (simp [allP, go_sem]; done) | (simp [allP, go_sem] at *; first | done | assumption | omega | (simp_all; done)) | (simp only [allP, go_sem]; intros; simp_all; done) | (simp only [allP, go_sem, ByteArray.size_append, size_mk, List.size_toArray, List.length_append, List.length_cons, List.length_nil, and_true, true_and]; (repeat' apply And.intro) <;> omega)))
  refine runL_fgt 150 (by simp only [go_sem]; rfl) ?_
  repeat' (first | apply runL_nil | refine stepcallM [0] A3 (by rfl) (by simp only [go_sem]; first | done | rfl) (by simp only [go_sem]) (by first | (simp only [go_sem]; done) | (simp only [go_sem]; rfl)) ?_ ⟨v, 2, trivial, rfl, rfl, rfl, rfl⟩ (by simp only [go_sem]; rfl) ?_ | refine run_endM (by rfl) ?_ ?_ | exact True.intro | exact SLe.refl _ | (show subO _ _; simp only [go_sem]; repeat' (first | exact trivial | exact True.intro | exact SLe.refl _ | exact OLe.refl _ | exact ⟨_, rfl, OLe.refl _⟩ | refine ⟨_, rfl, ?_⟩ | refine OLe.var ?_ | (show SLeL _ _; refine ⟨?_, ?_⟩) | (show SLeL [] []; exact True.intro) | (refine SLe.int ?_; rw [w64]; omega) | refine SLe.int ?_ | refine SLe.bool ?_ | apply And.intro)))
end Go.Sx
