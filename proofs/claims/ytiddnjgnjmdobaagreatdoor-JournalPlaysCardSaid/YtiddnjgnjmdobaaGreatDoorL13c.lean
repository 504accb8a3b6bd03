/- Part of the proofs that the laws of the journal return true for every input: L13c. -/
import Derived.Test.YtiddnjgnjmdobaaGreatDoorL13b
set_option linter.unusedVariables false
set_option linter.unusedSimpArgs false
set_option linter.all false
/-! L13c: a generic replacer is made: that of 'show'. -/
namespace Go.Sx
open Go.Proofs Go.RowKit
attribute [local irreducible] Run RunL RunD SLe0 SLe OLe
set_option maxHeartbeats 2000000
set_option maxRecDepth 8000
set_option linter.unusedSimpArgs false
set_option linter.unusedVariables false
attribute [go_sem] gF92 gF110
theorem A5 : FnM Tryz.prog 111 (fun ds os d os' => ∃ (v v1 : ByteArray), True ∧ ds = [.loc 1000 0, .str (B [92, 110]), .str v, .int .i64 2, .loc 1000 0] ∧
    os = [eGr (.vsl 1001 0 2 2) 2 gF, .var [.loc 1002 0, .nilp], eNd ByteArray.empty 0 (B [92]) (.loc 1003 0) .nils, eNd v1 4 ByteArray.empty .nilp .nils] ∧ d = .tup [] ∧
    os' = [(1000, eGr (.vsl 1001 0 2 2) 2 gF), (1001, .var [.loc 1002 0, .nilp]), (1002, eNd ByteArray.empty 0 ByteArray.empty .nilp (.vsl 1 0 2 2)), (1003, eNd v1 4 ByteArray.empty .nilp .nils), (0, eNd v 2 ByteArray.empty .nilp .nils), (1, .var [.loc 1003 0, .loc 0 0])]) := by
  refine fn_introM Tryz.call111 Tryz.func111 rfl Tryz.ntmps111 ?_
  rintro ds os d os' ⟨v, v1, -, rfl, rfl, rfl, rfl⟩
  refine ⟨by simp, fun F w0 => ?_⟩
  have hpl := plT130_all 92 (by omega)
  have hdr := mapL_drop gF 92 (by omega)
  repeat' (first | apply run_seq | apply run_skip | apply run_region | apply run_draw | apply runL_nil | refine runxP (by simp only [go_sem, hpl, hdr]; rfl) (by rfl) ?_ ?_ | refine runDqP (by simp only [go_sem, hpl, hdr]; rfl) (by rfl) ?_ ?_ | refine runD_end (by kernel_rfl) (by kernel_rfl) ?_ | refine runDcallM [1002, 1000, 1001, 1003] A4 (by rfl) (by simp only [go_sem, hpl, hdr]; first | done | rfl) (by simp only [go_sem, hpl, hdr]) (by first | (simp only [go_sem, hpl, hdr]; done) | (simp only [go_sem, hpl, hdr]; rfl)) ?_ ⟨v, v1, trivial, rfl, rfl, rfl, rfl⟩ (by simp only [go_sem, hpl, hdr]; rfl) ?_ | (refine run_cond (by simp only [go_sem, hpl, hdr]; rfl) ?_ ?_ <;> intro hb <;> have hc := hb <;> (try simp only [decide_eq_true_eq, decide_eq_false_iff_not, Int.not_lt, Int.not_le, Int.ofNat_lt, Int.ofNat_le, Bool.and_eq_true, Bool.or_eq_true, Bool.or_eq_false_iff, Bool.not_eq_true', Bool.not_eq_false', beq_iff_eq, beq_eq_false_iff_ne, bne_iff_ne, bne_eq_false_iff_eq] at hc) <;> (try (exfalso; simp at hc; done))) | refine run_endM (by rfl) ?_ ?_ | exact True.intro | exact rfl | exact SLe.refl _ | (show subO _ _; simp only [go_sem, hpl, hdr]; repeat' (first | exact trivial | exact True.intro | exact SLe.refl _ | exact OLe.refl _ | exact ⟨_, rfl, OLe.refl _⟩ | refine ⟨_, rfl, ?_⟩ | refine OLe.var ?_ | (show SLeL _ _; refine ⟨?_, ?_⟩) | (show SLeL [] []; exact True.intro) | (refine SLe.int ?_; rw [w64]; omega) | refine SLe.int ?_ | refine SLe.bool ?_ | apply And.intro)) | (show allP _; first | exact True.intro | (simp only [allP, go_sem, Bool.not_eq_true', Bool.not_eq_false', implies_true, true_and, and_true, and_self, imp_self]; done) | (simp [allP, go_sem]; done) | (simp [allP, go_sem] at *; first | done | assumption | omega | (simp_all; done)) | (simp only [allP, go_sem]; intros; simp_all; done) | (simp only [allP, go_sem, ByteArray.size_append, size_mk, List.size_toArray, List.length_append, List.length_cons, List.length_nil, and_true, true_and]; (repeat' apply And.intro) <;> omega)))
def showA : List ByteArray := [B [92, 92], B [92], B [92, 110], B [10]]
theorem sAl : showA.length = 4 := rfl
theorem sA0 : showA.getD 0 ByteArray.empty = B [92, 92] := rfl
theorem sA1 : showA.getD 1 ByteArray.empty = B [92] := rfl
theorem sA2 : showA.getD 2 ByteArray.empty = B [92, 110] := rfl
theorem sA3 : showA.getD 3 ByteArray.empty = B [10] := rfl
theorem gt1 (a b : UInt8) : (B [a, b]).data.toList.getD 1 0 = b := rfl
theorem ms92 (f : Nat → Int) (v : Int) : (mapL f).take 92 ++ [.int .u8 v] ++ (mapL f).drop 93 = mapL (upF f 92 v) := by
  rw [List.append_assoc]; exact mapL_set f 92 v (by omega)
theorem ms110 (f : Nat → Int) (v : Int) : (mapL f).take 110 ++ [.int .u8 v] ++ (mapL f).drop 111 = mapL (upF f 110 v) := by
  rw [List.append_assoc]; exact mapL_set f 110 v (by omega)
theorem plT130_92 : plT Tryz.prog 130 92 = some (92, 1) := plT130_all 92 (by omega)
theorem plT130_110 : plT Tryz.prog 130 110 = some (110, 1) := plT130_all 110 (by omega)
attribute [go_sem] sAl sA0 sA1 sA2 sA3 gt1 ms92 ms110 plT130_92 plT130_110
/-- Which bytes are in the keys. -/
def kF : Nat → Int := fun i => if i = 92 then 1 else if i = 110 then 1 else 0
theorem kF_eq : upF (upF (upF (upF (fun _ => 0) 92 1) 92 1) 92 1) 110 1 = kF := by
  funext i; simp only [upF, kF]; split <;> split <;> simp_all
end Go.Sx
