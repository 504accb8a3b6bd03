/- Part of the proofs that the laws of the journal return true for every input: L16. -/
import Derived.Test.YtiddnjgnjmdobaaGreatDoorK0
set_option linter.unusedVariables false
set_option linter.unusedSimpArgs false
set_option linter.all false
/-! L16: the end of a string. -/
namespace Go.Sx
open Go.Proofs Go.RowKit
attribute [local irreducible] Run RunL RunD SLe0 SLe OLe
set_option maxHeartbeats 2000000
set_option maxRecDepth 8000
set_option linter.unusedSimpArgs false
set_option linter.unusedVariables false
/-- Does 's' end with 't'? -/
def sufB (s t : ByteArray) : Bool := decide (t.size ≤ s.size) && (s.extract (s.size - t.size) s.size == t)
theorem K49 : FnOK Tryz.prog 49 (fun ds d => ∃ s t : ByteArray, (s.size ≤ 68719476736 ∧ t.size ≤ 68719476736) ∧ ds = [.str s, .str t] ∧ d = .bool (sufB s t)) := by
  refine fn_intro Tryz.call49 Tryz.func49 rfl Tryz.ntmps49 ?_
  rintro ds d ⟨s, t, hs, rfl, rfl⟩
  refine ⟨by simp, fun w0 => ?_⟩
  obtain ⟨hs, ht⟩ := hs
  have hw : IntKind.i64.wrap ((s.size : Int) - t.size) = (s.size : Int) - t.size := by rw [w64] <;> omega
  repeat' (first | apply run_seq | apply run_region | apply runL_nil | refine runxP (by simp only [go_sem]; rfl) (by rfl) ?_ ?_ | refine run_ret (by rfl) ?_ | exact True.intro | exact rfl | refine SLe0.bool ?_ | (show allP _; first | exact True.intro | (simp only [allP, go_sem, Bool.not_eq_true', Bool.not_eq_false', implies_true, true_and, and_true, and_self, imp_self]; done) | (simp [allP, go_sem]; done) | (simp [allP, go_sem] at *; first | done | assumption | omega | (simp_all; done)) | (simp only [allP, go_sem]; intros; simp_all; done) | (simp only [allP, go_sem, ByteArray.size_append, size_mk, List.size_toArray, List.length_append, List.length_cons, List.length_nil, and_true, true_and]; (repeat' apply And.intro) <;> omega)))
  · rw [hw]
    have h2 : ((s.size : Int) - t.size).toNat = s.size - t.size := by omega
    simp only [sufB, h2, Int.ofNat_le]
theorem K41 : FnOK Tryz.prog 41 (fun ds d => ∃ s t : ByteArray, (s.size ≤ 68719476736 ∧ t.size ≤ 68719476736) ∧ ds = [.str s, .str t] ∧ d = .bool (sufB s t)) := by
  refine fn_intro Tryz.call41 Tryz.func41 rfl Tryz.ntmps41 ?_
  rintro ds d ⟨s, t, hs, rfl, rfl⟩
  refine ⟨by simp, fun w0 => ?_⟩
  repeat' (first | apply run_seq | apply run_region | apply runL_nil | refine runxP (by simp only [go_sem]; rfl) (by rfl) ?_ ?_ | refine stepcall K49 (by simp only [go_sem]; first | done | rfl) ?_ ⟨s, t, hs, rfl, rfl⟩ (by simp only [go_sem]; rfl) ?_ | refine run_ret (by rfl) ?_ | exact True.intro | exact rfl | exact SLe0.bool rfl)
theorem K62 : FnOK Tryz.prog 62 (fun ds d => ∃ s t : ByteArray, (s.size ≤ 68719476736 ∧ t.size ≤ 68719476736) ∧ ds = [.str s, .str t] ∧ d = .str (if sufB s t then s.extract 0 (s.size - t.size) else s)) := by
  refine fn_intro Tryz.call62 Tryz.func62 rfl Tryz.ntmps62 ?_
  rintro ds d ⟨s, t, hs, rfl, rfl⟩
  refine ⟨by simp, fun w0 => ?_⟩
  repeat' (first | apply run_seq | apply run_region | apply runL_nil | refine runxP (by simp only [go_sem]; rfl) (by rfl) ?_ ?_ | refine stepcall K49 (by simp only [go_sem]; first | done | rfl) ?_ ⟨s, t, hs, rfl, rfl⟩ (by simp only [go_sem]; rfl) ?_ | exact True.intro | exact rfl)
  (refine run_cond (by simp only [go_sem]; rfl) ?_ ?_ <;> intro hb <;> have hc := hb <;> (try simp only [decide_eq_true_eq, decide_eq_false_iff_not, Int.not_lt, Int.not_le, Int.ofNat_lt, Int.ofNat_le, Bool.and_eq_true, Bool.or_eq_true, Bool.or_eq_false_iff, Bool.not_eq_true', Bool.not_eq_false', beq_iff_eq, beq_eq_false_iff_ne, bne_iff_ne, bne_eq_false_iff_eq] at hc) <;> (try (exfalso; simp at hc; done)))
  · have h1 : t.size ≤ s.size := by simp only [sufB, Bool.and_eq_true, decide_eq_true_eq] at hb; exact hb.1
    have hw : IntKind.i64.wrap ((s.size : Int) - t.size) = (s.size : Int) - t.size := by obtain ⟨h3, h4⟩ := hs; rw [w64] <;> omega
    have h2 : ((s.size : Int) - t.size).toNat = s.size - t.size := by omega
    repeat' (first | apply run_seq | apply run_region | apply runL_nil | refine runxP (by simp only [go_sem, hw, h2]; rfl) (by rfl) ?_ ?_ | refine run_ret (by rfl) ?_ | exact rfl | refine SLe0.str ?_ | (show allP _; first | exact True.intro | (simp only [allP, go_sem, Bool.not_eq_true', Bool.not_eq_false', implies_true, true_and, and_true, and_self, imp_self]; done) | (simp [allP, go_sem]; done) | (simp [allP, go_sem] at *; first | done | assumption | omega | (simp_all; done)) | (simp only [allP, go_sem]; intros; simp_all; done) | (simp only [allP, go_sem, ByteArray.size_append, size_mk, List.size_toArray, List.length_append, List.length_cons, List.length_nil, and_true, true_and]; (repeat' apply And.intro) <;> omega)))
    rw [if_pos hb]
  · repeat' (first | apply run_seq | apply run_skip | apply run_region | apply runL_nil | refine runxP (by simp only [go_sem]; rfl) (by rfl) ?_ ?_ | refine run_ret (by rfl) ?_ | exact True.intro | exact rfl | refine SLe0.str ?_)
    rw [if_neg (by simp [hb])]
theorem K53 : FnOK Tryz.prog 53 (fun ds d => ∃ s t : ByteArray, (s.size ≤ 68719476736 ∧ t.size ≤ 68719476736) ∧ ds = [.str s, .str t] ∧ d = .str (if sufB s t then s.extract 0 (s.size - t.size) else s)) := by
  refine fn_intro Tryz.call53 Tryz.func53 rfl Tryz.ntmps53 ?_
  rintro ds d ⟨s, t, hs, rfl, rfl⟩
  refine ⟨by simp, fun w0 => ?_⟩
  repeat' (first | apply run_seq | apply run_region | apply runL_nil | refine runxP (by simp only [go_sem]; rfl) (by rfl) ?_ ?_ | refine stepcall K62 (by simp only [go_sem]; first | done | rfl) ?_ ⟨s, t, hs, rfl, rfl⟩ (by simp only [go_sem]; rfl) ?_ | refine run_ret (by rfl) ?_ | exact True.intro | exact rfl | refine SLe0.str ?_)
end Go.Sx
