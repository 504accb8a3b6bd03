/- Part of the proofs that the laws of the journal return true for every input: L15. -/
import Derived.Test.YtiddnjgnjmdobaaGreatDoorL14
set_option linter.unusedVariables false
set_option linter.unusedSimpArgs false
set_option linter.all false
/-! L15: 'show' looks a key up. -/
namespace Go.Sx
open Go.Proofs Go.RowKit
attribute [local irreducible] Run RunL RunD SLe0 SLe OLe
set_option maxHeartbeats 2000000
set_option maxRecDepth 8000
set_option linter.unusedSimpArgs false
set_option linter.unusedVariables false
/-- What is found at the head of a text. -/
def lkS : List UInt8 → ByteArray × Int × Bool
  | 92 :: 92 :: _ => (B [92], 2, true)
  | 92 :: 110 :: _ => (B [10], 2, true)
  | _ => (ByteArray.empty, 0, false)
theorem gtc (a : UInt8) (l : List UInt8) : (B (a :: l)).data.toList.getD 0 0 = a := rfl
theorem bsz (l : List UInt8) : (B l).size = l.length := by simp [B, ByteArray.size]
theorem bnil : B [] = ByteArray.empty := rfl
theorem bne0 (a : UInt8) (l : List UInt8) : (B (a :: l) == (⟨#[]⟩ : ByteArray)) = false := beq_eq_false_iff_ne.2 fun h => by have := congrArg ByteArray.size h; simp [bsz, ByteArray.size] at this
theorem bex (a : UInt8) (l : List UInt8) : (B (a :: l)).extract 1 (l.length + 1) = B l := by
  apply ByteArray.ext; simp [B, ByteArray.data_extract]
theorem bne1 (a : UInt8) (l : List UInt8) : (B (a :: l) == ByteArray.empty) = false := bne0 a l
theorem bex2 (a b : UInt8) (l : List UInt8) : (B (a :: b :: l)).extract 1 (l.length + 1 + 1) = B (b :: l) := bex a (b :: l)
theorem gFo (b : UInt8) (h1 : b ≠ 92) (h2 : b ≠ 110) : gF b.toNat = 2 := by
  have g1 : b.toNat ≠ 92 := fun h => h1 (UInt8.toNat_inj.1 h)
  have g2 : b.toNat ≠ 110 := fun h => h2 (UInt8.toNat_inj.1 h)
  simp only [gF, if_neg g1, if_neg g2]
attribute [go_sem] gtc bsz bnil bne0 bne1 bex bex2 treeS innS leafS
theorem runDqRP {P : Program} {F : List Nat} {w0 : Base} {Q : Exit → Act → World → Prop} {id : Nat} {l : List Oper} {s0 s : St} {rs : List Rec} {r r' : List Oper} {s' : St} {p : List Prop} {q : List Rec} (h : runQ P l r s = (p, s', r')) (_ : Nat.blt (lenL r') (lenL r) = true) (hp : allP p) (hr : recsOf P l r s = q) (hn : RunD P F w0 Q id l s0 (rs ++ q) r' s') : RunD P F w0 Q id l s0 rs r s := runDqR h hp hr hn
theorem K158a : FnOK Tryz.prog 158 (fun ds d => ds = [.fp treeS, .str ByteArray.empty, .bool false] ∧ d = .tup [.str ByteArray.empty, .int .i64 0, .bool false]) := by
  refine fn_intro Tryz.call158 Tryz.func158 rfl Tryz.ntmps158 ?_
  rintro ds d ⟨rfl, rfl⟩
  refine ⟨by simp, fun w0 => ?_⟩
  repeat' (first | apply run_seq | apply run_skip | apply run_block | apply run_region | apply runL_nil | refine runxP (by simp only [go_sem]; rfl) (by rfl) ?_ ?_ | refine runL_gF 26 (by simp only [go_sem]; rfl) (by rfl) (by simp only [go_sem]; first | done | rfl) (by simp only [go_sem]; rfl) ?_ | (refine run_cond (by simp only [go_sem]; rfl) ?_ ?_ <;> intro hb <;> have hc := hb <;> (try simp only [decide_eq_true_eq, decide_eq_false_iff_not, Int.not_lt, Int.not_le, Int.ofNat_lt, Int.ofNat_le, Bool.and_eq_true, Bool.or_eq_true, Bool.or_eq_false_iff, Bool.not_eq_true', Bool.not_eq_false', beq_iff_eq, beq_eq_false_iff_ne, bne_iff_ne, bne_eq_false_iff_eq] at hc) <;> (try (exfalso; simp at hc; done))) | refine run_retG (by rfl) (by simp only [go_sem]; rfl) ?_ | refine run_exit (by rfl) ?_ | refine run_rounds 1 ?_ | exact True.intro | exact rfl | exact SLe0.pure rfl | (show allP _; first | exact True.intro | (simp only [allP, go_sem, Bool.not_eq_true', Bool.not_eq_false', implies_true, true_and, and_true, and_self, imp_self]; done) | (simp [allP, go_sem]; done) | (simp [allP, go_sem] at *; first | done | assumption | omega | (simp_all; done)) | (simp only [allP, go_sem]; intros; simp_all; done) | (simp only [allP, go_sem, ByteArray.size_append, size_mk, List.size_toArray, List.length_append, List.length_cons, List.length_nil, and_true, true_and]; (repeat' apply And.intro) <;> omega)))
theorem K158b : FnOK Tryz.prog 158 (fun ds d => ds = [.fp treeS, .str (B [92]), .bool false] ∧ d = .tup [.str ByteArray.empty, .int .i64 0, .bool false]) := by
  refine fn_intro Tryz.call158 Tryz.func158 rfl Tryz.ntmps158 ?_
  rintro ds d ⟨rfl, rfl⟩
  refine ⟨by simp, fun w0 => ?_⟩
  have hpl := plT130_92
  have hdr := mapL_drop gF 92 (by omega)
  have hg := gF92
  repeat' (first | apply run_seq | apply run_skip | apply run_block | apply run_blk | apply run_region | apply run_draw | apply runL_nil | refine runxP (by simp only [go_sem, hpl, hdr, hg]; rfl) (by rfl) ?_ ?_ | refine runDqP (by simp only [go_sem, hpl, hdr, hg]; rfl) (by rfl) ?_ ?_ | refine runD_end (by kernel_rfl) (by kernel_rfl) ?_ | refine runL_gF 26 (by simp only [go_sem, hpl, hdr, hg]; rfl) (by rfl) (by simp only [go_sem, hpl, hdr, hg]; first | done | rfl) (by simp only [go_sem, hpl, hdr, hg]; rfl) ?_ | (refine run_cond (by simp only [go_sem, hpl, hdr, hg]; rfl) ?_ ?_ <;> intro hb <;> have hc := hb <;> (try simp only [decide_eq_true_eq, decide_eq_false_iff_not, Int.not_lt, Int.not_le, Int.ofNat_lt, Int.ofNat_le, Bool.and_eq_true, Bool.or_eq_true, Bool.or_eq_false_iff, Bool.not_eq_true', Bool.not_eq_false', beq_iff_eq, beq_eq_false_iff_ne, bne_iff_ne, bne_eq_false_iff_eq] at hc) <;> (try (exfalso; simp at hc; done))) | refine run_retG (by rfl) (by simp only [go_sem, hpl, hdr, hg]; rfl) ?_ | refine run_exit (by rfl) ?_ | refine run_rounds 2 ?_ | refine run_round ?_ | exact True.intro | exact rfl | exact SLe0.pure rfl | (show allP _; first | exact True.intro | (simp only [allP, go_sem, Bool.not_eq_true', Bool.not_eq_false', implies_true, true_and, and_true, and_self, imp_self]; done) | (simp [allP, go_sem]; done) | (simp [allP, go_sem] at *; first | done | assumption | omega | (simp_all; done)) | (simp only [allP, go_sem]; intros; simp_all; done) | (simp only [allP, go_sem, ByteArray.size_append, size_mk, List.size_toArray, List.length_append, List.length_cons, List.length_nil, and_true, true_and]; (repeat' apply And.intro) <;> omega)))
theorem K158c : FnOK Tryz.prog 158 (fun ds d => ∃ r : List UInt8, r.length ≤ 400000000 ∧ ds = [.fp treeS, .str (B (92 :: 92 :: r)), .bool false] ∧ d = .tup [.str (B [92]), .int .i64 2, .bool true]) := by
  refine fn_intro Tryz.call158 Tryz.func158 rfl Tryz.ntmps158 ?_
  rintro ds d ⟨r, hr, rfl, rfl⟩
  refine ⟨by simp, fun w0 => ?_⟩
  have hpl := plT130_92
  have hdr := mapL_drop gF 92 (by omega)
  have hg := gF92
  repeat' (first | apply run_seq | apply run_skip | apply run_block | apply run_blk | apply run_region | apply run_draw | apply runL_nil | refine runxP (by simp only [go_sem, hpl, hdr, hg]; rfl) (by rfl) ?_ ?_ | refine runDqP (by simp only [go_sem, hpl, hdr, hg]; rfl) (by rfl) ?_ ?_ | refine runD_end (by kernel_rfl) (by kernel_rfl) ?_ | refine runL_gF 26 (by simp only [go_sem, hpl, hdr, hg]; rfl) (by rfl) (by simp only [go_sem, hpl, hdr, hg]; first | done | rfl) (by simp only [go_sem, hpl, hdr, hg]; rfl) ?_ | refine runL_gF 81 (by simp only [go_sem, hpl, hdr, hg]; rfl) (by rfl) (by simp only [go_sem, hpl, hdr, hg]; first | done | rfl) (by simp only [go_sem, hpl, hdr, hg]; rfl) ?_ | (refine run_cond (by simp only [go_sem, hpl, hdr, hg]; rfl) ?_ ?_ <;> intro hb <;> have hc := hb <;> (try simp only [decide_eq_true_eq, decide_eq_false_iff_not, Int.not_lt, Int.not_le, Int.ofNat_lt, Int.ofNat_le, Bool.and_eq_true, Bool.or_eq_true, Bool.or_eq_false_iff, Bool.not_eq_true', Bool.not_eq_false', beq_iff_eq, beq_eq_false_iff_ne, bne_iff_ne, bne_eq_false_iff_eq] at hc) <;> (try (exfalso; simp at hc; done))) | refine run_retG (by rfl) (by simp only [go_sem, hpl, hdr, hg]; rfl) ?_ | refine run_exit (by rfl) ?_ | refine run_rounds 3 ?_ | refine run_round ?_ | exact True.intro | exact rfl | exact SLe0.pure rfl | (show allP _; first | exact True.intro | (simp only [allP, go_sem, Bool.not_eq_true', Bool.not_eq_false', implies_true, true_and, and_true, and_self, imp_self]; done) | (simp [allP, go_sem]; done) | (simp [allP, go_sem] at *; first | done | assumption | omega | (simp_all; done)) | (simp only [allP, go_sem]; intros; simp_all; done) | (simp only [allP, go_sem, ByteArray.size_append, size_mk, List.size_toArray, List.length_append, List.length_cons, List.length_nil, and_true, true_and]; (repeat' apply And.intro) <;> omega)))
theorem K158d : FnOK Tryz.prog 158 (fun ds d => ∃ r : List UInt8, r.length ≤ 400000000 ∧ ds = [.fp treeS, .str (B (92 :: 110 :: r)), .bool false] ∧ d = .tup [.str (B [10]), .int .i64 2, .bool true]) := by
  refine fn_intro Tryz.call158 Tryz.func158 rfl Tryz.ntmps158 ?_
  rintro ds d ⟨r, hr, rfl, rfl⟩
  refine ⟨by simp, fun w0 => ?_⟩
  have hpl := plT130_92
  have hdr := mapL_drop gF 92 (by omega)
  have hg := gF92
  have hpl2 := plT130_110
  have hdr2 := mapL_drop gF 110 (by omega)
  have hg2 := gF110
  repeat' (first | apply run_seq | apply run_skip | apply run_block | apply run_blk | apply run_region | apply run_draw | apply runL_nil | refine runxP (by simp only [go_sem, hpl, hdr, hg, hpl2, hdr2, hg2]; rfl) (by rfl) ?_ ?_ | refine runDqP (by simp only [go_sem, hpl, hdr, hg, hpl2, hdr2, hg2]; rfl) (by rfl) ?_ ?_ | refine runD_end (by kernel_rfl) (by kernel_rfl) ?_ | refine runL_gF 26 (by simp only [go_sem, hpl, hdr, hg, hpl2, hdr2, hg2]; rfl) (by rfl) (by simp only [go_sem, hpl, hdr, hg, hpl2, hdr2, hg2]; first | done | rfl) (by simp only [go_sem, hpl, hdr, hg, hpl2, hdr2, hg2]; rfl) ?_ | refine runL_gF 81 (by simp only [go_sem, hpl, hdr, hg, hpl2, hdr2, hg2]; rfl) (by rfl) (by simp only [go_sem, hpl, hdr, hg, hpl2, hdr2, hg2]; first | done | rfl) (by simp only [go_sem, hpl, hdr, hg, hpl2, hdr2, hg2]; rfl) ?_ | (refine run_cond (by simp only [go_sem, hpl, hdr, hg, hpl2, hdr2, hg2]; rfl) ?_ ?_ <;> intro hb <;> have hc := hb <;> (try simp only [decide_eq_true_eq, decide_eq_false_iff_not, Int.not_lt, Int.not_le, Int.ofNat_lt, Int.ofNat_le, Bool.and_eq_true, Bool.or_eq_true, Bool.or_eq_false_iff, Bool.not_eq_true', Bool.not_eq_false', beq_iff_eq, beq_eq_false_iff_ne, bne_iff_ne, bne_eq_false_iff_eq] at hc) <;> (try (exfalso; simp at hc; done))) | refine run_retG (by rfl) (by simp only [go_sem, hpl, hdr, hg, hpl2, hdr2, hg2]; rfl) ?_ | refine run_exit (by rfl) ?_ | refine run_rounds 3 ?_ | refine run_round ?_ | exact True.intro | exact rfl | exact SLe0.pure rfl | (show allP _; first | exact True.intro | (simp only [allP, go_sem, Bool.not_eq_true', Bool.not_eq_false', implies_true, true_and, and_true, and_self, imp_self]; done) | (simp [allP, go_sem]; done) | (simp [allP, go_sem] at *; first | done | assumption | omega | (simp_all; done)) | (simp only [allP, go_sem]; intros; simp_all; done) | (simp only [allP, go_sem, ByteArray.size_append, size_mk, List.size_toArray, List.length_append, List.length_cons, List.length_nil, and_true, true_and]; (repeat' apply And.intro) <;> omega)))
theorem K158e : FnOK Tryz.prog 158 (fun ds d => ∃ (b : UInt8) (r : List UInt8), (r.length ≤ 400000000 ∧ b ≠ 92 ∧ b ≠ 110) ∧ ds = [.fp treeS, .str (B (92 :: b :: r)), .bool false] ∧ d = .tup [.str ByteArray.empty, .int .i64 0, .bool false]) := by
  refine fn_intro Tryz.call158 Tryz.func158 rfl Tryz.ntmps158 ?_
  rintro ds d ⟨b, r, hr, rfl, rfl⟩
  refine ⟨by simp, fun w0 => ?_⟩
  obtain ⟨hr, hb1, hb2⟩ := hr
  have hpl := plT130_92
  have hdr := mapL_drop gF 92 (by omega)
  have hg := gF92
  have hbl := b.toNat_lt
  have hpl2 := plT130_all b.toNat (by omega)
  have hdr2 := mapL_drop gF b.toNat (by omega)
  have hg2 := gFo b hb1 hb2
  repeat' (first | apply run_seq | apply run_skip | apply run_block | apply run_blk | apply run_region | apply run_draw | apply runL_nil | refine runxP (by simp only [go_sem, hpl, hdr, hg, hpl2, hdr2, hg2]; rfl) (by rfl) ?_ ?_ | refine runDqRP (by simp only [go_sem, hpl, hdr, hg, hpl2, hdr2, hg2]; rfl) (by rfl) ?_ (by simp only [go_sem, hpl, hdr, hg, hpl2, hdr2, hg2, recsOf, recA, recU, recG, readS, keysA, keysU]; rfl) ?_ | refine runD_end (by kernel_rfl) (by kernel_rfl) ?_ | refine runL_gF 26 (by simp only [go_sem, hpl, hdr, hg, hpl2, hdr2, hg2]; rfl) (by rfl) (by simp only [go_sem, hpl, hdr, hg, hpl2, hdr2, hg2]; first | done | rfl) (by simp only [go_sem, hpl, hdr, hg, hpl2, hdr2, hg2]; rfl) ?_ | (refine run_cond (by simp only [go_sem, hpl, hdr, hg, hpl2, hdr2, hg2]; rfl) ?_ ?_ <;> intro hb <;> have hc := hb <;> (try simp only [decide_eq_true_eq, decide_eq_false_iff_not, Int.not_lt, Int.not_le, Int.ofNat_lt, Int.ofNat_le, Bool.and_eq_true, Bool.or_eq_true, Bool.or_eq_false_iff, Bool.not_eq_true', Bool.not_eq_false', beq_iff_eq, beq_eq_false_iff_ne, bne_iff_ne, bne_eq_false_iff_eq] at hc) <;> (try (exfalso; simp at hc; done))) | refine run_retG (by rfl) (by simp only [go_sem, hpl, hdr, hg, hpl2, hdr2, hg2]; rfl) ?_ | refine run_exit (by rfl) ?_ | refine run_rounds 2 ?_ | refine run_round ?_ | exact True.intro | exact rfl | exact SLe0.pure rfl | (show allP _; first | exact True.intro | (simp only [allP, go_sem, Bool.not_eq_true', Bool.not_eq_false', implies_true, true_and, and_true, and_self, imp_self]; done) | (simp [allP, go_sem]; done) | (simp [allP, go_sem] at *; first | done | assumption | omega | (simp_all; done)) | (simp only [allP, go_sem]; intros; simp_all; done) | (simp only [allP, go_sem, ByteArray.size_append, size_mk, List.size_toArray, List.length_append, List.length_cons, List.length_nil, and_true, true_and]; (repeat' apply And.intro) <;> omega)))
end Go.Sx
