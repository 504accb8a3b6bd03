/- Part of the proofs that the laws of the journal return true for every input: L2b, L2c. -/
import Derived.Test.YtiddnjgnjmdobaaGreatDoorL2
set_option linter.unusedVariables false
set_option linter.unusedSimpArgs false
set_option linter.all false
/-! L2b: digests: the reference. -/
namespace Go.Sx
open Go.Proofs Go.RowKit
attribute [local irreducible] Run RunL RunD SLe0 SLe OLe
set_option maxHeartbeats 2000000
set_option maxRecDepth 8000
set_option linter.unusedSimpArgs false
set_option linter.unusedVariables false
theorem shr8 (n : Int) (k : Int) (h0 : 0 ≤ k) (h : k ≤ 56) : shrI .i64 (shrI .i64 n k) 8 = shrI .i64 n (k + 8) := by
  obtain ⟨k, rfl⟩ := Int.eq_ofNat_of_zero_le h0
  have e1 : shrI .i64 n (k : Int) = n / 2 ^ k := by
    show n.fdiv (2 ^ (min (k : Int).toNat 64)) = _
    rw [show min (k : Int).toNat 64 = k by simp; omega]
    exact Int.fdiv_eq_ediv_of_nonneg _ (Int.pow_nonneg (by decide))
  have e2 : shrI .i64 n ((k : Int) + 8) = n / 2 ^ (k + 8) := by
    show n.fdiv (2 ^ (min ((k : Int) + 8).toNat 64)) = _
    rw [show min ((k : Int) + 8).toNat 64 = k + 8 by omega]
    exact Int.fdiv_eq_ediv_of_nonneg _ (Int.pow_nonneg (by decide))
  rw [e1, e2]
  show (n / 2 ^ k).fdiv (2 ^ 8) = _
  rw [Int.fdiv_eq_ediv_of_nonneg _ (by decide), Int.ediv_ediv_of_nonneg (Int.pow_nonneg (by decide)), Int.pow_add]
theorem shr0 (n : Int) : shrI .i64 n 0 = n := by
  show n.fdiv (2 ^ 0) = n
  rw [Int.fdiv_eq_ediv_of_nonneg _ (by decide)]; simp
theorem numB_map (n : Int) : (numB n).map (fun b => SD.int .u8 (b.toNat : Int)) = [SD.int .u8 (byN n 0).toNat, SD.int .u8 (byN n 1).toNat, SD.int .u8 (byN n 2).toNat, SD.int .u8 (byN n 3).toNat, SD.int .u8 (byN n 4).toNat, SD.int .u8 (byN n 5).toNat, SD.int .u8 (byN n 6).toNat, SD.int .u8 (byN n 7).toNat] := rfl
@[go_sem] theorem numB_len (n : Int) : (numB n).length = 8 := rfl
@[go_sem] theorem size_B (l : List UInt8) : ByteArray.size ⟨l.toArray⟩ = l.length := by rw [size_L]
theorem K58 : FnOK Tryz.prog 58 (fun ds d => ∃ n, ds = [eInt n] ∧ d = .str ⟨(numB n).toArray⟩) := by
  refine fn_intro Tryz.call58 Tryz.func58 rfl Tryz.ntmps58 ?_
  rintro ds d ⟨n, rfl, rfl⟩
  refine ⟨by simp, fun w0 => ?_⟩
  repeat' (first | apply run_seq | apply run_skip | apply run_block | apply run_blk | apply run_region | apply runL_nil | refine runxP (by simp only [go_sem]; rfl) (by rfl) ?_ ?_ | refine stepcvV ((numB n)) (by simp only [go_sem]; rfl) (by simp only [go_sem]; rfl) (by rfl) ?_ (by first | exact tU57 | exact tU201 | exact tU9 | exact tU5) (by first | exact tU57 | exact tU201 | exact tU9 | exact tU5) (by first | exact tU57 | exact tU201 | exact tU9 | exact tU5) (by simp only [go_sem]; rfl) ?_ | (refine run_cond (by simp only [go_sem]; rfl) ?_ ?_ <;> intro hb <;> have hc := hb <;> (try simp only [decide_eq_true_eq, decide_eq_false_iff_not, Int.not_lt, Int.not_le, Int.ofNat_lt, Int.ofNat_le, Bool.and_eq_true, Bool.or_eq_true, Bool.or_eq_false_iff, Bool.not_eq_true', Bool.not_eq_false', beq_iff_eq, beq_eq_false_iff_ne, bne_iff_ne, bne_eq_false_iff_eq] at hc) <;> (try (exfalso; simp at hc; done))) | refine run_ret (by rfl) ?_ | refine run_exit (by rfl) ?_ | refine run_rounds 8 ?_ | refine run_round ?_ | exact True.intro | exact rfl | refine SLe0.str ?_ | (show allP _; first | exact True.intro | (simp only [allP, go_sem, Bool.not_eq_true', Bool.not_eq_false', implies_true, true_and, and_true, and_self, imp_self]; done) | (simp [allP, go_sem]; done) | (simp [allP, go_sem] at *; first | done | assumption | omega | (simp_all; done)) | (simp only [allP, go_sem]; intros; simp_all; done) | (simp only [allP, go_sem, ByteArray.size_append, size_mk, List.size_toArray, List.length_append, List.length_cons, List.length_nil, and_true, true_and]; (repeat' apply And.intro) <;> omega)))
  rw [numB_map]; simp [byN_val, shr8, shr0]
def dX (x : Int) (c : UInt8) : Int := (69621 * x + (c.toNat : Int) + 1) % 2147483647
def dY (y : Int) (c : UInt8) : Int := (45991 * y + (c.toNat : Int) + 1) % 2147483629
theorem c8 (c : UInt8) : 0 ≤ (c.toNat : Int) ∧ (c.toNat : Int) < 256 := by have := c.toNat_lt; omega
theorem dX_bd (x : Int) (c : UInt8) : 0 ≤ dX x c ∧ dX x c < 2147483647 := ⟨Int.emod_nonneg _ (by decide), Int.emod_lt_of_pos _ (by decide)⟩
theorem dY_bd (x : Int) (c : UInt8) : 0 ≤ dY x c ∧ dY x c < 2147483629 := ⟨Int.emod_nonneg _ (by decide), Int.emod_lt_of_pos _ (by decide)⟩
theorem dX_eq (x : Int) (c : UInt8) (h0 : 0 ≤ x) (h1 : x < 2147483647) : (IntKind.i64.wrap (IntKind.i64.wrap (IntKind.i64.wrap (69621 * x) + IntKind.i64.wrap (c.toNat : Int)) + 1)).tmod 2147483647 = dX x c := by
  have := c8 c
  have e0 : IntKind.i64.wrap (c.toNat : Int) = (c.toNat : Int) := by rw [w64]; omega
  have e : IntKind.i64.wrap (IntKind.i64.wrap (IntKind.i64.wrap (69621 * x) + (c.toNat : Int)) + 1) = 69621 * x + (c.toNat : Int) + 1 := by rw [w64, w64, w64]; omega
  rw [e0, e, Int.tmod_eq_emod_of_nonneg (by omega)]
  rfl
theorem dY_eq (x : Int) (c : UInt8) (h0 : 0 ≤ x) (h1 : x < 2147483629) : (IntKind.i64.wrap (IntKind.i64.wrap (IntKind.i64.wrap (45991 * x) + IntKind.i64.wrap (c.toNat : Int)) + 1)).tmod 2147483629 = dY x c := by
  have := c8 c
  have e0 : IntKind.i64.wrap (c.toNat : Int) = (c.toNat : Int) := by rw [w64]; omega
  have e : IntKind.i64.wrap (IntKind.i64.wrap (IntKind.i64.wrap (45991 * x) + (c.toNat : Int)) + 1) = 45991 * x + (c.toNat : Int) + 1 := by rw [w64, w64, w64]; omega
  rw [e0, e, Int.tmod_eq_emod_of_nonneg (by omega)]
  rfl
def dgR (s : ByteArray) : List UInt8 := (numB ((L s).foldl dX 11)).drop 4 ++ (numB ((L s).foldl dY 17)).drop 4
theorem K46 : FnOK Tryz.prog 46 (fun ds d => ∃ s, s.size ≤ 1000000000 ∧ ds = [.str s] ∧ d = .str (B (dgR s))) := by
  refine fn_intro Tryz.call46 Tryz.func46 rfl Tryz.ntmps46 ?_
  rintro ds d ⟨s, hsz, rfl, rfl⟩
  refine ⟨by simp, fun w0 => ?_⟩
  repeat' (first | apply run_seq | apply run_block | apply run_region | apply runL_nil | refine runxP (by simp only [go_sem]; rfl) (by rfl) ?_ ?_ | exact True.intro | exact rfl)
  refine run_loopK [0] (fun k : Nat × Int × Int => [(3, .int .i64 k.2.1), (4, .int .i64 k.2.2), (5, .int .i64 (k.1 : Int))]) (fun k : Nat × Int × Int => []) (fun k : Nat × Int × Int => k.1 ≤ s.size ∧ (0 ≤ k.2.1 ∧ k.2.1 < 2147483647) ∧ (0 ≤ k.2.2 ∧ k.2.2 < 2147483629) ∧ (L s).foldl dX 11 = ((L s).drop k.1).foldl dX k.2.1 ∧ (L s).foldl dY 17 = ((L s).drop k.1).foldl dY k.2.2) (fun k : Nat × Int × Int => s.size - k.1) (0, 11, 17) (fun x => by simp only [go_sem]; rfl) ?_ (by simp only [go_sem]; repeat' (first | exact trivial | exact True.intro | exact SLe.refl _ | exact OLe.refl _ | exact ⟨_, rfl, OLe.refl _⟩ | refine ⟨_, rfl, ?_⟩ | refine OLe.var ?_ | (show SLeL _ _; refine ⟨?_, ?_⟩) | (show SLeL [] []; exact True.intro) | (refine SLe.int ?_; rw [w64]; omega) | refine SLe.int ?_ | refine SLe.bool ?_ | apply And.intro)) (by simp only [go_sem]; repeat' (first | exact trivial | exact True.intro | exact SLe.refl _ | exact OLe.refl _ | exact ⟨_, rfl, OLe.refl _⟩ | refine ⟨_, rfl, ?_⟩ | refine OLe.var ?_ | (show SLeL _ _; refine ⟨?_, ?_⟩) | (show SLeL [] []; exact True.intro) | (refine SLe.int ?_; rw [w64]; omega) | refine SLe.int ?_ | refine SLe.bool ?_ | apply And.intro)) ?_
  · exact ⟨Nat.zero_le _, by decide, by decide, rfl, rfl⟩
  rintro ⟨k, x, y⟩ ⟨h1, h2, h3, h4, h5⟩
  simp only at h1 h2 h3 h4 h5
  have e1 := dX_eq x (s.data.toList.getD k 0) h2.1 h2.2
  have e2 := dY_eq y (s.data.toList.getD k 0) h3.1 h3.2
  repeat' (first | apply run_seq | apply run_skip | apply run_block | apply run_blk | apply run_region | apply run_draw | apply runL_nil | refine runxP (by simp only [go_sem, e1, e2]; rfl) (by rfl) ?_ ?_ | refine runDqP (by simp only [go_sem, e1, e2]; rfl) (by rfl) ?_ ?_ | refine runD_end (by kernel_rfl) (by kernel_rfl) ?_ | refine runDcall K58 (by simp only [go_sem, e1, e2]; first | done | rfl) ?_ ⟨_, rfl, rfl⟩ (by simp only [go_sem, e1, e2]; rfl) ?_ | (refine run_cond (by simp only [go_sem, e1, e2]; rfl) ?_ ?_ <;> intro hb <;> have hc := hb <;> (try simp only [decide_eq_true_eq, decide_eq_false_iff_not, Int.not_lt, Int.not_le, Int.ofNat_lt, Int.ofNat_le, Bool.and_eq_true, Bool.or_eq_true, Bool.or_eq_false_iff, Bool.not_eq_true', Bool.not_eq_false', beq_iff_eq, beq_eq_false_iff_ne, bne_iff_ne, bne_eq_false_iff_eq] at hc) <;> (try (exfalso; simp at hc; done))) | refine run_ret (by rfl) ?_ | refine run_exit (by rfl) ?_ | refine run_lp (k+1,dX x ((L s).getD k 0),dY y ((L s).getD k 0)) ?_ ?_ ⟨rfl, by simp only [go_sem]; repeat' (first | exact trivial | exact True.intro | exact SLe.refl _ | exact OLe.refl _ | exact ⟨_, rfl, OLe.refl _⟩ | refine ⟨_, rfl, ?_⟩ | refine OLe.var ?_ | (show SLeL _ _; refine ⟨?_, ?_⟩) | (show SLeL [] []; exact True.intro) | (refine SLe.int ?_; rw [w64]; omega) | refine SLe.int ?_ | refine SLe.bool ?_ | apply And.intro), by simp only [go_sem]; repeat' (first | exact trivial | exact True.intro | exact SLe.refl _ | exact OLe.refl _ | exact ⟨_, rfl, OLe.refl _⟩ | refine ⟨_, rfl, ?_⟩ | refine OLe.var ?_ | (show SLeL _ _; refine ⟨?_, ?_⟩) | (show SLeL [] []; exact True.intro) | (refine SLe.int ?_; rw [w64]; omega) | refine SLe.int ?_ | refine SLe.bool ?_ | apply And.intro)⟩ | exact True.intro | exact rfl | omega | refine SLe0.str ?_ | (show allP _; first | exact True.intro | (simp only [allP, go_sem, Bool.not_eq_true', Bool.not_eq_false', implies_true, true_and, and_true, and_self, imp_self]; done) | (simp [allP, go_sem]; done) | (simp [allP, go_sem] at *; first | done | assumption | omega | (simp_all; done)) | (simp only [allP, go_sem]; intros; simp_all; done) | (simp only [allP, go_sem, ByteArray.size_append, size_mk, List.size_toArray, List.length_append, List.length_cons, List.length_nil, and_true, true_and]; (repeat' apply And.intro) <;> omega)))
  · have hl : k < (L s).length := by rw [← size_L]; exact hc
    refine ⟨by simp only; omega, dX_bd _ _, dY_bd _ _, ?_, ?_⟩
    · rw [h4, drop_get _ _ hl]; rfl
    · rw [h5, drop_get _ _ hl]; rfl
  · have hk : k = s.size := by omega
    rw [hk, size_L, List.drop_length] at h4 h5
    simp only [List.foldl_nil] at h4 h5
    apply L_inj
    rw [L_append, L_extract, L_extract]
    simp only [dgR, h4, h5, L_B]
    rw [List.take_of_length_le (by simp [numB]), List.take_of_length_le (by simp [numB])]
end Go.Sx

/-! L2c: digests: the program. -/
namespace Go.Sx
open Go.Proofs Go.RowKit
attribute [local irreducible] Run RunL RunD SLe0 SLe OLe
set_option maxHeartbeats 2000000
set_option maxRecDepth 8000
set_option linter.unusedSimpArgs false
set_option linter.unusedVariables false
attribute [go_sem] byF
theorem shrD (n : Int) (k : Nat) (h : k ≤ 63) : shrI .i64 n (k : Int) = n / 2 ^ k := by
  show n.fdiv (2 ^ (min (k : Int).toNat 64)) = _
  rw [show min (k : Int).toNat 64 = k by simp; omega]
  exact Int.fdiv_eq_ediv_of_nonneg _ (Int.pow_nonneg (by decide))
theorem byN_eq {n m : Int} {i j : Nat} (hi : i ≤ 7) (hj : j ≤ 7) (h : n / 2 ^ (56 - 8 * i) % 256 = m / 2 ^ (56 - 8 * j) % 256) : byN n i = byN m j := by
  unfold byN
  have e : ∀ k : Nat, k ≤ 7 → (56 - 8 * (k : Int)) = ((56 - 8 * k : Nat) : Int) := fun k hk => by omega
  rw [e i hi, e j hj, shrD n _ (by omega), shrD m _ (by omega), h]
theorem or_add (x y : Int) (h1 : 0 ≤ x) (h2 : x < 2147483647) (h3 : 0 ≤ y) (h4 : y < 2147483629) : orI .i64 (shlI .i64 x 32) y = x * 4294967296 + y := by
  obtain ⟨a, rfl⟩ := Int.eq_ofNat_of_zero_le h1
  obtain ⟨b, rfl⟩ := Int.eq_ofNat_of_zero_le h3
  have e1 : shlI .i64 (a : Int) 32 = ((a * 4294967296 : Nat) : Int) := by
    show IntKind.i64.wrap ((a : Int) * 2 ^ 32) = _
    rw [w64]; omega
  rw [e1]
  show IntKind.i64.wrap ((BitVec.ofInt 64 ((a * 4294967296 : Nat) : Int) ||| BitVec.ofInt 64 (b : Int)).toNat : Int) = _
  have e2 : (BitVec.ofInt 64 ((a * 4294967296 : Nat) : Int) ||| BitVec.ofInt 64 (b : Int)).toNat = (a * 4294967296) ||| b := by
    rw [BitVec.toNat_or, BitVec.ofInt_natCast, BitVec.ofInt_natCast, BitVec.toNat_ofNat, BitVec.toNat_ofNat, Nat.mod_eq_of_lt (by omega), Nat.mod_eq_of_lt (by omega)]
  have e3 : (a * 4294967296) ||| b = a * 4294967296 + b := by
    have := Nat.shiftLeft_add_eq_or_of_lt (a := a) (b := b) (i := 32) (by omega)
    rw [Nat.shiftLeft_eq] at this
    exact this.symm
  rw [e2, e3, w64]; omega
theorem comb (x y : Int) (h1 : 0 ≤ x) (h2 : x < 2147483647) (h3 : 0 ≤ y) (h4 : y < 2147483629) : numB (orI .i64 (shlI .i64 x 32) y) = (numB x).drop 4 ++ (numB y).drop 4 := by
  rw [or_add x y h1 h2 h3 h4]
  have a0 : byN (x * 4294967296 + y) 0 = byN x 4 := byN_eq (by omega) (by omega) (by simp only [Nat.reduceMul, Nat.reduceSub, Int.reducePow, Nat.mul_zero, Nat.mul_one]; omega)
  have a1 : byN (x * 4294967296 + y) 1 = byN x 5 := byN_eq (by omega) (by omega) (by simp only [Nat.reduceMul, Nat.reduceSub, Int.reducePow, Nat.mul_zero, Nat.mul_one]; omega)
  have a2 : byN (x * 4294967296 + y) 2 = byN x 6 := byN_eq (by omega) (by omega) (by simp only [Nat.reduceMul, Nat.reduceSub, Int.reducePow, Nat.mul_zero, Nat.mul_one]; omega)
  have a3 : byN (x * 4294967296 + y) 3 = byN x 7 := byN_eq (by omega) (by omega) (by simp only [Nat.reduceMul, Nat.reduceSub, Int.reducePow, Nat.mul_zero, Nat.mul_one]; omega)
  have a4 : byN (x * 4294967296 + y) 4 = byN y 4 := byN_eq (by omega) (by omega) (by simp only [Nat.reduceMul, Nat.reduceSub, Int.reducePow, Nat.mul_zero, Nat.mul_one]; omega)
  have a5 : byN (x * 4294967296 + y) 5 = byN y 5 := byN_eq (by omega) (by omega) (by simp only [Nat.reduceMul, Nat.reduceSub, Int.reducePow, Nat.mul_zero, Nat.mul_one]; omega)
  have a6 : byN (x * 4294967296 + y) 6 = byN y 6 := byN_eq (by omega) (by omega) (by simp only [Nat.reduceMul, Nat.reduceSub, Int.reducePow, Nat.mul_zero, Nat.mul_one]; omega)
  have a7 : byN (x * 4294967296 + y) 7 = byN y 7 := byN_eq (by omega) (by omega) (by simp only [Nat.reduceMul, Nat.reduceSub, Int.reducePow, Nat.mul_zero, Nat.mul_one]; omega)
  show [byN _ 0, byN _ 1, byN _ 2, byN _ 3, byN _ 4, byN _ 5, byN _ 6, byN _ 7] = [byN x 4, byN x 5, byN x 6, byN x 7, byN y 4, byN y 5, byN y 6, byN y 7]
  rw [a0, a1, a2, a3, a4, a5, a6, a7]
theorem K48 : FnOK Tryz.prog 48 (fun ds d => ∃ s, s.size ≤ 1000000000 ∧ ds = [.list 1 1 fun i => .str ([s].getD i ByteArray.empty)] ∧ d = .str (B (dgR s))) := by
  refine fn_intro Tryz.call48 Tryz.func48 rfl Tryz.ntmps48 ?_
  rintro ds d ⟨s, hsz, rfl, rfl⟩
  refine ⟨by simp, fun w0 => ?_⟩
  repeat' (first | apply run_seq | apply run_block | apply run_region | apply runL_nil | refine runxP (by simp only [go_sem]; rfl) (by rfl) ?_ ?_ | exact True.intro | exact rfl)
  refine run_rounds 1 ?_
  repeat' (first | apply run_seq | apply run_skip | apply run_block | apply run_region | apply runL_nil | refine runxP (by simp only [go_sem]; rfl) (by rfl) ?_ ?_ | refine stepcvB (by simp only [go_sem]; rfl) ?_ (by rfl) (by first | exact tU57 | exact tU201 | exact tU9 | exact tU5) (by first | exact tU57 | exact tU201 | exact tU9 | exact tU5) ?_ (by simp only [go_sem]; rfl) ?_ | (refine run_cond (by simp only [go_sem]; rfl) ?_ ?_ <;> intro hb <;> have hc := hb <;> (try simp only [decide_eq_true_eq, decide_eq_false_iff_not, Int.not_lt, Int.not_le, Int.ofNat_lt, Int.ofNat_le, Bool.and_eq_true, Bool.or_eq_true, Bool.or_eq_false_iff, Bool.not_eq_true', Bool.not_eq_false', beq_iff_eq, beq_eq_false_iff_ne, bne_iff_ne, bne_eq_false_iff_eq] at hc) <;> (try (exfalso; simp at hc; done))) | exact True.intro | exact rfl | (show allP _; first | exact True.intro | (simp only [allP, go_sem, Bool.not_eq_true', Bool.not_eq_false', implies_true, true_and, and_true, and_self, imp_self]; done) | (simp [allP, go_sem]; done) | (simp [allP, go_sem] at *; first | done | assumption | omega | (simp_all; done)) | (simp only [allP, go_sem]; intros; simp_all; done) | (simp only [allP, go_sem, ByteArray.size_append, size_mk, List.size_toArray, List.length_append, List.length_cons, List.length_nil, and_true, true_and]; (repeat' apply And.intro) <;> omega)))
  · simp only [maxN]; omega
  refine run_loopK [0, 2, 9, 10, 11, 16, 17] (fun k : Nat × Int × Int => [(3, .int .i64 k.2.1), (4, .int .i64 k.2.2), (18, .int .i64 (k.1 : Int))]) (fun k : Nat × Int × Int => []) (fun k : Nat × Int × Int => k.1 ≤ s.size ∧ (0 ≤ k.2.1 ∧ k.2.1 < 2147483647) ∧ (0 ≤ k.2.2 ∧ k.2.2 < 2147483629) ∧ (L s).foldl dX 11 = ((L s).drop k.1).foldl dX k.2.1 ∧ (L s).foldl dY 17 = ((L s).drop k.1).foldl dY k.2.2) (fun k : Nat × Int × Int => s.size - k.1) (0, 11, 17) (fun x => by simp only [go_sem]; rfl) ?_ (by simp only [go_sem]; repeat' (first | exact trivial | exact True.intro | exact SLe.refl _ | exact OLe.refl _ | exact ⟨_, rfl, OLe.refl _⟩ | refine ⟨_, rfl, ?_⟩ | refine OLe.var ?_ | (show SLeL _ _; refine ⟨?_, ?_⟩) | (show SLeL [] []; exact True.intro) | (refine SLe.int ?_; rw [w64]; omega) | refine SLe.int ?_ | refine SLe.bool ?_ | apply And.intro)) (by simp only [go_sem]; repeat' (first | exact trivial | exact True.intro | exact SLe.refl _ | exact OLe.refl _ | exact ⟨_, rfl, OLe.refl _⟩ | refine ⟨_, rfl, ?_⟩ | refine OLe.var ?_ | (show SLeL _ _; refine ⟨?_, ?_⟩) | (show SLeL [] []; exact True.intro) | (refine SLe.int ?_; rw [w64]; omega) | refine SLe.int ?_ | refine SLe.bool ?_ | apply And.intro)) ?_
  · exact ⟨Nat.zero_le _, by decide, by decide, rfl, rfl⟩
  rintro ⟨k, x, y⟩ ⟨h1, h2, h3, h4, h5⟩
  simp only at h1 h2 h3 h4 h5
  have e1 := dX_eq x (s.data.toList.getD k 0) h2.1 h2.2
  have e2 := dY_eq y (s.data.toList.getD k 0) h3.1 h3.2
  repeat' (first | apply run_seq | apply run_skip | apply run_block | apply run_blk | apply run_region | apply runL_nil | refine runxP (by simp only [go_sem, e1, e2]; rfl) (by rfl) ?_ ?_ | refine stepcall K59 (by simp only [go_sem, e1, e2]; first | done | rfl) ?_ ⟨_, rfl, rfl⟩ (by simp only [go_sem, e1, e2]; rfl) ?_ | (refine run_cond (by simp only [go_sem, e1, e2]; rfl) ?_ ?_ <;> intro hb <;> have hc := hb <;> (try simp only [decide_eq_true_eq, decide_eq_false_iff_not, Int.not_lt, Int.not_le, Int.ofNat_lt, Int.ofNat_le, Bool.and_eq_true, Bool.or_eq_true, Bool.or_eq_false_iff, Bool.not_eq_true', Bool.not_eq_false', beq_iff_eq, beq_eq_false_iff_ne, bne_iff_ne, bne_eq_false_iff_eq] at hc) <;> (try (exfalso; simp at hc; done))) | refine run_ret (by rfl) ?_ | refine run_exit (by rfl) ?_ | refine run_round ?_ | refine run_lp (k+1,dX x ((L s).getD k 0),dY y ((L s).getD k 0)) ?_ ?_ ⟨rfl, by simp only [go_sem]; repeat' (first | exact trivial | exact True.intro | exact SLe.refl _ | exact OLe.refl _ | exact ⟨_, rfl, OLe.refl _⟩ | refine ⟨_, rfl, ?_⟩ | refine OLe.var ?_ | (show SLeL _ _; refine ⟨?_, ?_⟩) | (show SLeL [] []; exact True.intro) | (refine SLe.int ?_; rw [w64]; omega) | refine SLe.int ?_ | refine SLe.bool ?_ | apply And.intro), by simp only [go_sem]; repeat' (first | exact trivial | exact True.intro | exact SLe.refl _ | exact OLe.refl _ | exact ⟨_, rfl, OLe.refl _⟩ | refine ⟨_, rfl, ?_⟩ | refine OLe.var ?_ | (show SLeL _ _; refine ⟨?_, ?_⟩) | (show SLeL [] []; exact True.intro) | (refine SLe.int ?_; rw [w64]; omega) | refine SLe.int ?_ | refine SLe.bool ?_ | apply And.intro)⟩ | exact True.intro | exact rfl | omega | refine SLe0.str ?_ | (show allP _; first | exact True.intro | (simp only [allP, go_sem, Bool.not_eq_true', Bool.not_eq_false', implies_true, true_and, and_true, and_self, imp_self]; done) | (simp [allP, go_sem]; done) | (simp [allP, go_sem] at *; first | done | assumption | omega | (simp_all; done)) | (simp only [allP, go_sem]; intros; simp_all; done) | (simp only [allP, go_sem, ByteArray.size_append, size_mk, List.size_toArray, List.length_append, List.length_cons, List.length_nil, and_true, true_and]; (repeat' apply And.intro) <;> omega)))
  · have hl : k < (L s).length := by rw [← size_L]; assumption
    refine ⟨by simp only; omega, dX_bd _ _, dY_bd _ _, ?_, ?_⟩
    · rw [h4, drop_get _ _ hl]; rfl
    · rw [h5, drop_get _ _ hl]; rfl
  · have hk : k = s.size := by omega
    rw [hk, size_L, List.drop_length] at h4 h5
    simp only [List.foldl_nil] at h4 h5
    apply L_inj
    simp only [dgR, h4, h5, L_B]
    exact comb x y h2.1 h2.2 h3.1 h3.2
theorem K37 : FnOK Tryz.prog 37 (fun ds d => ∃ s, s.size ≤ 1000000000 ∧ ds = [.str s] ∧ d = .str (B (dgR s))) := by
  refine fn_intro Tryz.call37 Tryz.func37 rfl Tryz.ntmps37 ?_
  rintro ds d ⟨s, hsz, rfl, rfl⟩
  refine ⟨by simp, fun w0 => ?_⟩
  repeat' (first | apply run_seq | apply run_region | apply runL_nil | refine runxP (by simp only [go_sem]; rfl) (by rfl) ?_ ?_ | refine stepcall K48 (by simp only [go_sem]; first | done | rfl) ?_ ⟨s, hsz, rfl, rfl⟩ (by simp only [go_sem]; rfl) ?_ | refine run_ret (by rfl) ?_ | exact True.intro | exact rfl | refine SLe0.str ?_)
end Go.Sx
