/- Part of the proofs that the laws of the journal return true for every input: L3. -/
import Derived.Test.YtiddnjgnjmdobaaGreatDoorL2c
set_option linter.unusedVariables false
set_option linter.unusedSimpArgs false
set_option linter.all false
/-! L3: digits, numerals: the reference. -/
namespace Go.Sx
open Go.Proofs Go.RowKit
attribute [local irreducible] Run RunL RunD SLe0 SLe OLe
set_option maxHeartbeats 2000000
set_option maxRecDepth 8000
set_option linter.unusedSimpArgs false
set_option linter.unusedVariables false
def hxD (n : Nat) : UInt8 := if n < 10 then UInt8.ofNat (48 + n) else UInt8.ofNat (87 + n)
def hexL (l : List UInt8) : List UInt8 := l.flatMap fun c => [hxD (c.toNat / 16), hxD (c.toNat % 16)]
def digs : ByteArray := ⟨#[48, 49, 50, 51, 52, 53, 54, 55, 56, 57, 97, 98, 99, 100, 101, 102]⟩
theorem hexL_len (l : List UInt8) : (hexL l).length = 2 * l.length := by
  induction l with
  | nil => rfl
  | cons a r ih => simp only [hexL, List.flatMap_cons, List.length_append, List.length_cons, List.length_nil] at ih ⊢; omega
theorem dig1 : ∀ n : Nat, n < 16 → ((digs.data.toList.drop n).take (n + 1 - n)) = [hxD n] := by decide
theorem dig2 (n : Nat) (h : n < 16) : digs.extract n (n + 1) = B [hxD n] := L_inj (by rw [L_extract]; exact dig1 n h)
theorem hx2 (o : List UInt8) (c : UInt8) : B o ++ digs.extract (c.toNat / 16) (c.toNat / 16 + 1) ++ digs.extract (c.toNat % 16) (c.toNat % 16 + 1) = B (o ++ [hxD (c.toNat / 16), hxD (c.toNat % 16)]) := by
  have := c.toNat_lt
  rw [dig2 _ (by omega), dig2 _ (by omega), B_append, B_append]
  simp
theorem K36 : FnOK Tryz.prog 36 (fun ds d => ∃ s, s.size ≤ 1000000000 ∧ ds = [.str s] ∧ d = .str (B (hexL (L s)))) := by
  refine fn_intro Tryz.call36 Tryz.func36 rfl Tryz.ntmps36 ?_
  rintro ds d ⟨s, hsz, rfl, rfl⟩
  refine ⟨by simp, fun w0 => ?_⟩
  repeat' (first | apply run_seq | apply run_block | apply run_region | apply runL_nil | refine runxP (by simp only [go_sem]; rfl) (by rfl) ?_ ?_ | exact True.intro | exact rfl)
  refine run_loopK [0, 3] (fun k : Nat × List UInt8 => [(4, .str (B k.2)), (5, .int .i64 (k.1 : Int))]) (fun k : Nat × List UInt8 => []) (fun k : Nat × List UInt8 => k.1 ≤ s.size ∧ k.2.length = 2 * k.1 ∧ hexL (L s) = k.2 ++ hexL ((L s).drop k.1)) (fun k : Nat × List UInt8 => s.size - k.1) (0, []) (fun x => by simp only [go_sem]; rfl) ?_ (by simp only [go_sem]; repeat' (first | exact trivial | exact True.intro | exact SLe.refl _ | exact OLe.refl _ | exact ⟨_, rfl, OLe.refl _⟩ | refine ⟨_, rfl, ?_⟩ | refine OLe.var ?_ | (show SLeL _ _; refine ⟨?_, ?_⟩) | (show SLeL [] []; exact True.intro) | (refine SLe.int ?_; rw [w64]; omega) | refine SLe.int ?_ | refine SLe.bool ?_ | apply And.intro)) (by simp only [go_sem]; repeat' (first | exact trivial | exact True.intro | exact SLe.refl _ | exact OLe.refl _ | exact ⟨_, rfl, OLe.refl _⟩ | refine ⟨_, rfl, ?_⟩ | refine OLe.var ?_ | (show SLeL _ _; refine ⟨?_, ?_⟩) | (show SLeL [] []; exact True.intro) | (refine SLe.int ?_; rw [w64]; omega) | refine SLe.int ?_ | refine SLe.bool ?_ | apply And.intro)) ?_
  · exact ⟨Nat.zero_le _, rfl, rfl⟩
  rintro ⟨k, o⟩ ⟨h1, h2, h3⟩
  simp only at h1 h2 h3
  have hc8 := (s.data.toList.getD k 0).toNat_lt
  have e0 : IntKind.i64.wrap ((s.data.toList.getD k 0).toNat : Int) = ((s.data.toList.getD k 0).toNat : Int) := by rw [w64]; omega
  have e1 : IntKind.i64.wrap (((s.data.toList.getD k 0).toNat : Int).tdiv 16) = (((s.data.toList.getD k 0).toNat / 16 : Nat) : Int) := by rw [w64, Int.tdiv_eq_ediv_of_nonneg (by omega)]; omega
  have e2 : ((s.data.toList.getD k 0).toNat : Int).tmod 16 = (((s.data.toList.getD k 0).toNat % 16 : Nat) : Int) := by rw [Int.tmod_eq_emod_of_nonneg (by omega)]; omega
  have e3 : IntKind.i64.wrap ((((s.data.toList.getD k 0).toNat / 16 : Nat) : Int) + 1) = (((s.data.toList.getD k 0).toNat / 16 + 1 : Nat) : Int) := by rw [w64]; omega
  have e4 : IntKind.i64.wrap ((((s.data.toList.getD k 0).toNat % 16 : Nat) : Int) + 1) = (((s.data.toList.getD k 0).toNat % 16 + 1 : Nat) : Int) := by rw [w64]; omega
  repeat' (first | apply run_seq | apply run_skip | apply run_block | apply run_blk | apply run_region | apply run_draw | apply runL_nil | refine runxP (by simp only [go_sem, e0, e1, e2, e3, e4]; rfl) (by rfl) ?_ ?_ | refine runDqP (by simp only [go_sem, e0, e1, e2, e3, e4]; rfl) (by rfl) ?_ ?_ | refine runD_end (by kernel_rfl) (by kernel_rfl) ?_ | (refine run_cond (by simp only [go_sem, e0, e1, e2, e3, e4]; rfl) ?_ ?_ <;> intro hb <;> have hc := hb <;> (try simp only [decide_eq_true_eq, decide_eq_false_iff_not, Int.not_lt, Int.not_le, Int.ofNat_lt, Int.ofNat_le, Bool.and_eq_true, Bool.or_eq_true, Bool.or_eq_false_iff, Bool.not_eq_true', Bool.not_eq_false', beq_iff_eq, beq_eq_false_iff_ne, bne_iff_ne, bne_eq_false_iff_eq] at hc) <;> (try (exfalso; simp at hc; done))) | refine run_ret (by rfl) ?_ | refine run_exit (by rfl) ?_ | refine run_lp (k+1,o++[hxD ((s.data.toList.getD k 0).toNat/16),hxD ((s.data.toList.getD k 0).toNat%16)]) ?_ ?_ ⟨rfl, by simp only [go_sem]; repeat' (first | exact trivial | exact True.intro | exact SLe.refl _ | exact OLe.refl _ | exact ⟨_, rfl, OLe.refl _⟩ | refine ⟨_, rfl, ?_⟩ | refine OLe.var ?_ | (show SLeL _ _; refine ⟨?_, ?_⟩) | (show SLeL [] []; exact True.intro) | (refine SLe.int ?_; rw [w64]; omega) | refine SLe.int ?_ | refine SLe.bool ?_ | apply And.intro | (refine SLe.str ?_; exact hx2 _ _)), by simp only [go_sem]; repeat' (first | exact trivial | exact True.intro | exact SLe.refl _ | exact OLe.refl _ | exact ⟨_, rfl, OLe.refl _⟩ | refine ⟨_, rfl, ?_⟩ | refine OLe.var ?_ | (show SLeL _ _; refine ⟨?_, ?_⟩) | (show SLeL [] []; exact True.intro) | (refine SLe.int ?_; rw [w64]; omega) | refine SLe.int ?_ | refine SLe.bool ?_ | apply And.intro | (refine SLe.str ?_; exact hx2 _ _))⟩ | exact True.intro | exact rfl | omega | refine SLe0.str ?_ | (show allP _; first | exact True.intro | (simp only [allP, go_sem, Bool.not_eq_true', Bool.not_eq_false', implies_true, true_and, and_true, and_self, imp_self]; done) | (simp [allP, go_sem]; done) | (simp [allP, go_sem] at *; first | done | assumption | omega | (simp_all; done)) | (simp only [allP, go_sem]; intros; simp_all; done) | (simp only [allP, go_sem, ByteArray.size_append, size_mk, List.size_toArray, List.length_append, List.length_cons, List.length_nil, and_true, true_and]; (repeat' apply And.intro) <;> omega)))
  · have hl : k < (L s).length := by rw [← size_L]; exact hc
    refine ⟨by simp only; omega, by simp; omega, ?_⟩
    rw [h3, drop_get _ _ hl, List.append_assoc]; rfl
  · have hk : k = s.size := by omega
    rw [h3, hk, size_L, List.drop_length, show hexL [] = [] from rfl, List.append_nil]
def decL (n : Nat) : List UInt8 := if n < 10 then [UInt8.ofNat (48 + n)] else decL (n / 10) ++ [UInt8.ofNat (48 + n % 10)]
theorem decL_lt (n : Nat) (h : n < 10) : decL n = [UInt8.ofNat (48 + n)] := by rw [decL, if_pos h]
theorem decL_ge (n : Nat) (h : ¬ n < 10) : decL n = decL (n / 10) ++ decL (n % 10) := by rw [decL, if_neg h, decL_lt (n % 10) (by omega)]
theorem decL_len (n k : Nat) (h : n < 10 ^ k) (hk : 1 ≤ k) : (decL n).length ≤ k := by
  induction k generalizing n with
  | zero => omega
  | succ k ih =>
    rw [decL]
    split
    · simp
    · rw [List.length_append]
      have : k ≠ 0 := by rintro rfl; omega
      have := ih (n / 10) (by rw [Nat.pow_succ] at h; omega) (by omega)
      simp only [List.length_cons, List.length_nil]; omega
theorem K45 : ∀ N : Nat, FnOK Tryz.prog 45 (fun ds d => ∃ n : Nat, (n < N ∧ n ≤ 1000000000000) ∧ ds = [eInt (n : Int)] ∧ d = .str (B (decL n))) := by
  intro N
  induction N with
  | zero => exact ⟨Tryz.call45, fun ds d ⟨n, h, _⟩ => absurd h.1 (Nat.not_lt_zero _)⟩
  | succ N ih =>
    refine fn_intro Tryz.call45 Tryz.func45 rfl Tryz.ntmps45 ?_
    rintro ds d ⟨n, ⟨h1, h2⟩, rfl, rfl⟩
    refine ⟨by simp, fun w0 => ?_⟩
    by_cases h : n < 10
    · rw [decL_lt n h]
      have e1 : IntKind.u8.wrap (IntKind.i64.wrap (48 + (n : Int))) = ((UInt8.ofNat (48 + n)).toNat : Int) := by
        rw [wu8, w64, UInt8.toNat_ofNat']; omega
      repeat' (first | apply run_seq | apply run_skip | apply run_region | apply runL_nil | refine runxP (by simp only [go_sem, e1]; rfl) (by rfl) ?_ ?_ | refine stepcvL ([UInt8.ofNat (48+n)]) (by simp only [go_sem, e1]; rfl) ?_ ?_ ?_ (by first | exact tU57 | exact tU201 | exact tU9 | exact tU5) (by first | exact tU57 | exact tU201 | exact tU9 | exact tU5) (by first | exact tU57 | exact tU201 | exact tU9 | exact tU5) (by simp only [go_sem, e1]; rfl) ?_ | (refine run_cond (by simp only [go_sem, e1]; rfl) ?_ ?_ <;> intro hb <;> have hc := hb <;> (try simp only [decide_eq_true_eq, decide_eq_false_iff_not, Int.not_lt, Int.not_le, Int.ofNat_lt, Int.ofNat_le, Bool.and_eq_true, Bool.or_eq_true, Bool.or_eq_false_iff, Bool.not_eq_true', Bool.not_eq_false', beq_iff_eq, beq_eq_false_iff_ne, bne_iff_ne, bne_eq_false_iff_eq] at hc) <;> (try (exfalso; simp at hc; done))) | refine run_ret (by rfl) ?_ | exact True.intro | exact rfl | omega | refine SLe0.str ?_)
      intro i hi; have : i = 0 := by omega
      subst this; rfl
    · rw [decL_ge n h]
      have e1 : IntKind.i64.wrap ((n : Int).tdiv 10) = ((n / 10 : Nat) : Int) := by rw [w64, Int.tdiv_eq_ediv_of_nonneg (by omega)]; omega
      have e2 : (n : Int).tmod 10 = ((n % 10 : Nat) : Int) := by rw [Int.tmod_eq_emod_of_nonneg (by omega)]; omega
      have l1 : (decL (n / 10)).length ≤ 12 := decL_len _ _ (by omega) (by omega)
      have l2 : (decL (n % 10)).length ≤ 1 := decL_len _ _ (by omega) (by omega)
      repeat' (first | apply run_seq | apply run_skip | apply run_region | apply runL_nil | refine runxP (by simp only [go_sem, e1, e2]; rfl) (by rfl) ?_ ?_ | refine stepcall ih (by simp only [go_sem, e1, e2]; first | done | rfl) ?_ ⟨n/10, ⟨by omega, by omega⟩, rfl, rfl⟩ (by simp only [go_sem, e1, e2]; rfl) ?_ | refine stepcall ih (by simp only [go_sem, e1, e2]; first | done | rfl) ?_ ⟨n%10, ⟨by omega, by omega⟩, rfl, rfl⟩ (by simp only [go_sem, e1, e2]; rfl) ?_ | (refine run_cond (by simp only [go_sem, e1, e2]; rfl) ?_ ?_ <;> intro hb <;> have hc := hb <;> (try simp only [decide_eq_true_eq, decide_eq_false_iff_not, Int.not_lt, Int.not_le, Int.ofNat_lt, Int.ofNat_le, Bool.and_eq_true, Bool.or_eq_true, Bool.or_eq_false_iff, Bool.not_eq_true', Bool.not_eq_false', beq_iff_eq, beq_eq_false_iff_ne, bne_iff_ne, bne_eq_false_iff_eq] at hc) <;> (try (exfalso; simp at hc; done))) | refine run_ret (by rfl) ?_ | exact True.intro | exact rfl | omega | refine SLe0.str ?_ | (show allP _; first | exact True.intro | (simp only [allP, go_sem, Bool.not_eq_true', Bool.not_eq_false', implies_true, true_and, and_true, and_self, imp_self]; done) | (simp [allP, go_sem]; done) | (simp [allP, go_sem] at *; first | done | assumption | omega | (simp_all; done)) | (simp only [allP, go_sem]; intros; simp_all; done) | (simp only [allP, go_sem, ByteArray.size_append, size_mk, List.size_toArray, List.length_append, List.length_cons, List.length_nil, and_true, true_and]; (repeat' apply And.intro) <;> omega)))
end Go.Sx
