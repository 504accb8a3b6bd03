/- Part of the proofs that the laws of the journal return true for every input: L4. -/
import Derived.Test.YtiddnjgnjmdobaaGreatDoorL3
set_option linter.unusedVariables false
set_option linter.unusedSimpArgs false
set_option linter.all false
/-! L4: lines: the reference. -/
namespace Go.Sx
open Go.Proofs Go.RowKit
attribute [local irreducible] Run RunL RunD SLe0 SLe OLe
set_option maxHeartbeats 2000000
set_option maxRecDepth 8000
set_option linter.unusedSimpArgs false
set_option linter.unusedVariables false
def escC (c : UInt8) : List UInt8 := if c = 92 then [92, 92] else if c = 10 then [92, 110] else [c]
def escL (l : List UInt8) : List UInt8 := l.flatMap escC
theorem escC_len (c : UInt8) : (escC c).length ≤ 2 := by unfold escC; split <;> (try split) <;> simp
theorem escL_len (l : List UInt8) : (escL l).length ≤ 2 * l.length := by
  induction l with
  | nil => simp [escL]
  | cons a r ih => have := escC_len a; simp only [escL, List.flatMap_cons, List.length_append, List.length_cons] at ih ⊢; omega
def lineL (l : List UInt8) : List UInt8 := decL l.length ++ [32] ++ hexL (dgR (B l)) ++ [32] ++ escL l ++ [10]
theorem dgR_len (s : ByteArray) : (dgR s).length = 8 := rfl
theorem u8i (c : UInt8) (n : Nat) (hn : n < 256) (h : (c.toNat : Int) = (n : Int)) : c = UInt8.ofNat n := by
  apply UInt8.toNat_inj.1
  rw [UInt8.toNat_ofNat']; omega
theorem esc92 (o : List UInt8) (c : UInt8) (h : (c.toNat : Int) = 92) : B o ++ (⟨#[92, 92]⟩ : ByteArray) = B (o ++ escC c) := by
  have := u8i c 92 (by omega) h
  subst this
  exact B_append o [92, 92]
theorem esc10 (o : List UInt8) (c : UInt8) (h : (c.toNat : Int) = 10) : B o ++ (⟨#[92, 110]⟩ : ByteArray) = B (o ++ escC c) := by
  have := u8i c 10 (by omega) h
  subst this
  exact B_append o [92, 110]
theorem ext1 (s : ByteArray) (k : Nat) (h : k < s.size) : s.extract k (k + 1) = B [(L s).getD k 0] := by
  have hl : k < (L s).length := by rw [← size_L]; exact h
  apply L_inj
  rw [L_extract, drop_get _ _ hl, Nat.add_sub_cancel_left]
  rfl
theorem escO (o : List UInt8) (s : ByteArray) (k : Nat) (hk : k < s.size) (h1 : ¬ ((s.data.toList.getD k 0).toNat : Int) = 92) (h2 : ¬ ((s.data.toList.getD k 0).toNat : Int) = 10) : B o ++ s.extract k (k + 1) = B (o ++ escC (s.data.toList.getD k 0)) := by
  rw [ext1 s k hk, B_append]
  have a1 : ¬ s.data.toList.getD k 0 = 92 := fun h => h1 (by rw [h]; rfl)
  have a2 : ¬ s.data.toList.getD k 0 = 10 := fun h => h2 (by rw [h]; rfl)
  simp only [escC, if_neg a1, if_neg a2]
theorem hd31 (a b : List UInt8) : B a ++ (⟨#[32]⟩ : ByteArray) ++ B b ++ (⟨#[32]⟩ : ByteArray) = B (a ++ [32] ++ b ++ [32]) := by
  show B a ++ B [32] ++ B b ++ B [32] = _
  rw [B_append, B_append, B_append]
theorem K31 : FnOK Tryz.prog 31 (fun ds d => ∃ s, s.size ≤ 400000000 ∧ ds = [.str s] ∧ d = .str (B (lineL (L s)))) := by
  refine fn_intro Tryz.call31 Tryz.func31 rfl Tryz.ntmps31 ?_
  rintro ds d ⟨s, hsz, rfl, rfl⟩
  refine ⟨by simp, fun w0 => ?_⟩
  have l1 : (decL s.size).length ≤ 12 := decL_len _ _ (by omega) (by omega)
  have l2 : (hexL (dgR s)).length = 16 := by rw [hexL_len, dgR_len]
  have l2 : (hexL (L (B (dgR s)))).length = 16 := l2
  have l3 : (B (dgR s)).size ≤ 1000000000 := by rw [size_B, dgR_len]; omega
  have K45 := K45 2000000000
  repeat' (first | apply run_seq | apply run_block | apply run_region | apply runL_nil | refine runxP (by simp only [go_sem]; rfl) (by rfl) ?_ ?_ | refine stepcall K45 (by simp only [go_sem]; first | done | rfl) ?_ ⟨s.size, ⟨by omega, by omega⟩, rfl, rfl⟩ (by simp only [go_sem]; rfl) ?_ | refine stepcall K46 (by simp only [go_sem]; first | done | rfl) ?_ ⟨s, by omega, rfl, rfl⟩ (by simp only [go_sem]; rfl) ?_ | refine stepcall K36 (by simp only [go_sem]; first | done | rfl) ?_ ⟨B (dgR s), l3, rfl, rfl⟩ (by simp only [go_sem]; rfl) ?_ | exact True.intro | exact rfl | (show allP _; first | exact True.intro | (simp only [allP, go_sem, Bool.not_eq_true', Bool.not_eq_false', implies_true, true_and, and_true, and_self, imp_self]; done) | (simp [allP, go_sem]; done) | (simp [allP, go_sem] at *; first | done | assumption | omega | (simp_all; done)) | (simp only [allP, go_sem]; intros; simp_all; done) | (simp only [allP, go_sem, ByteArray.size_append, size_mk, List.size_toArray, List.length_append, List.length_cons, List.length_nil, and_true, true_and]; (repeat' apply And.intro) <;> omega)))
  all_goals skip
  refine run_loopK [0] (fun k : Nat × List UInt8 => [(3, .str (B k.2)), (4, .int .i64 (k.1 : Int))]) (fun k : Nat × List UInt8 => []) (fun k : Nat × List UInt8 => k.1 ≤ s.size ∧ k.2.length ≤ 100 + 2 * k.1 ∧ lineL (L s) = k.2 ++ escL ((L s).drop k.1) ++ [10]) (fun k : Nat × List UInt8 => s.size - k.1) (0, decL s.size ++ [32] ++ hexL (L (B (dgR s))) ++ [32]) (fun x => by simp only [go_sem]; rfl) ?_ (by simp only [go_sem]; repeat' (first | exact trivial | exact True.intro | exact SLe.refl _ | exact OLe.refl _ | exact ⟨_, rfl, OLe.refl _⟩ | refine ⟨_, rfl, ?_⟩ | refine OLe.var ?_ | (show SLeL _ _; refine ⟨?_, ?_⟩) | (show SLeL [] []; exact True.intro) | (refine SLe.int ?_; rw [w64]; omega) | refine SLe.int ?_ | refine SLe.bool ?_ | apply And.intro | (refine SLe.str ?_; exact hd31 _ _))) (by simp only [go_sem]; repeat' (first | exact trivial | exact True.intro | exact SLe.refl _ | exact OLe.refl _ | exact ⟨_, rfl, OLe.refl _⟩ | refine ⟨_, rfl, ?_⟩ | refine OLe.var ?_ | (show SLeL _ _; refine ⟨?_, ?_⟩) | (show SLeL [] []; exact True.intro) | (refine SLe.int ?_; rw [w64]; omega) | refine SLe.int ?_ | refine SLe.bool ?_ | apply And.intro | (refine SLe.str ?_; exact hd31 _ _))) ?_
  · refine ⟨Nat.zero_le _, ?_, ?_⟩
    · simp only [List.length_append, l2, List.length_cons, List.length_nil]; omega
    · simp only [lineL, List.drop_zero, ← size_L]
  rintro ⟨k, o⟩ ⟨h1, h2, h3⟩
  simp only at h1 h2 h3
  have e1 : IntKind.i64.wrap ((k : Int) + 1) = ((k + 1 : Nat) : Int) := by rw [w64]; omega
  have hb2 : (B o).size ≤ 900000000 := by rw [size_B]; omega
  repeat' (first | apply run_seq | apply run_skip | apply run_block | apply run_blk | apply run_region | apply runL_nil | refine runxP (by simp only [go_sem, e1]; rfl) (by rfl) ?_ ?_ | (refine run_cond (by simp only [go_sem, e1]; rfl) ?_ ?_ <;> intro hb <;> have hc := hb <;> (try simp only [decide_eq_true_eq, decide_eq_false_iff_not, Int.not_lt, Int.not_le, Int.ofNat_lt, Int.ofNat_le, Bool.and_eq_true, Bool.or_eq_true, Bool.or_eq_false_iff, Bool.not_eq_true', Bool.not_eq_false', beq_iff_eq, beq_eq_false_iff_ne, bne_iff_ne, bne_eq_false_iff_eq] at hc) <;> (try (exfalso; simp at hc; done))) | refine run_ret (by rfl) ?_ | refine run_exit (by rfl) ?_ | refine run_lp (k+1,o++escC (s.data.toList.getD k 0)) ?_ ?_ ⟨rfl, by simp only [go_sem]; repeat' (first | exact trivial | exact True.intro | exact SLe.refl _ | exact OLe.refl _ | exact ⟨_, rfl, OLe.refl _⟩ | refine ⟨_, rfl, ?_⟩ | refine OLe.var ?_ | (show SLeL _ _; refine ⟨?_, ?_⟩) | (show SLeL [] []; exact True.intro) | (refine SLe.int ?_; rw [w64]; omega) | refine SLe.int ?_ | refine SLe.bool ?_ | apply And.intro | (refine SLe.str ?_; first | exact esc92 _ _ (by assumption) | exact esc10 _ _ (by assumption) | exact escO _ _ _ (by assumption) (by assumption) (by assumption))), by simp only [go_sem]; repeat' (first | exact trivial | exact True.intro | exact SLe.refl _ | exact OLe.refl _ | exact ⟨_, rfl, OLe.refl _⟩ | refine ⟨_, rfl, ?_⟩ | refine OLe.var ?_ | (show SLeL _ _; refine ⟨?_, ?_⟩) | (show SLeL [] []; exact True.intro) | (refine SLe.int ?_; rw [w64]; omega) | refine SLe.int ?_ | refine SLe.bool ?_ | apply And.intro | (refine SLe.str ?_; first | exact esc92 _ _ (by assumption) | exact esc10 _ _ (by assumption) | exact escO _ _ _ (by assumption) (by assumption) (by assumption)))⟩ | exact True.intro | exact rfl | omega | refine SLe0.str ?_ | (show allP _; first | exact True.intro | (simp only [allP, go_sem, Bool.not_eq_true', Bool.not_eq_false', implies_true, true_and, and_true, and_self, imp_self]; done) | (simp [allP, go_sem]; done) | (simp [allP, go_sem] at *; first | done | assumption | omega | (simp_all; done)) | (simp only [allP, go_sem]; intros; simp_all; done) | (simp only [allP, go_sem, ByteArray.size_append, size_mk, List.size_toArray, List.length_append, List.length_cons, List.length_nil, and_true, true_and]; (repeat' apply And.intro) <;> omega)))
  iterate 3
    · have hl : k < (L s).length := by rw [← size_L]; assumption
      have := escC_len (s.data.toList.getD k 0)
      refine ⟨by simp only; omega, by simp only [List.length_append]; omega, ?_⟩
      rw [h3, drop8 _ _ hl, escL, List.flatMap_cons]
      simp only [List.append_assoc]; rfl
  · have hk : k = s.size := by omega
    rw [h3, hk, size_L, List.drop_length, show escL [] = [] from rfl, List.append_nil]
    exact B_append o [10]
end Go.Sx
