/- Part of the proofs that the laws of the journal return true for every input: L5. -/
import Derived.Test.YtiddnjgnjmdobaaGreatDoorL4
set_option linter.unusedVariables false
set_option linter.unusedSimpArgs false
set_option linter.all false
/-! L5: records of contents: the reference. -/
namespace Go.Sx
open Go.Proofs Go.RowKit
attribute [local irreducible] Run RunL RunD SLe0 SLe OLe
set_option maxHeartbeats 2000000
set_option maxRecDepth 8000
set_option linter.unusedSimpArgs false
set_option linter.unusedVariables false
/-- What a line says, as the reference reads it: so many blanks were met. -/
def parse : Nat → List UInt8 → List UInt8
  | bl, a :: b :: r => if bl < 2 then parse (if a = 32 then bl + 1 else bl) (b :: r) else if a ≠ 92 then a :: parse bl (b :: r) else (if b = 110 then 10 else b) :: parse bl r
  | _, _ => []
termination_by _ l => l.length
def recOf (x : List UInt8) : Option (List UInt8) := if lineL (parse 0 x) = x then some (parse 0 x) else none
theorem ro1 (o : List UInt8) (s : ByteArray) (k : Nat) (hk : k < s.size) : B o ++ s.extract k (k + 1) = B (o ++ [s.data.toList.getD k 0]) := by
  rw [ext1 s k hk, B_append]
theorem ro2 (o : List UInt8) : B o ++ (⟨#[10]⟩ : ByteArray) = B (o ++ [10]) := B_append o [10]
theorem parse_eq (bl : Nat) (a b : UInt8) (r : List UInt8) : parse bl (a :: b :: r) = if bl < 2 then parse (if a = 32 then bl + 1 else bl) (b :: r) else if a ≠ 92 then a :: parse bl (b :: r) else (if b = 110 then 10 else b) :: parse bl r := by
  rw [parse]
theorem parse_short (bl : Nat) (l : List UInt8) (h : l.length ≤ 1) : parse bl l = [] := by
  match l, h with
  | [], _ => rw [parse]; intros; simp_all
  | [a], _ => rw [parse]; intros; simp_all
theorem u8n (c : UInt8) (n : Nat) (hn : n < 256) (h : (c.toNat : Int) ≠ (n : Int)) : c ≠ UInt8.ofNat n := by
  rintro rfl
  rw [UInt8.toNat_ofNat'] at h; omega
theorem P1 (bl : Nat) (a b : UInt8) (r : List UInt8) (h : bl < 2) (ha : (a.toNat : Int) = 32) : parse bl (a :: b :: r) = parse (bl + 1) (b :: r) := by
  have h1 : a = 32 := u8i _ 32 (by omega) ha
  rw [parse_eq, if_pos h, if_pos h1]
theorem P2 (bl : Nat) (a b : UInt8) (r : List UInt8) (h : bl < 2) (ha : (a.toNat : Int) ≠ 32) : parse bl (a :: b :: r) = parse bl (b :: r) := by
  have : a ≠ 32 := u8n _ 32 (by omega) ha
  rw [parse_eq, if_pos h, if_neg this]
theorem P3 (bl : Nat) (a b : UInt8) (r : List UInt8) (h : ¬ bl < 2) (ha : (a.toNat : Int) ≠ 92) : parse bl (a :: b :: r) = a :: parse bl (b :: r) := by
  have : a ≠ 92 := u8n _ 92 (by omega) ha
  rw [parse_eq, if_neg h, if_pos this]
theorem P4 (bl : Nat) (a b : UInt8) (r : List UInt8) (h : ¬ bl < 2) (ha : (a.toNat : Int) = 92) (hb : (b.toNat : Int) = 110) : parse bl (a :: b :: r) = 10 :: parse bl r := by
  have h1 : a = 92 := u8i _ 92 (by omega) ha
  have h2 : b = 110 := u8i _ 110 (by omega) hb
  rw [parse_eq, if_neg h, if_neg (by simp [h1]), if_pos h2]
theorem P5 (bl : Nat) (a b : UInt8) (r : List UInt8) (h : ¬ bl < 2) (ha : (a.toNat : Int) = 92) (hb : (b.toNat : Int) ≠ 110) : parse bl (a :: b :: r) = b :: parse bl r := by
  have h1 : a = 92 := u8i _ 92 (by omega) ha
  have h2 : b ≠ 110 := u8n _ 110 (by omega) hb
  rw [parse_eq, if_neg h, if_neg (by simp [h1]), if_neg h2]
theorem K47 : FnOK Tryz.prog 47 (fun ds d => ∃ s, s.size ≤ 400000000 ∧ ds = [.str s] ∧ d = .tup [.str (B (parse 0 (L s))), .bool (B (lineL (parse 0 (L s))) == s)]) := by
  refine fn_intro Tryz.call47 Tryz.func47 rfl Tryz.ntmps47 ?_
  rintro ds d ⟨s, hsz, rfl, rfl⟩
  refine ⟨by simp, fun w0 => ?_⟩
  repeat' (first | apply run_seq | apply run_block | apply run_region | apply runL_nil | refine runxP (by simp only [go_sem]; rfl) (by rfl) ?_ ?_ | exact True.intro | exact rfl)
  refine run_loopK [0] (fun k : Nat × Nat × List UInt8 => [(4, .int .i64 (k.2.1 : Int)), (5, .str (B k.2.2)), (6, .int .i64 (k.1 : Int))]) (fun k : Nat × Nat × List UInt8 => []) (fun k : Nat × Nat × List UInt8 => k.1 ≤ s.size ∧ k.2.1 ≤ 2 ∧ k.2.2.length ≤ k.1 ∧ parse 0 (L s) = k.2.2 ++ parse k.2.1 ((L s).drop k.1)) (fun k : Nat × Nat × List UInt8 => s.size - k.1) (0, 0, []) (fun x => by simp only [go_sem]; rfl) ?_ (by simp only [go_sem]; repeat' (first | exact trivial | exact True.intro | exact SLe.refl _ | exact OLe.refl _ | exact ⟨_, rfl, OLe.refl _⟩ | refine ⟨_, rfl, ?_⟩ | refine OLe.var ?_ | (show SLeL _ _; refine ⟨?_, ?_⟩) | (show SLeL [] []; exact True.intro) | (refine SLe.int ?_; rw [w64]; omega) | refine SLe.int ?_ | refine SLe.bool ?_ | apply And.intro)) (by simp only [go_sem]; repeat' (first | exact trivial | exact True.intro | exact SLe.refl _ | exact OLe.refl _ | exact ⟨_, rfl, OLe.refl _⟩ | refine ⟨_, rfl, ?_⟩ | refine OLe.var ?_ | (show SLeL _ _; refine ⟨?_, ?_⟩) | (show SLeL [] []; exact True.intro) | (refine SLe.int ?_; rw [w64]; omega) | refine SLe.int ?_ | refine SLe.bool ?_ | apply And.intro)) ?_
  · exact ⟨Nat.zero_le _, by simp, by simp, rfl⟩
  rintro ⟨k, b, o⟩ ⟨h1, h2, h3, h4⟩
  simp only at h1 h2 h3 h4
  have e1 : IntKind.i64.wrap ((k : Int) + 1) = ((k + 1 : Nat) : Int) := by rw [w64]; omega
  have e2 : IntKind.i64.wrap (((k + 1 : Nat) : Int) + 1) = ((k + 2 : Nat) : Int) := by rw [w64]; omega
  have e3 : IntKind.i64.wrap ((b : Int) + 1) = ((b + 1 : Nat) : Int) := by rw [w64]; omega
  have hb2 : (B o).size ≤ 400000000 := by rw [size_B]; omega
  repeat' (first | apply run_seq | apply run_skip | apply run_block | apply run_blk | apply run_region | apply runL_nil | refine runxP (by simp only [go_sem, e1, e2, e3]; rfl) (by rfl) ?_ ?_ | (refine run_cond (by simp only [go_sem, e1, e2, e3]; rfl) ?_ ?_ <;> intro hb <;> have hc := hb <;> (try simp only [decide_eq_true_eq, decide_eq_false_iff_not, Int.not_lt, Int.not_le, Int.ofNat_lt, Int.ofNat_le, Bool.and_eq_true, Bool.or_eq_true, Bool.or_eq_false_iff, Bool.not_eq_true', Bool.not_eq_false', beq_iff_eq, beq_eq_false_iff_ne, bne_iff_ne, bne_eq_false_iff_eq] at hc) <;> (try (exfalso; simp at hc; done))) | refine run_exit (by rfl) ?_ | exact True.intro | exact rfl | (show allP _; first | exact True.intro | (simp only [allP, go_sem, Bool.not_eq_true', Bool.not_eq_false', implies_true, true_and, and_true, and_self, imp_self]; done) | (simp [allP, go_sem]; done) | (simp [allP, go_sem] at *; first | done | assumption | omega | (simp_all; done)) | (simp only [allP, go_sem]; intros; simp_all; done) | (simp only [allP, go_sem, ByteArray.size_append, size_mk, List.size_toArray, List.length_append, List.length_cons, List.length_nil, and_true, true_and]; (repeat' apply And.intro) <;> omega)))
  · repeat' (first | refine run_lp (k+1,b+1,o) ?_ ?_ ⟨rfl, by simp only [go_sem]; repeat' (first | exact trivial | exact True.intro | exact SLe.refl _ | exact OLe.refl _ | exact ⟨_, rfl, OLe.refl _⟩ | refine ⟨_, rfl, ?_⟩ | refine OLe.var ?_ | (show SLeL _ _; refine ⟨?_, ?_⟩) | (show SLeL [] []; exact True.intro) | (refine SLe.int ?_; rw [w64]; omega) | refine SLe.int ?_ | refine SLe.bool ?_ | apply And.intro), by simp only [go_sem]; repeat' (first | exact trivial | exact True.intro | exact SLe.refl _ | exact OLe.refl _ | exact ⟨_, rfl, OLe.refl _⟩ | refine ⟨_, rfl, ?_⟩ | refine OLe.var ?_ | (show SLeL _ _; refine ⟨?_, ?_⟩) | (show SLeL [] []; exact True.intro) | (refine SLe.int ?_; rw [w64]; omega) | refine SLe.int ?_ | refine SLe.bool ?_ | apply And.intro)⟩ | omega)
    refine ⟨by simp only; omega, by simp only; omega, by simp only; omega, ?_⟩
    have hl : k < (L s).length := by rw [← size_L]; omega
    have hl1 : k + 1 < (L s).length := by rw [← size_L]; omega
    rw [h4, drop8 _ _ hl, drop8 _ _ hl1, P1 _ _ _ _ (by omega) (by assumption)]
  · repeat' (first | refine run_lp (k+1,b,o) ?_ ?_ ⟨rfl, by simp only [go_sem]; repeat' (first | exact trivial | exact True.intro | exact SLe.refl _ | exact OLe.refl _ | exact ⟨_, rfl, OLe.refl _⟩ | refine ⟨_, rfl, ?_⟩ | refine OLe.var ?_ | (show SLeL _ _; refine ⟨?_, ?_⟩) | (show SLeL [] []; exact True.intro) | (refine SLe.int ?_; rw [w64]; omega) | refine SLe.int ?_ | refine SLe.bool ?_ | apply And.intro), by simp only [go_sem]; repeat' (first | exact trivial | exact True.intro | exact SLe.refl _ | exact OLe.refl _ | exact ⟨_, rfl, OLe.refl _⟩ | refine ⟨_, rfl, ?_⟩ | refine OLe.var ?_ | (show SLeL _ _; refine ⟨?_, ?_⟩) | (show SLeL [] []; exact True.intro) | (refine SLe.int ?_; rw [w64]; omega) | refine SLe.int ?_ | refine SLe.bool ?_ | apply And.intro)⟩ | omega)
    refine ⟨by simp only; omega, by simp only; omega, by simp only; omega, ?_⟩
    have hl : k < (L s).length := by rw [← size_L]; omega
    have hl1 : k + 1 < (L s).length := by rw [← size_L]; omega
    rw [h4, drop8 _ _ hl, drop8 _ _ hl1, P2 _ _ _ _ (by omega) (by assumption)]
  · repeat' (first | refine run_lp (k+1,b,o++[s.data.toList.getD k 0]) ?_ ?_ ⟨rfl, by simp only [go_sem]; repeat' (first | exact trivial | exact True.intro | exact SLe.refl _ | exact OLe.refl _ | exact ⟨_, rfl, OLe.refl _⟩ | refine ⟨_, rfl, ?_⟩ | refine OLe.var ?_ | (show SLeL _ _; refine ⟨?_, ?_⟩) | (show SLeL [] []; exact True.intro) | (refine SLe.int ?_; rw [w64]; omega) | refine SLe.int ?_ | refine SLe.bool ?_ | apply And.intro | (refine SLe.str ?_; exact ro1 o s k (by omega))), by simp only [go_sem]; repeat' (first | exact trivial | exact True.intro | exact SLe.refl _ | exact OLe.refl _ | exact ⟨_, rfl, OLe.refl _⟩ | refine ⟨_, rfl, ?_⟩ | refine OLe.var ?_ | (show SLeL _ _; refine ⟨?_, ?_⟩) | (show SLeL [] []; exact True.intro) | (refine SLe.int ?_; rw [w64]; omega) | refine SLe.int ?_ | refine SLe.bool ?_ | apply And.intro | (refine SLe.str ?_; exact ro1 o s k (by omega)))⟩ | omega)
    refine ⟨by simp only; omega, by simp only; omega, by simp only [List.length_append, List.length_cons, List.length_nil]; omega, ?_⟩
    have hl : k < (L s).length := by rw [← size_L]; omega
    have hl1 : k + 1 < (L s).length := by rw [← size_L]; omega
    rw [h4, drop8 _ _ hl, drop8 _ _ hl1, P3 _ _ _ _ (by omega) (by assumption), List.append_assoc]; rfl
  · repeat' (first | refine run_lp (k+2,b,o++[10]) ?_ ?_ ⟨rfl, by simp only [go_sem]; repeat' (first | exact trivial | exact True.intro | exact SLe.refl _ | exact OLe.refl _ | exact ⟨_, rfl, OLe.refl _⟩ | refine ⟨_, rfl, ?_⟩ | refine OLe.var ?_ | (show SLeL _ _; refine ⟨?_, ?_⟩) | (show SLeL [] []; exact True.intro) | (refine SLe.int ?_; rw [w64]; omega) | refine SLe.int ?_ | refine SLe.bool ?_ | apply And.intro | (refine SLe.str ?_; first | exact ro1 _ _ _ (by assumption) | exact ro2 _)), by simp only [go_sem]; repeat' (first | exact trivial | exact True.intro | exact SLe.refl _ | exact OLe.refl _ | exact ⟨_, rfl, OLe.refl _⟩ | refine ⟨_, rfl, ?_⟩ | refine OLe.var ?_ | (show SLeL _ _; refine ⟨?_, ?_⟩) | (show SLeL [] []; exact True.intro) | (refine SLe.int ?_; rw [w64]; omega) | refine SLe.int ?_ | refine SLe.bool ?_ | apply And.intro | (refine SLe.str ?_; first | exact ro1 _ _ _ (by assumption) | exact ro2 _))⟩ | omega)
    refine ⟨by simp only; omega, by simp only; omega, by simp only [List.length_append, List.length_cons, List.length_nil]; omega, ?_⟩
    have hl : k < (L s).length := by rw [← size_L]; omega
    have hl1 : k + 1 < (L s).length := by rw [← size_L]; omega
    rw [h4, drop8 _ _ hl, drop8 _ _ hl1, P4 _ _ _ _ (by omega) (by assumption) (by assumption), List.append_assoc]; rfl
  · repeat' (first | refine run_lp (k+2,b,o++[s.data.toList.getD (k+1) 0]) ?_ ?_ ⟨rfl, by simp only [go_sem]; repeat' (first | exact trivial | exact True.intro | exact SLe.refl _ | exact OLe.refl _ | exact ⟨_, rfl, OLe.refl _⟩ | refine ⟨_, rfl, ?_⟩ | refine OLe.var ?_ | (show SLeL _ _; refine ⟨?_, ?_⟩) | (show SLeL [] []; exact True.intro) | (refine SLe.int ?_; rw [w64]; omega) | refine SLe.int ?_ | refine SLe.bool ?_ | apply And.intro | (refine SLe.str ?_; first | exact ro1 _ _ _ (by assumption) | exact ro2 _)), by simp only [go_sem]; repeat' (first | exact trivial | exact True.intro | exact SLe.refl _ | exact OLe.refl _ | exact ⟨_, rfl, OLe.refl _⟩ | refine ⟨_, rfl, ?_⟩ | refine OLe.var ?_ | (show SLeL _ _; refine ⟨?_, ?_⟩) | (show SLeL [] []; exact True.intro) | (refine SLe.int ?_; rw [w64]; omega) | refine SLe.int ?_ | refine SLe.bool ?_ | apply And.intro | (refine SLe.str ?_; first | exact ro1 _ _ _ (by assumption) | exact ro2 _))⟩ | omega)
    refine ⟨by simp only; omega, by simp only; omega, by simp only [List.length_append, List.length_cons, List.length_nil]; omega, ?_⟩
    have hl : k < (L s).length := by rw [← size_L]; omega
    have hl1 : k + 1 < (L s).length := by rw [← size_L]; omega
    rw [h4, drop8 _ _ hl, drop8 _ _ hl1, P5 _ _ _ _ (by omega) (by assumption) (by assumption), List.append_assoc]; rfl
  · have ho : parse 0 (L s) = o := by
      rw [h4, parse_short _ _ (by rw [List.length_drop, ← size_L]; omega), List.append_nil]
    rw [ho]
    repeat' (first | apply runL_nil | refine runxP (by simp only [go_sem]; rfl) (by rfl) ?_ ?_ | refine stepcall K31 (by simp only [go_sem]; first | done | rfl) ?_ ⟨B o, hb2, rfl, rfl⟩ (by simp only [go_sem]; rfl) ?_ | refine run_retG (by rfl) (by simp only [go_sem]; rfl) ?_ | exact True.intro | exact SLe0.pure rfl)
end Go.Sx
