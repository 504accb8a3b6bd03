/- Part of the proof that JournalMany returns true for every input: L26. -/
import Derived.Test.YtiddnjgnjmdobaaGreatDoorL11
set_option linter.unusedVariables false
set_option linter.unusedSimpArgs false
set_option linter.all false
/-! L26: strings.Index of one byte, strings.SplitN. -/
namespace Go.Sx
open Go.Proofs Go.RowKit
attribute [local irreducible] Run RunL RunD SLe0 SLe OLe
set_option maxHeartbeats 2000000
set_option maxRecDepth 8000
set_option linter.unusedSimpArgs false
set_option linter.unusedVariables false
def cutL (c : UInt8) : List UInt8 → Option (List UInt8 × List UInt8)
  | [] => none
  | b :: l => if b = c then some ([], l) else (cutL c l).map fun p => (b :: p.1, p.2)
theorem cutL_none (c : UInt8) : ∀ (l : List UInt8), cutL c l = none → Lib.indexByte l c = -1
  | [], _ => rfl
  | b :: l, h => by
    simp only [cutL] at h
    by_cases hb : b = c
    · rw [if_pos hb] at h; cases h
    · rw [if_neg hb, Option.map_eq_none_iff] at h
      have := cutL_none c l h
      simp [Lib.indexByte, hb, this]
theorem cutL_some (c : UInt8) : ∀ (l a b : List UInt8), cutL c l = some (a, b) → Lib.indexByte l c = (a.length : Int) ∧ l = a ++ c :: b ∧ c ∉ a
  | [], a, b, h => by cases h
  | x :: l, a, b, h => by
    simp only [cutL] at h
    by_cases hb : x = c
    · rw [if_pos hb] at h
      cases h
      subst hb
      simp [Lib.indexByte]
    · rw [if_neg hb, Option.map_eq_some_iff] at h
      obtain ⟨⟨a', b'⟩, h1, h2⟩ := h
      simp only [Prod.mk.injEq] at h2
      obtain ⟨rfl, rfl⟩ := h2
      obtain ⟨q1, q2, q3⟩ := cutL_some c l a' b' h1
      refine ⟨?_, by rw [q2]; rfl, by simp [q3]; exact fun h => hb h.symm⟩
      have hne : ¬ (Lib.indexByte l c = -1) := by rw [q1]; omega
      simp [Lib.indexByte, hb, q1]
def spN : Nat → List UInt8 → List (List UInt8)
  | 0, l => [l]
  | k + 1, l => match cutL 32 l with
    | none => [l]
    | some (a, b) => a :: spN k b
theorem spN_more : ∀ (k j : Nat) (l : List UInt8), l.length ≤ k → spN k l = spN (k + j) l
  | 0, j, l, h => by
    have : l = [] := List.eq_nil_of_length_eq_zero (by omega)
    subst this
    cases j <;> simp [spN, cutL]
  | k + 1, j, l, h => by
    rw [show k + 1 + j = (k + j) + 1 by omega]
    simp only [spN]
    cases hc : cutL 32 l with
    | none => rfl
    | some p =>
      obtain ⟨a, b⟩ := p
      obtain ⟨_, q2, _⟩ := cutL_some _ _ _ _ hc
      have hl := congrArg List.length q2
      simp only [List.length_append, List.length_cons] at hl
      simp only [spN_more k j b (by omega)]
theorem K89 : FnOK Tryz.prog 89 (fun ds d => ∃ (s : ByteArray) (c : UInt8), ds = [.str s, .int .u8 (c.toNat : Int)] ∧ d = .int .i64 (Lib.indexByte (L s) c)) := by
  refine fn_intro Tryz.call89 Tryz.func89 rfl Tryz.ntmps89 ?_
  rintro ds d ⟨s, c, rfl, rfl⟩
  refine ⟨by simp, fun w0 => ?_⟩
  repeat' (first | apply run_seq | apply run_region | apply runL_nil | refine runxP (by simp only [go_sem]; rfl) (by rfl) ?_ ?_ | refine run_ret (by rfl) ?_ | refine stepx2 (by first | (simp only [go_sem]; done) | (simp only [go_sem]; rfl)) (by first | (simp only [go_sem]; done) | (simp only [go_sem]; rfl)) ?_ ((ext104 s c)) (by simp only [go_sem]; rfl) ?_ | exact True.intro | exact rfl | refine SLe0.int ?_)
theorem K78 : FnOK Tryz.prog 78 (fun ds d => ∃ (s : ByteArray) (c : UInt8), ds = [.str s, .str (B [c])] ∧ d = .int .i64 (Lib.indexByte (L s) c)) := by
  refine fn_intro Tryz.call78 Tryz.func78 rfl Tryz.ntmps78 ?_
  rintro ds d ⟨s, c, rfl, rfl⟩
  refine ⟨by simp, fun w0 => ?_⟩
  have h1 : (B [c]).size = 1 := rfl
  have h2 : (((B [c]).size : Nat) : Int) = 1 := rfl
  repeat' (first | apply run_seq | apply run_block | apply run_region | apply runL_nil | refine runxP (by simp only [go_sem, h1, h2]; rfl) (by rfl) ?_ ?_ | refine stepcall K89 (by simp only [go_sem, h1, h2]; first | done | rfl) ?_ ⟨s, c, rfl, rfl⟩ (by simp only [go_sem, h1, h2]; rfl) ?_ | (refine run_cond (by simp only [go_sem, h1, h2]; rfl) ?_ ?_ <;> intro hb <;> have hc := hb <;> (try simp only [decide_eq_true_eq, decide_eq_false_iff_not, Int.not_lt, Int.not_le, Int.ofNat_lt, Int.ofNat_le, Bool.and_eq_true, Bool.or_eq_true, Bool.or_eq_false_iff, Bool.not_eq_true', Bool.not_eq_false', beq_iff_eq, beq_eq_false_iff_ne, bne_iff_ne, bne_eq_false_iff_eq] at hc) <;> (try (exfalso; simp at hc; done))) | refine run_ret (by rfl) ?_ | exact True.intro | exact rfl | refine SLe0.int ?_ | (show allP _; first | exact True.intro | (simp only [allP, go_sem, Bool.not_eq_true', Bool.not_eq_false', implies_true, true_and, and_true, and_self, imp_self]; done) | (simp [allP, go_sem]; done) | (simp [allP, go_sem] at *; first | done | assumption | omega | (simp_all; done)) | (simp only [allP, go_sem]; intros; simp_all; done) | (simp only [allP, go_sem, ByteArray.size_append, size_mk, List.size_toArray, List.length_append, List.length_cons, List.length_nil, and_true, true_and]; (repeat' apply And.intro) <;> omega)))
  rw [← hc]
  simp [Lib.indexByte, L, B]
theorem K70 : FnOK Tryz.prog 70 (fun ds d => ∃ (s : ByteArray) (c : UInt8), ds = [.str s, .str (B [c])] ∧ d = .int .i64 (Lib.indexByte (L s) c)) := by
  refine fn_intro Tryz.call70 Tryz.func70 rfl Tryz.ntmps70 ?_
  rintro ds d ⟨s, c, rfl, rfl⟩
  refine ⟨by simp, fun w0 => ?_⟩
  repeat' (first | apply run_seq | apply run_region | apply runL_nil | refine runxP (by simp only [go_sem]; rfl) (by rfl) ?_ ?_ | refine stepcall K78 (by simp only [go_sem]; first | done | rfl) ?_ ⟨s, c, rfl, rfl⟩ (by simp only [go_sem]; rfl) ?_ | refine run_ret (by rfl) ?_ | exact True.intro | exact rfl | refine SLe0.int ?_)
end Go.Sx
