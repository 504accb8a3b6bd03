/- Part of the proof that JournalMany returns true for every input: L23. -/
import Derived.Test.YtiddnjgnjmdobaaGreatDoorL22
set_option linter.unusedVariables false
set_option linter.unusedSimpArgs false
set_option linter.all false
/-! L23: 'show' reads a line's text back. -/
namespace Go.Sx
open Go.Proofs Go.RowKit
attribute [local irreducible] Run RunL RunD SLe0 SLe OLe
set_option maxHeartbeats 2000000
set_option maxRecDepth 8000
set_option linter.unusedSimpArgs false
set_option linter.unusedVariables false
def unL : List UInt8 → List UInt8
  | 92 :: 92 :: r => 92 :: unL r
  | 92 :: 110 :: r => 10 :: unL r
  | c :: r => c :: unL r
  | [] => []
theorem unL_92 (r : List UInt8) : unL (92 :: 92 :: r) = 92 :: unL r := by simp [unL]
theorem unL_110 (r : List UInt8) : unL (92 :: 110 :: r) = 10 :: unL r := by simp [unL]
theorem unL_c (c : UInt8) (r : List UInt8) (h : c ≠ 92) : unL (c :: r) = c :: unL r := by
  cases r with
  | nil => simp [unL]
  | cons d r => rw [unL.eq_def]; split <;> simp_all
theorem unL_b (c : UInt8) (r : List UInt8) (h : c ≠ 92) (h' : c ≠ 110) : unL (92 :: c :: r) = 92 :: unL (c :: r) := by
  rw [unL.eq_def]; split <;> simp_all
theorem unL_b1 : unL [92] = [92] := by simp [unL]
theorem unL_le (l : List UInt8) : (unL l).length ≤ l.length := by
  induction l using unL.induct <;> simp only [unL, List.length_cons, List.length_nil] <;> first | omega | skip
  all_goals (rw [unL.eq_def]; split <;> simp_all; omega)
theorem K158 : FnOK Tryz.prog 158 (fun ds d => ∃ t : ByteArray, (t.size ≤ 400000000 ∧ (L t = [] ∨ ∃ r, L t = 92 :: r)) ∧ ds = [.fp treeS, .str t, .bool false] ∧ d = .tup [.str (lkS (L t)).1, .int .i64 (lkS (L t)).2.1, .bool (lkS (L t)).2.2]) := by
  refine ⟨K158a.call, fun ds d ⟨t, ⟨ht, hl⟩, h1, h2⟩ => ?_⟩
  have hB : t = B (L t) := rfl
  have hsz : t.size = (L t).length := by simp [L]
  rcases hl with hl | ⟨r, hl⟩
  · rw [hl] at h2 hB
    refine K158a.ok ds d ⟨by rw [h1, hB]; rfl, by rw [h2]; rfl⟩
  · rw [hl] at h2 hB hsz
    cases r with
    | nil => exact K158b.ok ds d ⟨by rw [h1, hB], by rw [h2]; rfl⟩
    | cons b r =>
      simp only [List.length_cons] at hsz
      by_cases hb : b = 92
      · subst hb
        exact K158c.ok ds d ⟨r, by omega, by rw [h1, hB], by rw [h2]; rfl⟩
      · by_cases hb' : b = 110
        · subst hb'
          exact K158d.ok ds d ⟨r, by omega, by rw [h1, hB], by rw [h2]; rfl⟩
        · refine K158e.ok ds d ⟨b, r, ⟨by omega, hb, hb'⟩, by rw [h1, hB], ?_⟩
          have : lkS (92 :: b :: r) = (ByteArray.empty, 0, false) := by
            rw [lkS]
            · intro x hx; simp at hx; exact hb hx.1
            · intro x hx; simp at hx; exact hb' hx.1
          rw [h2, this]
end Go.Sx
