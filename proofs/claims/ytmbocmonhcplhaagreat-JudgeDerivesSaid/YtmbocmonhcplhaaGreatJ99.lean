/- Part of the proof that the laws of the judge return true for every input: J99. -/
import Derived.Test.YtmbocmonhcplhaaGreatJ98
set_option linter.all false
namespace Go.Sx
open Go.Proofs
theorem day_800 (x : Int) : DayOk ((IntKind.i64.wrap x).tmod 800) := by
 generalize IntKind.i64.wrap x = y
 have h : -800 < y.tmod 800 ∧ y.tmod 800 < 800 := by
  rcases Int.lt_or_le y 0 with h | h
  ·have h3 : (-y).tmod 800 < 800 := Int.tmod_lt_of_pos _ (by omega)
   have h4 := Int.tmod_nonneg (a := -y) 800 (by omega)
   rw [Int.neg_tmod] at h3 h4
   omega
  ·have h3 := Int.tmod_nonneg (a := y) 800 h
   have h4 : y.tmod 800 < 800 := Int.tmod_lt_of_pos _ (by omega)
   omega
 exact term_eq _ (by omega) (by omega)
theorem oddA_day {x : Ach} (h : DayOk x.Day) (a : Int) (k : Nat) : DayOk (oddA x a k).Day := by
 unfold oddA
 split
 ·exact h
 split
 ·exact h
 split
 ·exact h
 split
 ·exact h
 split
 ·exact day_wr _
 split
 ·exact h
 split
 ·exact h
 ·exact h
theorem other_ok {l : List Ach} (h : l.length ≤ 7 ∧ ∀ a ∈ l, AGk a) (q : Q3) : (otherF l q).length ≤ 1000 ∧ ∀ x ∈ otherF l q, DayOk x.Day := by
 unfold otherF
 refine ⟨by rw [List.length_set]; omega, fun x hx => ?_⟩
 by_cases hk : (modR q.c (l.length : Int)).toNat < l.length
 ·rcases List.mem_or_eq_of_mem_set hx with hx | rfl
  ·exact (h.2 x hx).day
  ·exact oddA_day (h.2 _ (getD_mem' hk)).day _ _
 ·rw [List.set_eq_of_length_le (by omega)] at hx
  exact (h.2 x hx).day
theorem oddP_ok {p : Programme} (h : PGk p) (q : Q3) : POk 4 (oddP p q) := ⟨oddF_ok h.need q, h.name, h.excl⟩
theorem K4f : FnOK Tryz.prog 4 (fun ds d => ∃ (a : DArg) (s : Scale), ds = [eDArg a, eScale s] ∧ d = .bool true) := by
 obtain ⟨G34, g34, K34⟩ := K34g
 obtain ⟨G39, g39, K39⟩ := K39g
 obtain ⟨G37, g37, K37⟩ := K37g
 exact K4 (fun a => G34 a.Programme) (fun a => G39 a.Programme) (fun a => oddP (G34 a.Programme) a.N) (fun a => G37 a.Has) (fun a => otherF (G37 a.Has) a.O) (fun a => (IntKind.i64.wrap a.Day).tmod 800)
  (fun a => (g34 _ trivial).pok.up) (fun a => (g39 _ trivial).pok.up) (fun a => oddP_ok (g34 _ trivial) a.N) (fun a => ⟨by have := (g37 a.Has trivial).1; omega, fun x hx => ((g37 a.Has trivial).2 x hx).day⟩) (fun a => other_ok (g37 a.Has trivial) a.O) (fun a => day_800 _)
  (K12 G34 G39 G37 g34 g37 K34 K39 K37)
end Go.Sx
