/- Part of the proof that the laws of the judge return true for every input: J2, J3, J4. -/
import Derived.Test.YtmbocmonhcplhaaGreatJ1
set_option linter.all false
namespace Go.Sx
open Go.Proofs Go.RowKit
attribute [local irreducible] Run zAi zAy zAc SLe OLe
set_option maxHeartbeats 2000000
set_option maxRecDepth 8000
def zEv {α : Type} (p : α → Bool) : List α → Nat → Int
 | [], _ => -1
 | x :: r, k => if p x then k else zEv p r (k + 1)
theorem zBd {α : Type} [Inhabited α] (p : α → Bool) (l : List α) (k : Nat) (h : k < l.length) : zEv p (l.drop k) k = if p (l.getD k default) then (k : Int) else zEv p (l.drop (k + 1)) (k + 1) := by
 rw [zAv l k h]; rfl
theorem zEf {α : Type} (p : α → Bool) (l : List α) (k : Nat) (h : l.length ≤ k) : zEv p (l.drop k) k = -1 := by
 rw [List.drop_of_length_le h]; rfl
theorem zFf {α : Type} (p : α → Bool) : ∀ (l : List α) (k : Nat), decide (0 ≤ zEv p l k) = l.any p
 | [], k => by simp [zEv]
 | x :: r, k => by
  simp only [zEv, List.any_cons];by_cases hp : p x = true
  ·simp [hp]
  ·simp only [hp, if_false, Bool.false_or, Bool.false_eq_true]; exact zFf p r (k + 1)
def zEk (a b : Course) : Bool := (a.School == b.School) && (a.Code == b.Code)
def zE8 (a b : Course × Course) : Bool := (a.1.School == b.1.School) && ((a.1.Code == b.1.Code) && ((a.2.School == b.2.School) && (a.2.Code == b.2.Code)))
theorem zN2 (a b : Course) : zEk a b = decide (a = b) := by
 obtain ⟨a, b⟩ := a
 rename_i c
 obtain ⟨c, d⟩ := c
 simp only [zEk, Course.mk.injEq, Bool.decide_and]
 by_cases h : b = d <;> by_cases g : a = c <;> simp [h, g]
theorem K157 : FnOK Tryz.prog 157 (fun ds d => ∃ a x, ds = [ints a, eInt x] ∧ d = eInt (zEv (fun y => x == y) a 0)) := by
 refine zAa Tryz.call157 Tryz.func157 rfl Tryz.ntmps157 ?_
 rintro ds d ⟨a, x, rfl, rfl⟩
 refine ⟨by simp, fun w0 => ?_⟩
 repeat' (first | apply zC | apply zD | apply zA | apply zB | refine zF qS qR ?_ ?_ | exact zz0 | exact rfl | fail)
 refine zB3 6 rfl fun hlen => ?_
 refine zN [0, 1, 6, 7] (fun k : Nat => [(8, .int .i64 k)]) (fun k : Nat => []) (fun k : Nat => k ≤ a.length ∧ zEv (fun y => x == y) a 0 = zEv (fun y => x == y) (a.drop k) k) (fun k : Nat => a.length - k) 0 (fun x => qS) ?_ qL qL ?_
 ·exact ⟨Nat.zero_le _, rfl⟩
 rintro k ⟨h1, h2⟩
 repeat' (first | apply zC | apply zG | apply zD | apply zL | apply zA | apply zB | refine zF qS qR ?_ ?_ | (refine zE qS ?_ ?_ <;> intro hb <;> have hc := hb <;> (try simp only [bF] at hc) <;> (try (exfalso; simp at hc; done))) | refine zI qR ?_ | refine zK qR ?_ | refine zS (k+1) ?_ ?_ ⟨rfl, qL, qL⟩ | exact zz0 | exact rfl | omega | refine zAc.int ?_ | exact qP | fail)
 ·rw [h2, zBd _ _ _ ‹k < _›, if_pos (by exact hb)]
 ·exact ⟨by omega, by rw [h2, zBd _ _ _ ‹k < _›, if_neg (by rw [Bool.not_eq_true]; exact hb)]⟩
 ·rw [h2, zEf _ _ _ (by omega)]
theorem yHh : FnOK Tryz.prog 115 (fun ds d => ∃ a x, ds = [ints a, eInt x] ∧ d = .bool (a.any fun y => x == y)) := by
 refine zAa Tryz.call115 Tryz.func115 rfl Tryz.ntmps115 ?_
 rintro ds d ⟨a, x, rfl, rfl⟩
 refine ⟨by simp, fun w0 => ?_⟩
 repeat' (first | apply zC | apply zA | apply zB | refine zF qS qR ?_ ?_ | refine zM K157 qD ?_ ⟨_, _, rfl, rfl⟩ qS ?_ | refine zI qR ?_ | exact zz0 | exact rfl | refine zAc.bool ?_ | fail)
 exact zFf _ _ _
theorem K149 : FnOK Tryz.prog 149 (fun ds d => ∃ a x, ds = [zAo 2 zAe a, zAe x] ∧ d = eInt (zEv (fun y => zEk x y) a 0)) := by
 refine zAa Tryz.call149 Tryz.func149 rfl Tryz.ntmps149 ?_
 rintro ds d ⟨a, x, rfl, rfl⟩
 refine ⟨by simp, fun w0 => ?_⟩
 repeat' (first | apply zC | apply zD | apply zA | apply zB | refine zF qS qR ?_ ?_ | exact zz0 | exact rfl | fail)
 refine zB3 6 rfl fun hlen => ?_
 refine zN [0, 3, 6, 7] (fun k : Nat => [(8, .int .i64 k)]) (fun k : Nat => []) (fun k : Nat => k ≤ a.length ∧ zEv (fun y => zEk x y) a 0 = zEv (fun y => zEk x y) (a.drop k) k) (fun k : Nat => a.length - k) 0 (fun x => qS) ?_ qL qL ?_
 ·exact ⟨Nat.zero_le _, rfl⟩
 rintro k ⟨h1, h2⟩
 repeat' (first | apply zC | apply zG | apply zD | apply zL | apply zA | apply zP | apply zB | refine zF qS qR ?_ ?_ | refine zU qS qR ?_ ?_ | refine zQ qK qK ?_ | (refine zE qS ?_ ?_ <;> intro hb <;> have hc := hb <;> (try simp only [bF] at hc) <;> (try (exfalso; simp at hc; done))) | refine zI qR ?_ | refine zK qR ?_ | refine zS (k+1) ?_ ?_ ⟨rfl, qL, qL⟩ | exact zz0 | exact rfl | omega | refine zAc.int ?_ | exact qP | fail)
 ·rw [h2, zBd _ _ _ ‹k < _›, if_pos (by exact hb)]
 ·exact ⟨by omega, by rw [h2, zBd _ _ _ ‹k < _›, if_neg (by rw [Bool.not_eq_true]; exact hb)]⟩
 ·rw [h2, zEf _ _ _ (by omega)]
theorem yFn : FnOK Tryz.prog 103 (fun ds d => ∃ a x, ds = [zAo 2 zAe a, zAe x] ∧ d = .bool (a.any fun y => zEk x y)) := by
 refine zAa Tryz.call103 Tryz.func103 rfl Tryz.ntmps103 ?_
 rintro ds d ⟨a, x, rfl, rfl⟩
 refine ⟨by simp, fun w0 => ?_⟩
 repeat' (first | apply zC | apply zA | apply zB | refine zF qS qR ?_ ?_ | refine zM K149 qD ?_ ⟨_, _, rfl, rfl⟩ qS ?_ | refine zI qR ?_ | exact zz0 | exact rfl | refine zAc.bool ?_ | fail)
 exact zFf _ _ _
theorem K148 : FnOK Tryz.prog 148 (fun ds d => ∃ a x, ds = [zAo 4 zM8 a, zM8 x] ∧ d = eInt (zEv (fun y => zE8 x y) a 0)) := by
 refine zAa Tryz.call148 Tryz.func148 rfl Tryz.ntmps148 ?_
 rintro ds d ⟨a, x, rfl, rfl⟩
 refine ⟨by simp, fun w0 => ?_⟩
 repeat' (first | apply zC | apply zD | apply zA | apply zB | refine zF qS qR ?_ ?_ | exact zz0 | exact rfl | fail)
 refine zB3 6 rfl fun hlen => ?_
 refine zN [0, 3, 6, 7] (fun k : Nat => [(8, .int .i64 k)]) (fun k : Nat => []) (fun k : Nat => k ≤ a.length ∧ zEv (fun y => zE8 x y) a 0 = zEv (fun y => zE8 x y) (a.drop k) k) (fun k : Nat => a.length - k) 0 (fun x => qS) ?_ qL qL ?_
 ·exact ⟨Nat.zero_le _, rfl⟩
 rintro k ⟨h1, h2⟩
 repeat' (first | apply zC | apply zG | apply zD | apply zL | apply zA | apply zP | apply zB | refine zF qS qR ?_ ?_ | refine zU qS qR ?_ ?_ | refine zQ qK qK ?_ | (refine zE qS ?_ ?_ <;> intro hb <;> have hc := hb <;> (try simp only [bF] at hc) <;> (try (exfalso; simp at hc; done))) | refine zI qR ?_ | refine zK qR ?_ | refine zS (k+1) ?_ ?_ ⟨rfl, qL, qL⟩ | exact zz0 | exact rfl | omega | refine zAc.int ?_ | exact qP | fail)
 ·rw [h2, zBd _ _ _ ‹k < _›, if_pos (by exact hb)]
 ·exact ⟨by omega, by rw [h2, zBd _ _ _ ‹k < _›, if_neg (by rw [Bool.not_eq_true]; exact hb)]⟩
 ·rw [h2, zEf _ _ _ (by omega)]
theorem K99 : FnOK Tryz.prog 99 (fun ds d => ∃ a x, ds = [zAo 4 zM8 a, zM8 x] ∧ d = .bool (a.any fun y => zE8 x y)) := by
 refine zAa Tryz.call99 Tryz.func99 rfl Tryz.ntmps99 ?_
 rintro ds d ⟨a, x, rfl, rfl⟩
 refine ⟨by simp, fun w0 => ?_⟩
 repeat' (first | apply zC | apply zA | apply zB | refine zF qS qR ?_ ?_ | refine zM K148 qD ?_ ⟨_, _, rfl, rfl⟩ qS ?_ | refine zI qR ?_ | exact zz0 | exact rfl | refine zAc.bool ?_ | fail)
 exact zFf _ _ _
theorem zYt {α : Type} [Inhabited α] (a b : List α) (h : a.length = b.length) (g : ∀ i, i < a.length → a.getD i default = b.getD i default) : a = b := by
 apply List.ext_getElem h
 intro i h1 h2
 have := g i h1
 simpa [zz2, h1, h2] using this
theorem K114 : FnOK Tryz.prog 114 (fun ds d => ∃ a b, ds = [ints a, ints b] ∧ d = .bool (a == b)) := by
 refine zAa Tryz.call114 Tryz.func114 rfl Tryz.ntmps114 ?_
 rintro ds d ⟨a, b, rfl, rfl⟩
 refine ⟨by simp, fun w0 => ?_⟩
 repeat' (first | apply zC | apply zG | apply zD | apply zA | apply zB | refine zF qS qR ?_ ?_ | (refine zE qS ?_ ?_ <;> intro hb <;> have hc := hb <;> (try simp only [bF] at hc) <;> (try (exfalso; simp at hc; done))) | refine zI qR ?_ | exact zz0 | exact rfl | refine zAc.bool ?_ | fail)
 ·have : ¬ a = b := by rintro rfl; exact hc rfl
  simp [this]
 ·refine zB3 0 rfl fun hlen => ?_
  refine zN [0, 1, 11, 12] (fun k : Nat => [(13, .int .i64 k)]) (fun k : Nat => []) (fun k : Nat => k ≤ a.length ∧ ∀ i, i < k → a.getD i default = b.getD i default) (fun k : Nat => a.length - k) 0 (fun x => qS) ?_ qL qL ?_
  ·exact ⟨Nat.zero_le _, fun i h => absurd h (Nat.not_lt_zero i)⟩
  rintro k ⟨h1, h2⟩
  repeat' (first | apply zC | apply zG | apply zD | apply zL | apply zA | apply zP | apply zB | refine zF qS qR ?_ ?_ | refine zU qS qR ?_ ?_ | refine zQ qK qK ?_ | (refine zE qS ?_ ?_ <;> intro hb <;> have hc := hb <;> (try simp only [bF] at hc) <;> (try (exfalso; simp at hc; done))) | refine zI qR ?_ | refine zK qR ?_ | refine zS (k+1) ?_ ?_ ⟨rfl, qL, qL⟩ | exact zz0 | exact rfl | omega | refine zAc.bool ?_ | exact qP | fail)
  ·have : ¬ a = b := by rintro rfl; exact hc rfl
   simp [this]
  ·refine ⟨by omega, fun i hi => ?_⟩
   rcases Nat.lt_succ_iff_lt_or_eq.1 hi with h | rfl
   ·exact h2 i h
   ·exact hc
  ·have := zYt a b (by omega) fun i hi => h2 i (by omega)
   simp [this]
end Go.Sx
namespace Go.Sx
open Go.Proofs Go.RowKit
attribute [local irreducible] Run zAi zAy zAc SLe OLe
set_option maxHeartbeats 2000000
set_option maxRecDepth 8000
def shared (a b : Ach) : Bool := if a.Bundle > 0 ∧ a.Bundle = b.Bundle ∧ a.Path = b.Path then false else a.Sources.any fun n => b.Sources.any fun y => n == y
theorem K53 : FnOK Tryz.prog 53 (fun ds d => ∃ a b, ds = [zBp a, zBp b] ∧ d = .bool (shared a b)) := by
 refine zAa Tryz.call53 Tryz.func53 rfl Tryz.ntmps53 ?_
 rintro ds d ⟨a, b, rfl, rfl⟩
 refine ⟨by simp, fun w0 => ?_⟩
 repeat' (first | apply zC | apply zG | apply zD | apply zA | apply zB | refine zF qS qR ?_ ?_ | refine zV 17 qR qS K114 qD (fun hg => ?_) (fun _ => ⟨_, _, rfl, rfl⟩) qS ?_ | (refine zE qS ?_ ?_ <;> intro hb <;> have hc := hb <;> (try simp only [bF] at hc) <;> (try (exfalso; simp at hc; done))) | refine zI qR ?_ | exact zz0 | exact rfl | refine zAc.bool ?_ | exact qP | fail)
 ·simp [shared, hc.1.1, ← hc.1.2, hc.2]
 ·refine zB3 25 rfl fun hlen => ?_
  have e0 : shared a b = a.Sources.any fun n => b.Sources.any fun y => n == y := by
   simp only [shared]; rw [if_neg]; rintro ⟨h1, h2, h3⟩; simp [h1, ← h2, h3] at hc
  refine zN [2, 3, 4, 25, 26] (fun k : Nat => [(27, .int .i64 k)]) (fun k : Nat => []) (fun k : Nat => k ≤ a.Sources.length ∧ shared a b = (a.Sources.drop k).any (fun n => b.Sources.any fun y => n == y)) (fun k : Nat => a.Sources.length - k) 0 (fun x => qS) ?_ qL qL ?_
  ·exact ⟨Nat.zero_le _, e0⟩
  rintro k ⟨h1, h2⟩
  repeat' (first | apply zC | apply zG | apply zD | apply zL | apply zA | apply zB | refine zF qS qR ?_ ?_ | refine zM yHh qD ?_ ⟨_, _, rfl, rfl⟩ qS ?_ | (refine zE qS ?_ ?_ <;> intro hb <;> have hc := hb <;> (try simp only [bF] at hc) <;> (try (exfalso; simp at hc; done))) | refine zI qR ?_ | refine zK qR ?_ | refine zS (k+1) ?_ ?_ ⟨rfl, qL, qL⟩ | exact zz0 | exact rfl | omega | refine zAc.bool ?_ | exact qP | fail)
  ·rw [h2, zAv _ _ ‹k < _›, List.any_cons, hb, Bool.true_or]
  ·refine ⟨by omega, ?_⟩
   rw [h2, zAv _ _ ‹k < _›, List.any_cons, hb, Bool.false_or]
  ·rw [h2, List.drop_of_length_le (by omega)]; rfl
def zKt (a b : Ach) (x y : Int) : Bool := (x == y) && (a.Bundle != b.Bundle || decide (a.Bundle < 1) || !a.Path == b.Path)
def pair (a b : Ach) : Bool := !(zEk a.Course b.Course) && !(a.Sources.any fun x => b.Sources.any fun y => zKt a b x y)
theorem zG2 (a b : Ach) : pair a b = !(zEk a.Course b.Course || shared a b) := by
 simp only [pair, Bool.not_or]
 congr 2
 simp only [shared]
 split
 ·rename_i h
  obtain ⟨h1, h2, h3⟩ := h
  have : ∀ x y, zKt a b x y = false := fun x y => by
   have : ¬ b.Bundle < 1 := by omega
   simp [zKt, h2, h3, this]
  simp [this]
 ·rename_i h
  have : (a.Bundle != b.Bundle || decide (a.Bundle < 1) || !a.Path == b.Path) = true := by
   by_cases h1 : a.Bundle = b.Bundle <;> by_cases h2 : a.Bundle < 1 <;> by_cases h3 : a.Path = b.Path <;> simp [h1, h2, h3]
   ·omega
   ·exact absurd ⟨by omega, h1, h3⟩ h
  simp only [zKt, this, Bool.and_true]
def pw {α : Type} (p : α → α → Bool) : List α → Bool
 | [] => true
 | a :: r => r.all (p a) && pw p r
theorem yBo {α : Type} [Inhabited α] (p : α → α → Bool) (l : List α) (k : Nat) (h : k < l.length) : pw p (l.drop k) = ((l.drop (k + 1)).all (p (l.getD k default)) && pw p (l.drop (k + 1))) := by
 rw [zAv l k h]; rfl
theorem K16 : FnOK Tryz.prog 16 (fun ds d => ∃ l, ds = [zAo 8 zBp l] ∧ d = .bool (pw pair l)) := by
 refine zAa Tryz.call16 Tryz.func16 rfl Tryz.ntmps16 ?_
 rintro ds d ⟨l, rfl, rfl⟩
 refine ⟨by simp, fun w0 => ?_⟩
 repeat' (first | apply zC | apply zD | apply zA | apply zB | refine zF qS qR ?_ ?_ | exact zz0 | exact rfl | fail)
 refine zB3 0 rfl fun hl => ?_
 have e : ∀ k : Nat, k < l.length → IntKind.i64.wrap (↑k + 1) = ((k + 1 : Nat) : Int) := fun k h => by rw [w64]; omega
 refine zN [0, 7, 8] (fun k : Nat => [(9, .int .i64 k)]) (fun k : Nat => []) (fun k : Nat => k ≤ l.length ∧ pw pair l = pw pair (l.drop k)) (fun k : Nat => l.length - k) 0 (fun x => qS) ?_ qL qL ?_
 ·exact ⟨Nat.zero_le _, rfl⟩
 rintro k ⟨h1, h2⟩
 repeat' (first | apply zC | apply zA | apply zB | refine zF qS qR ?_ ?_ | exact zz0 | exact rfl | fail)
 (refine zE qS ?_ ?_ <;> intro hb <;> have hc := hb <;> (try simp only [bF] at hc) <;> (try (exfalso; simp at hc; done)))
 ·replace e := e k ‹_›
  repeat' (first | apply zC | apply zG | apply zD | apply zA | apply zB | refine zF (by simp only [go_sem, e]; rfl) qR ?_ ?_ | exact rfl | exact qP | fail)
  rw [yBo _ _ _ ‹k < _›] at h2;refine zN [0, 7, 8, 9, 4, 17, 18] (fun i : Nat × Unit => [(19, .int .i64 i.1)]) (fun i : Nat × Unit => []) (fun i : Nat × Unit => i.1 ≤ l.length - (k + 1) ∧ (l.drop (k + 1)).all (pair (l.getD k default)) = (l.drop (k + 1 + i.1)).all (pair (l.getD k default))) (fun i : Nat × Unit => l.length - (k + 1) - i.1) (0, ()) (fun x => qS) ?_ qL qL ?_
  ·exact ⟨Nat.zero_le _, rfl⟩
  rintro ⟨i, _⟩ ⟨h3, h4⟩;simp only at h3 h4
  repeat' (first | apply zC | apply zG | apply zD | apply zL | apply zA | apply zB | refine zF qS qR ?_ ?_ | refine zV 28 qR qS K53 qD (fun hg => ?_) (fun _ => ⟨_, _, rfl, rfl⟩) qS ?_ | (refine zE qS ?_ ?_ <;> intro hb <;> have hc := hb <;> (try simp only [bF] at hc) <;> (try (exfalso; simp at hc; done))) | refine zI qR ?_ | refine zK qR ?_ | refine zS (i+1,()) ?_ ?_ ⟨rfl, qL, qL⟩ | refine zS (k+1) ?_ ?_ ⟨rfl, qL, qL⟩ | exact zz0 | exact rfl | omega | refine zAc.bool ?_ | exact qP | fail)
  ·rw [zAv _ _ (show k + 1 + i < l.length by omega), List.all_cons, zG2, show (zEk _ _ || shared _ _) = true from hb] at h4
   rw [h2, h4]; rfl
  ·rw [zAv _ _ (show k + 1 + i < l.length by omega), List.all_cons, zG2, show (zEk _ _ || shared _ _) = false from hb] at h4
   refine ⟨by simp only; omega, ?_⟩;rw [h4]; rfl
  ·rw [h4, List.drop_of_length_le (by omega), List.all_nil, Bool.true_and] at h2
   exact ⟨by omega, h2⟩
 ·repeat' (first | apply zC | apply zA | apply zB | refine zF qS qR ?_ ?_ | refine zI qR ?_ | refine zK qR ?_ | exact zz0 | exact rfl | refine zAc.bool ?_ | fail)
  rw [h2, List.drop_of_length_le (by omega)]; rfl
end Go.Sx
namespace Go.Sx
open Go.Proofs Go.RowKit
attribute [local irreducible] Run zAi zAy zAc SLe OLe
set_option maxHeartbeats 2000000
set_option maxRecDepth 8000
def zMr (n a b : Int) : Int := max (min a b) (min n (max a b))
theorem yF2 : FnOK Tryz.prog 100 (fun ds d => ∃ n a b, ds = [eInt n, eInt a, eInt b] ∧ d = eInt (zMr n a b)) := by
 refine zAa Tryz.call100 Tryz.func100 rfl Tryz.ntmps100 ?_
 rintro ds d ⟨n, a, b, rfl, rfl⟩
 refine ⟨by simp, fun w0 => ?_⟩
 repeat' (first | apply zC | apply zA | apply zB | refine zF qS qR ?_ ?_ | refine zI qR ?_ | exact zz0 | exact rfl | refine zAc.int ?_ | fail)
 simp only [zMr]
 omega
theorem zCn (n a b : Int) : zMr n a b = n ↔ min a b ≤ n ∧ n ≤ max a b := by
 simp only [zMr]; omega
def zBh (s : Scale) : Bool := decide (-1000 ≤ min s.Worst s.Best ∧ max s.Worst s.Best ≤ 1000 ∧ s.Worst ≠ s.Best ∧ min s.Worst s.Best ≤ s.Pass ∧ s.Pass ≤ max s.Worst s.Best)
theorem K41 : FnOK Tryz.prog 41 (fun ds d => ∃ s, ds = [zDm s] ∧ d = eInt (if zBh s then 0 else 10)) := by
 refine zAa Tryz.call41 Tryz.func41 rfl Tryz.ntmps41 ?_
 rintro ds d ⟨s, rfl, rfl⟩
 refine ⟨by simp, fun w0 => ?_⟩
 repeat' (first | apply zC | apply zD | apply zA | apply zB | refine zF qS qR ?_ ?_ | exact zz0 | exact rfl | fail)
 refine zN [1, 9, 10] (fun k : Nat => [(11, .int .i64 k)]) (fun k : Nat => []) (fun k : Nat => k ≤ 2 ∧ (1 ≤ k → -1000 ≤ s.Worst ∧ s.Worst ≤ 1000) ∧ (2 ≤ k → -1000 ≤ s.Best ∧ s.Best ≤ 1000)) (fun k : Nat => 2 - k) 0 (fun x => qS) ?_ qL qL ?_
 ·exact ⟨Nat.zero_le _, fun h => absurd h (by omega), fun h => absurd h (by omega)⟩
 rintro k ⟨h1, h2, h3⟩
 obtain rfl | rfl | rfl : k = 0 ∨ k = 1 ∨ k = 2 := by omega
 ·repeat' (first | apply zC | apply zG | apply zD | apply zL | apply zA | apply zB | refine zF qS qR ?_ ?_ | refine zM yF2 qD ?_ ⟨_, _, _, rfl, rfl⟩ qS ?_ | (refine zE qS ?_ ?_ <;> intro hb <;> have hc := hb <;> (try simp only [bF] at hc) <;> (try (exfalso; simp at hc; done))) | refine zI qR ?_ | refine zS 1 ?_ ?_ ⟨rfl, qL, qL⟩ | exact zz0 | exact rfl | omega | refine zAc.int ?_ | exact qP | fail)
  ·rw [ne_eq, zCn] at hc
   rw [if_neg]; simp only [zBh, decide_eq_true_eq]; omega
  ·rw [zCn] at hc
   omega
 ·repeat' (first | apply zC | apply zG | apply zD | apply zL | apply zA | apply zB | refine zF qS qR ?_ ?_ | refine zM yF2 qD ?_ ⟨_, _, _, rfl, rfl⟩ qS ?_ | (refine zE qS ?_ ?_ <;> intro hb <;> have hc := hb <;> (try simp only [bF] at hc) <;> (try (exfalso; simp at hc; done))) | refine zI qR ?_ | refine zS 2 ?_ ?_ ⟨rfl, qL, qL⟩ | exact zz0 | exact rfl | omega | refine zAc.int ?_ | exact qP | fail)
  ·rw [ne_eq, zCn] at hc
   rw [if_neg]; simp only [zBh, decide_eq_true_eq]; omega
  ·rw [zCn] at hc
   omega
 ·repeat' (first | apply zC | apply zG | apply zA | apply zP | apply zB | refine zF qS qR ?_ ?_ | refine zU qS qR ?_ ?_ | refine zQ qK qK ?_ | refine zBx 25 qR qS yF2 qD (fun hg => ?_) (fun _ => ⟨_, _, _, rfl, rfl⟩) qS ?_ | (refine zE qS ?_ ?_ <;> intro hb <;> have hc := hb <;> (try simp only [bF] at hc) <;> (try (exfalso; simp at hc; done))) | refine zI qR ?_ | refine zK qR ?_ | exact zz0 | exact rfl | refine zAc.int ?_ | exact qP | fail)
  ·rw [ne_eq, zCn] at hc
   rw [if_neg]; simp only [zBh, decide_eq_true_eq]; omega
  ·rw [zCn] at hc
   rw [if_pos]; simp only [zBh, decide_eq_true_eq]; omega
def zU5 (s : Scale) (g : Int) : Bool := zBh s && decide (min s.Worst s.Best ≤ g ∧ g ≤ max s.Worst s.Best)
theorem K150 : FnOK Tryz.prog 150 (fun ds d => ∃ s g, ds = [zDm s, eInt g] ∧ d = .bool (zU5 s g)) := by
 refine zAa Tryz.call150 Tryz.func150 rfl Tryz.ntmps150 ?_
 rintro ds d ⟨s, g, rfl, rfl⟩
 refine ⟨by simp, fun w0 => ?_⟩
 repeat' (first | apply zC | apply zA | apply zB | refine zF qS qR ?_ ?_ | refine zM K41 qD ?_ ⟨_, rfl, rfl⟩ qS ?_ | refine zV 8 qR qS yF2 qD (fun hg => ?_) (fun _ => ⟨_, _, _, rfl, rfl⟩) qS ?_ | refine zI qR ?_ | exact zz0 | exact rfl | refine zAc.bool ?_ | exact qP | fail)
 simp only [zU5]
 cases h : zBh s
 ·rfl
 ·rw [Bool.eq_iff_iff]; simp [zCn]
def reaches (s : Scale) (g m : Int) : Bool := zU5 s g && (if s.Best > s.Worst then decide (g ≥ m) else decide (g ≤ m))
theorem yFm : FnOK Tryz.prog 104 (fun ds d => ∃ s g m, ds = [zDm s, eInt g, eInt m] ∧ d = .bool (reaches s g m)) := by
 refine zAa Tryz.call104 Tryz.func104 rfl Tryz.ntmps104 ?_
 rintro ds d ⟨s, g, m, rfl, rfl⟩
 refine ⟨by simp, fun w0 => ?_⟩
 repeat' (first | apply zC | apply zA | apply zB | refine zF qS qR ?_ ?_ | refine zM K150 qD ?_ ⟨_, _, rfl, rfl⟩ qS ?_ | refine zI qR ?_ | exact zz0 | exact rfl | refine zAc.bool ?_ | exact qP | fail)
 simp only [reaches]
 congr 1
 by_cases h : s.Worst < s.Best
 ·rw [if_pos h]; rw [Bool.eq_iff_iff]; simp [h]; omega
 ·rw [if_neg h]; rw [Bool.eq_iff_iff]; simp [h]; omega
end Go.Sx
