/- Part of the proof that the laws of the judge return true for every input: J1, J2. -/
import Derived.Test.YtmbocmonhcplhaaGreatJ0
set_option linter.all false
namespace Go.Sx
open Go.Proofs Go.RowKit
attribute [local irreducible] Run RunL RunD SLe0 SLe OLe
set_option maxHeartbeats 2000000
set_option maxRecDepth 8000
abbrev wr (x : Int) : Int := IntKind.i64.wrap x
def divP (n by' : Int) : Int := wr ((wr (n - (wr (n.tmod by' + by')).tmod by')).tdiv by')
def divR (n by' : Int) : Int := if n.tmod by' < 0 then wr (wr (n.tdiv by') - 1) else wr (n.tdiv by')
def termP (x : Int) : Int := if x < -4611686018427387904 then wr (divP (wr (x + 100)) 100 - 1) else divP x 100
theorem K102 : FnOK Tryz.prog 102 (fun ds d => ∃ n b, b ≠ 0 ∧ ds = [eInt n, eInt b] ∧ d = eInt (divP n b)) := by
 refine fn_intro Tryz.call102 Tryz.func102 rfl Tryz.ntmps102 ?_
 rintro ds d ⟨n, b, hb, rfl, rfl⟩
 refine ⟨by simp, fun w0 => ?_⟩
 repeat' (first | apply zC | apply zA | apply zB | refine zF qS qR ?_ ?_ | refine zI qR ?_ | exact True.intro | exact rfl | refine SLe0.int ?_ | exact qP | fail)
theorem K111 : FnOK Tryz.prog 111 (fun ds d => ∃ n b, b ≠ 0 ∧ ds = [eInt n, eInt b] ∧ d = eInt (divR n b)) := by
 refine fn_intro Tryz.call111 Tryz.func111 rfl Tryz.ntmps111 ?_
 rintro ds d ⟨n, b, hb, rfl, rfl⟩
 refine ⟨by simp, fun w0 => ?_⟩
 repeat' (first | apply zC | apply zG | apply zA | apply zB | refine zF qS qR ?_ ?_ | (refine zE qS ?_ ?_ <;> intro hb <;> have hc := hb <;> (try simp only [bF] at hc) <;> (try (exfalso; simp at hc; done))) | refine zI qR ?_ | exact True.intro | exact rfl | refine SLe0.int ?_ | exact qP | fail)
 ·simp [divR, hc, wr]
 ·rw [divR, if_neg (by omega)]
theorem K44 : FnOK Tryz.prog 44 (fun ds d => ∃ n, ds = [eInt n] ∧ d = eInt (termP n)) := by
 refine fn_intro Tryz.call44 Tryz.func44 rfl Tryz.ntmps44 ?_
 rintro ds d ⟨n, rfl, rfl⟩
 refine ⟨by simp, fun w0 => ?_⟩
 repeat' (first | apply zC | apply zG | apply zA | apply zB | refine zF qS qR ?_ ?_ | refine zM K102 qD ?_ ⟨_, _, by decide, rfl, rfl⟩ qS ?_ | (refine zE qS ?_ ?_ <;> intro hb <;> have hc := hb <;> (try simp only [bF] at hc) <;> (try (exfalso; simp at hc; done))) | refine zI qR ?_ | exact True.intro | exact rfl | refine SLe0.int ?_ | fail)
 ·simp [termP, hc, wr]
 ·rw [termP, if_neg (by omega)]
theorem K82 : FnOK Tryz.prog 82 (fun ds d => ∃ n, ds = [eInt n] ∧ d = eInt (wr (100 * n))) := by
 refine fn_intro Tryz.call82 Tryz.func82 rfl Tryz.ntmps82 ?_
 rintro ds d ⟨n, rfl, rfl⟩
 refine ⟨by simp, fun w0 => ?_⟩
 repeat' (first | apply zC | apply zA | apply zB | refine zF qS qR ?_ ?_ | refine zI qR ?_ | exact True.intro | exact rfl | refine SLe0.int ?_ | fail)
theorem K29 : FnOK Tryz.prog 29 (fun ds d => ∃ n, ds = [eInt n] ∧ d = eInt (wr (wr (wr (100 * n) + 100) - 1))) := by
 refine fn_intro Tryz.call29 Tryz.func29 rfl Tryz.ntmps29 ?_
 rintro ds d ⟨n, rfl, rfl⟩
 refine ⟨by simp, fun w0 => ?_⟩
 repeat' (first | apply zC | apply zA | apply zB | refine zF qS qR ?_ ?_ | refine zM K82 qD ?_ ⟨_, rfl, rfl⟩ qS ?_ | refine zI qR ?_ | exact True.intro | exact rfl | refine SLe0.int ?_ | fail)
theorem K50 : FnOK Tryz.prog 50 (fun ds d => ∃ n, ds = [eInt n] ∧ d = eInt (divR n 100)) := by
 refine fn_intro Tryz.call50 Tryz.func50 rfl Tryz.ntmps50 ?_
 rintro ds d ⟨n, rfl, rfl⟩
 refine ⟨by simp, fun w0 => ?_⟩
 repeat' (first | apply zC | apply zA | apply zB | refine zF qS qR ?_ ?_ | refine zM K111 qD ?_ ⟨_, _, by decide, rfl, rfl⟩ qS ?_ | refine zI qR ?_ | exact True.intro | exact rfl | refine SLe0.int ?_ | fail)
end Go.Sx
namespace Go.Sx
open Go.Proofs Go.RowKit
attribute [local irreducible] Run RunL RunD SLe0 SLe OLe
set_option maxHeartbeats 2000000
set_option maxRecDepth 8000
def idxF {α : Type} (p : α → Bool) : List α → Nat → Int
 | [], _ => -1
 | x :: r, k => if p x then k else idxF p r (k + 1)
theorem idxF_step {α : Type} [Inhabited α] (p : α → Bool) (l : List α) (k : Nat) (h : k < l.length) : idxF p (l.drop k) k = if p (l.getD k default) then (k : Int) else idxF p (l.drop (k + 1)) (k + 1) := by
 rw [drop_get l k h]; rfl
theorem idxF_end {α : Type} (p : α → Bool) (l : List α) (k : Nat) (h : l.length ≤ k) : idxF p (l.drop k) k = -1 := by
 rw [List.drop_of_length_le h]; rfl
theorem idxF_any {α : Type} (p : α → Bool) : ∀ (l : List α) (k : Nat), decide (0 ≤ idxF p l k) = l.any p
 | [], k => by simp [idxF]
 | x :: r, k => by
  simp only [idxF, List.any_cons]
  by_cases hp : p x = true
  ·simp [hp]
  ·simp only [hp, if_false, Bool.false_or, Bool.false_eq_true]; exact idxF_any p r (k + 1)
def sameC (a b : Course) : Bool := (a.School == b.School) && (a.Code == b.Code)
def sameP (a b : Course × Course) : Bool := (a.1.School == b.1.School) && ((a.1.Code == b.1.Code) && ((a.2.School == b.2.School) && (a.2.Code == b.2.Code)))
theorem sameC_iff (a b : Course) : sameC a b = decide (a = b) := by
 obtain ⟨a, b⟩ := a
 rename_i c
 obtain ⟨c, d⟩ := c
 simp only [sameC, Course.mk.injEq, Bool.decide_and]
 by_cases h : b = d <;> by_cases g : a = c <;> simp [h, g]
theorem K157 : FnOK Tryz.prog 157 (fun ds d => ∃ a x, ds = [ints a, eInt x] ∧ d = eInt (idxF (fun y => x == y) a 0)) := by
 refine fn_intro Tryz.call157 Tryz.func157 rfl Tryz.ntmps157 ?_
 rintro ds d ⟨a, x, rfl, rfl⟩
 refine ⟨by simp, fun w0 => ?_⟩
 repeat' (first | apply zC | apply zD | apply zA | apply zB | refine zF qS qR ?_ ?_ | exact True.intro | exact rfl | fail)
 refine run_len 6 rfl fun hlen => ?_
 refine zN [0, 1, 6, 7] (fun k : Nat => [(8, .int .i64 k)]) (fun k : Nat => []) (fun k : Nat => k ≤ a.length ∧ idxF (fun y => x == y) a 0 = idxF (fun y => x == y) (a.drop k) k) (fun k : Nat => a.length - k) 0 (fun x => qS) ?_ qL qL ?_
 ·exact ⟨Nat.zero_le _, rfl⟩
 rintro k ⟨h1, h2⟩
 repeat' (first | apply zC | apply zG | apply zD | apply zL | apply zA | apply zB | refine zF qS qR ?_ ?_ | (refine zE qS ?_ ?_ <;> intro hb <;> have hc := hb <;> (try simp only [bF] at hc) <;> (try (exfalso; simp at hc; done))) | refine zI qR ?_ | refine zK qR ?_ | refine zS (k+1) ?_ ?_ ⟨rfl, qL, qL⟩ | exact True.intro | exact rfl | omega | refine SLe0.int ?_ | exact qP | fail)
 ·rw [h2, idxF_step _ _ _ ‹k < _›, if_pos (by exact hb)]
 ·exact ⟨by omega, by rw [h2, idxF_step _ _ _ ‹k < _›, if_neg (by rw [Bool.not_eq_true]; exact hb)]⟩
 ·rw [h2, idxF_end _ _ _ (by omega)]
theorem K115 : FnOK Tryz.prog 115 (fun ds d => ∃ a x, ds = [ints a, eInt x] ∧ d = .bool (a.any fun y => x == y)) := by
 refine fn_intro Tryz.call115 Tryz.func115 rfl Tryz.ntmps115 ?_
 rintro ds d ⟨a, x, rfl, rfl⟩
 refine ⟨by simp, fun w0 => ?_⟩
 repeat' (first | apply zC | apply zA | apply zB | refine zF qS qR ?_ ?_ | refine zM K157 qD ?_ ⟨_, _, rfl, rfl⟩ qS ?_ | refine zI qR ?_ | exact True.intro | exact rfl | refine SLe0.bool ?_ | fail)
 exact idxF_any _ _ _
theorem K149 : FnOK Tryz.prog 149 (fun ds d => ∃ a x, ds = [eList 2 eCourse a, eCourse x] ∧ d = eInt (idxF (fun y => sameC x y) a 0)) := by
 refine fn_intro Tryz.call149 Tryz.func149 rfl Tryz.ntmps149 ?_
 rintro ds d ⟨a, x, rfl, rfl⟩
 refine ⟨by simp, fun w0 => ?_⟩
 repeat' (first | apply zC | apply zD | apply zA | apply zB | refine zF qS qR ?_ ?_ | exact True.intro | exact rfl | fail)
 refine run_len 6 rfl fun hlen => ?_
 refine zN [0, 3, 6, 7] (fun k : Nat => [(8, .int .i64 k)]) (fun k : Nat => []) (fun k : Nat => k ≤ a.length ∧ idxF (fun y => sameC x y) a 0 = idxF (fun y => sameC x y) (a.drop k) k) (fun k : Nat => a.length - k) 0 (fun x => qS) ?_ qL qL ?_
 ·exact ⟨Nat.zero_le _, rfl⟩
 rintro k ⟨h1, h2⟩
 repeat' (first | apply zC | apply zG | apply zD | apply zL | apply zA | apply zP | apply zB | refine zF qS qR ?_ ?_ | refine zU qS qR ?_ ?_ | refine zQ qK qK ?_ | (refine zE qS ?_ ?_ <;> intro hb <;> have hc := hb <;> (try simp only [bF] at hc) <;> (try (exfalso; simp at hc; done))) | refine zI qR ?_ | refine zK qR ?_ | refine zS (k+1) ?_ ?_ ⟨rfl, qL, qL⟩ | exact True.intro | exact rfl | omega | refine SLe0.int ?_ | exact qP | fail)
 ·rw [h2, idxF_step _ _ _ ‹k < _›, if_pos (by exact hb)]
 ·exact ⟨by omega, by rw [h2, idxF_step _ _ _ ‹k < _›, if_neg (by rw [Bool.not_eq_true]; exact hb)]⟩
 ·rw [h2, idxF_end _ _ _ (by omega)]
theorem K103 : FnOK Tryz.prog 103 (fun ds d => ∃ a x, ds = [eList 2 eCourse a, eCourse x] ∧ d = .bool (a.any fun y => sameC x y)) := by
 refine fn_intro Tryz.call103 Tryz.func103 rfl Tryz.ntmps103 ?_
 rintro ds d ⟨a, x, rfl, rfl⟩
 refine ⟨by simp, fun w0 => ?_⟩
 repeat' (first | apply zC | apply zA | apply zB | refine zF qS qR ?_ ?_ | refine zM K149 qD ?_ ⟨_, _, rfl, rfl⟩ qS ?_ | refine zI qR ?_ | exact True.intro | exact rfl | refine SLe0.bool ?_ | fail)
 exact idxF_any _ _ _
theorem K148 : FnOK Tryz.prog 148 (fun ds d => ∃ a x, ds = [eList 4 ePair a, ePair x] ∧ d = eInt (idxF (fun y => sameP x y) a 0)) := by
 refine fn_intro Tryz.call148 Tryz.func148 rfl Tryz.ntmps148 ?_
 rintro ds d ⟨a, x, rfl, rfl⟩
 refine ⟨by simp, fun w0 => ?_⟩
 repeat' (first | apply zC | apply zD | apply zA | apply zB | refine zF qS qR ?_ ?_ | exact True.intro | exact rfl | fail)
 refine run_len 6 rfl fun hlen => ?_
 refine zN [0, 3, 6, 7] (fun k : Nat => [(8, .int .i64 k)]) (fun k : Nat => []) (fun k : Nat => k ≤ a.length ∧ idxF (fun y => sameP x y) a 0 = idxF (fun y => sameP x y) (a.drop k) k) (fun k : Nat => a.length - k) 0 (fun x => qS) ?_ qL qL ?_
 ·exact ⟨Nat.zero_le _, rfl⟩
 rintro k ⟨h1, h2⟩
 repeat' (first | apply zC | apply zG | apply zD | apply zL | apply zA | apply zP | apply zB | refine zF qS qR ?_ ?_ | refine zU qS qR ?_ ?_ | refine zQ qK qK ?_ | (refine zE qS ?_ ?_ <;> intro hb <;> have hc := hb <;> (try simp only [bF] at hc) <;> (try (exfalso; simp at hc; done))) | refine zI qR ?_ | refine zK qR ?_ | refine zS (k+1) ?_ ?_ ⟨rfl, qL, qL⟩ | exact True.intro | exact rfl | omega | refine SLe0.int ?_ | exact qP | fail)
 ·rw [h2, idxF_step _ _ _ ‹k < _›, if_pos (by exact hb)]
 ·exact ⟨by omega, by rw [h2, idxF_step _ _ _ ‹k < _›, if_neg (by rw [Bool.not_eq_true]; exact hb)]⟩
 ·rw [h2, idxF_end _ _ _ (by omega)]
theorem K99 : FnOK Tryz.prog 99 (fun ds d => ∃ a x, ds = [eList 4 ePair a, ePair x] ∧ d = .bool (a.any fun y => sameP x y)) := by
 refine fn_intro Tryz.call99 Tryz.func99 rfl Tryz.ntmps99 ?_
 rintro ds d ⟨a, x, rfl, rfl⟩
 refine ⟨by simp, fun w0 => ?_⟩
 repeat' (first | apply zC | apply zA | apply zB | refine zF qS qR ?_ ?_ | refine zM K148 qD ?_ ⟨_, _, rfl, rfl⟩ qS ?_ | refine zI qR ?_ | exact True.intro | exact rfl | refine SLe0.bool ?_ | fail)
 exact idxF_any _ _ _
theorem getD_ext {α : Type} [Inhabited α] (a b : List α) (h : a.length = b.length) (g : ∀ i, i < a.length → a.getD i default = b.getD i default) : a = b := by
 apply List.ext_getElem h
 intro i h1 h2
 have := g i h1
 simpa [List.getD_eq_getElem?_getD, h1, h2] using this
theorem K114 : FnOK Tryz.prog 114 (fun ds d => ∃ a b, ds = [ints a, ints b] ∧ d = .bool (a == b)) := by
 refine fn_intro Tryz.call114 Tryz.func114 rfl Tryz.ntmps114 ?_
 rintro ds d ⟨a, b, rfl, rfl⟩
 refine ⟨by simp, fun w0 => ?_⟩
 repeat' (first | apply zC | apply zG | apply zD | apply zA | apply zB | refine zF qS qR ?_ ?_ | (refine zE qS ?_ ?_ <;> intro hb <;> have hc := hb <;> (try simp only [bF] at hc) <;> (try (exfalso; simp at hc; done))) | refine zI qR ?_ | exact True.intro | exact rfl | refine SLe0.bool ?_ | fail)
 ·have : ¬ a = b := by rintro rfl; exact hc rfl
  simp [this]
 ·refine run_len 0 rfl fun hlen => ?_
  refine zN [0, 1, 11, 12] (fun k : Nat => [(13, .int .i64 k)]) (fun k : Nat => []) (fun k : Nat => k ≤ a.length ∧ ∀ i, i < k → a.getD i default = b.getD i default) (fun k : Nat => a.length - k) 0 (fun x => qS) ?_ qL qL ?_
  ·exact ⟨Nat.zero_le _, fun i h => absurd h (Nat.not_lt_zero i)⟩
  rintro k ⟨h1, h2⟩
  repeat' (first | apply zC | apply zG | apply zD | apply zL | apply zA | apply zP | apply zB | refine zF qS qR ?_ ?_ | refine zU qS qR ?_ ?_ | refine zQ qK qK ?_ | (refine zE qS ?_ ?_ <;> intro hb <;> have hc := hb <;> (try simp only [bF] at hc) <;> (try (exfalso; simp at hc; done))) | refine zI qR ?_ | refine zK qR ?_ | refine zS (k+1) ?_ ?_ ⟨rfl, qL, qL⟩ | exact True.intro | exact rfl | omega | refine SLe0.bool ?_ | exact qP | fail)
  ·have : ¬ a = b := by rintro rfl; exact hc rfl
   simp [this]
  ·refine ⟨by omega, fun i hi => ?_⟩
   rcases Nat.lt_succ_iff_lt_or_eq.1 hi with h | rfl
   ·exact h2 i h
   ·exact hc
  ·have := getD_ext a b (by omega) fun i hi => h2 i (by omega)
   simp [this]
theorem K116 : FnOK Tryz.prog 116 (fun ds d => ∃ a b, ds = [ints a, ints b] ∧ d = .bool (a == b)) := by
 refine fn_intro Tryz.call116 Tryz.func116 rfl Tryz.ntmps116 ?_
 rintro ds d ⟨a, b, rfl, rfl⟩
 refine ⟨by simp, fun w0 => ?_⟩
 repeat' (first | apply zC | apply zG | apply zD | apply zA | apply zB | refine zF qS qR ?_ ?_ | (refine zE qS ?_ ?_ <;> intro hb <;> have hc := hb <;> (try simp only [bF] at hc) <;> (try (exfalso; simp at hc; done))) | refine zI qR ?_ | exact True.intro | exact rfl | refine SLe0.bool ?_ | fail)
 ·have : ¬ a = b := by rintro rfl; exact hc rfl
  simp [this]
 ·refine run_len 0 rfl fun hlen => ?_
  refine zN [0, 1] (fun k : Nat => [(5, .int .i64 k)]) (fun k : Nat => []) (fun k : Nat => k ≤ a.length ∧ ∀ i, i < k → a.getD i default = b.getD i default) (fun k : Nat => a.length - k) 0 (fun x => qS) ?_ qL qL ?_
  ·exact ⟨Nat.zero_le _, fun i h => absurd h (Nat.not_lt_zero i)⟩
  rintro k ⟨h1, h2⟩
  repeat' (first | apply zC | apply zG | apply zD | apply zL | apply zA | apply zP | apply zB | refine zF qS qR ?_ ?_ | refine zU qS qR ?_ ?_ | refine zQ qK qK ?_ | (refine zE qS ?_ ?_ <;> intro hb <;> have hc := hb <;> (try simp only [bF] at hc) <;> (try (exfalso; simp at hc; done))) | refine zI qR ?_ | refine zK qR ?_ | refine zS (k+1) ?_ ?_ ⟨rfl, qL, qL⟩ | exact True.intro | exact rfl | omega | refine SLe0.bool ?_ | exact qP | fail)
  ·have : ¬ a = b := by rintro rfl; exact hc rfl
   simp [this]
  ·refine ⟨by omega, fun i hi => ?_⟩
   rcases Nat.lt_succ_iff_lt_or_eq.1 hi with h | rfl
   ·exact h2 i h
   ·exact hc
  ·have := getD_ext a b (by omega) fun i hi => h2 i (by omega)
   simp [this]
end Go.Sx
