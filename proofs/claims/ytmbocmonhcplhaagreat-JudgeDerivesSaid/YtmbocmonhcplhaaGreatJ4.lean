/- Part of the proof that the laws of the judge return true for every input: J3, J4. -/
import Derived.Test.YtmbocmonhcplhaaGreatJ2
set_option linter.all false
namespace Go.Sx
open Go.Proofs Go.RowKit
attribute [local irreducible] Run RunL RunD SLe0 SLe OLe
set_option maxHeartbeats 2000000
set_option maxRecDepth 8000
def shared (a b : Ach) : Bool := if a.Bundle > 0 ∧ a.Bundle = b.Bundle ∧ a.Path = b.Path then false else a.Sources.any fun n => b.Sources.any fun y => n == y
theorem K53 : FnOK Tryz.prog 53 (fun ds d => ∃ a b, ds = [eAch a, eAch b] ∧ d = .bool (shared a b)) := by
 refine fn_intro Tryz.call53 Tryz.func53 rfl Tryz.ntmps53 ?_
 rintro ds d ⟨a, b, rfl, rfl⟩
 refine ⟨by simp, fun w0 => ?_⟩
 repeat' (first | apply zC | apply zG | apply zD | apply zA | apply zB | refine zF qS qR ?_ ?_ | refine zV 17 qR qS K114 qD (fun hg => ?_) (fun _ => ⟨_, _, rfl, rfl⟩) qS ?_ | (refine zE qS ?_ ?_ <;> intro hb <;> have hc := hb <;> (try simp only [bF] at hc) <;> (try (exfalso; simp at hc; done))) | refine zI qR ?_ | exact True.intro | exact rfl | refine SLe0.bool ?_ | exact qP | fail)
 ·simp [shared, hc.1.1, ← hc.1.2, hc.2]
 ·refine run_len 25 rfl fun hlen => ?_
  have e0 : shared a b = a.Sources.any fun n => b.Sources.any fun y => n == y := by
   simp only [shared]; rw [if_neg]; rintro ⟨h1, h2, h3⟩; simp [h1, ← h2, h3] at hc
  refine zN [2, 3, 4, 25, 26] (fun k : Nat => [(27, .int .i64 k)]) (fun k : Nat => []) (fun k : Nat => k ≤ a.Sources.length ∧ shared a b = (a.Sources.drop k).any (fun n => b.Sources.any fun y => n == y)) (fun k : Nat => a.Sources.length - k) 0 (fun x => qS) ?_ qL qL ?_
  ·exact ⟨Nat.zero_le _, e0⟩
  rintro k ⟨h1, h2⟩
  repeat' (first | apply zC | apply zG | apply zD | apply zL | apply zA | apply zB | refine zF qS qR ?_ ?_ | refine zM K115 qD ?_ ⟨_, _, rfl, rfl⟩ qS ?_ | (refine zE qS ?_ ?_ <;> intro hb <;> have hc := hb <;> (try simp only [bF] at hc) <;> (try (exfalso; simp at hc; done))) | refine zI qR ?_ | refine zK qR ?_ | refine zS (k+1) ?_ ?_ ⟨rfl, qL, qL⟩ | exact True.intro | exact rfl | omega | refine SLe0.bool ?_ | exact qP | fail)
  ·rw [h2, drop_get _ _ ‹k < _›, List.any_cons, hb, Bool.true_or]
  ·refine ⟨by omega, ?_⟩
   rw [h2, drop_get _ _ ‹k < _›, List.any_cons, hb, Bool.false_or]
  ·rw [h2, List.drop_of_length_le (by omega)]; rfl
def clash2 (a b : Ach) (x y : Int) : Bool := (x == y) && (a.Bundle != b.Bundle || decide (a.Bundle < 1) || !a.Path == b.Path)
def pair (a b : Ach) : Bool := !(sameC a.Course b.Course) && !(a.Sources.any fun x => b.Sources.any fun y => clash2 a b x y)
theorem K54 : FnOK Tryz.prog 54 (fun ds d => ∃ a b, ds = [eAch a, eAch b] ∧ d = .bool (pair a b)) := by
 refine fn_intro Tryz.call54 Tryz.func54 rfl Tryz.ntmps54 ?_
 rintro ds d ⟨a, b, rfl, rfl⟩
 refine ⟨by simp, fun w0 => ?_⟩
 repeat' (first | apply zC | apply zG | apply zD | apply zA | apply zB | refine zF qS qR ?_ ?_ | refine zM K116 qD ?_ ⟨_, _, rfl, rfl⟩ qS ?_ | (refine zE qS ?_ ?_ <;> intro hb <;> have hc := hb <;> (try simp only [bF] at hc) <;> (try (exfalso; simp at hc; done))) | refine zI qR ?_ | exact True.intro | exact rfl | refine SLe0.bool ?_ | exact qP | fail)
 ·simp only [pair, sameC, hb]; rfl
 ·refine run_lenV 0 5 rfl rfl fun la => ?_
  refine run_lenV 1 5 rfl rfl fun lb => ?_
  have e0 : pair a b = !((a.Sources.drop 0).any fun x => b.Sources.any fun y => clash2 a b x y) := by simp only [pair, sameC, hb]; rfl
  refine zN [2, 3, 5] (fun k : Nat => [(6, .int .i64 k)]) (fun k : Nat => []) (fun k : Nat => k ≤ a.Sources.length ∧ pair a b = !((a.Sources.drop k).any fun x => b.Sources.any fun y => clash2 a b x y)) (fun k : Nat => a.Sources.length - k) 0 (fun x => qS) ?_ qL qL ?_
  ·exact ⟨Nat.zero_le _, e0⟩
  rintro k ⟨h1, h2⟩
  repeat' (first | apply zC | apply zG | apply zD | apply zA | apply zB | refine zF qS qR ?_ ?_ | (refine zE qS ?_ ?_ <;> intro hb <;> have hc := hb <;> (try simp only [bF] at hc) <;> (try (exfalso; simp at hc; done))) | refine zI qR ?_ | refine zK qR ?_ | exact True.intro | exact rfl | refine SLe0.bool ?_ | fail)
  ·rw [drop_get _ _ ‹k < _›, List.any_cons] at h2
   refine zN [2, 3, 5, 6] (fun i : Nat × Unit => [(7, .int .i64 i.1)]) (fun i : Nat × Unit => []) (fun i : Nat × Unit => i.1 ≤ b.Sources.length ∧ (b.Sources.any fun y => clash2 a b (a.Sources.getD k default) y) = (b.Sources.drop i.1).any fun y => clash2 a b (a.Sources.getD k default) y) (fun i : Nat × Unit => b.Sources.length - i.1) (0, ()) (fun x => qS) ?_ qL qL ?_
   ·exact ⟨Nat.zero_le _, rfl⟩
   rintro ⟨i, _⟩ ⟨h3, h4⟩
   repeat' (first | apply zC | apply zG | apply zD | apply zL | apply zA | apply zP | apply zB | refine zF qS qR ?_ ?_ | refine zU qS qR ?_ ?_ | refine zQ qK qK ?_ | (refine zE qS ?_ ?_ <;> intro hb <;> have hc := hb <;> (try simp only [bF] at hc) <;> (try (exfalso; simp at hc; done))) | refine zI qR ?_ | refine zK qR ?_ | refine zS (i+1,()) ?_ ?_ ⟨rfl, qL, qL⟩ | refine zS (k+1) ?_ ?_ ⟨rfl, qL, qL⟩ | exact True.intro | exact rfl | omega | refine SLe0.bool ?_ | exact qP | fail)
   ·rw [h2, h4, drop_get _ _ ‹i < _›, List.any_cons, show clash2 a b (a.Sources.getD k default) (b.Sources.getD i default) = true from hb]; rfl
   ·exact ⟨by simp only; omega, by rw [h4]; simp only; rw [drop_get _ _ ‹i < _›, List.any_cons, show clash2 a b (a.Sources.getD k default) (b.Sources.getD i default) = false from hb, Bool.false_or]⟩
   ·refine ⟨by omega, ?_⟩
    rw [h2, h4, List.drop_of_length_le (by simp only; omega)]; rfl
  ·rw [h2, List.drop_of_length_le (by omega)]; rfl
theorem shared_pair (a b : Ach) : pair a b = !(sameC a.Course b.Course || shared a b) := by
 simp only [pair, Bool.not_or]
 congr 2
 simp only [shared]
 split
 ·rename_i h
  obtain ⟨h1, h2, h3⟩ := h
  have : ∀ x y, clash2 a b x y = false := fun x y => by
   have : ¬ b.Bundle < 1 := by omega
   simp [clash2, h2, h3, this]
  simp [this]
 ·rename_i h
  have : (a.Bundle != b.Bundle || decide (a.Bundle < 1) || !a.Path == b.Path) = true := by
   by_cases h1 : a.Bundle = b.Bundle <;> by_cases h2 : a.Bundle < 1 <;> by_cases h3 : a.Path = b.Path <;> simp [h1, h2, h3]
   ·omega
   ·exact absurd ⟨by omega, h1, h3⟩ h
  simp only [clash2, this, Bool.and_true]
def pw {α : Type} (p : α → α → Bool) : List α → Bool
 | [] => true
 | a :: r => r.all (p a) && pw p r
theorem pw_drop {α : Type} [Inhabited α] (p : α → α → Bool) (l : List α) (k : Nat) (h : k < l.length) : pw p (l.drop k) = ((l.drop (k + 1)).all (p (l.getD k default)) && pw p (l.drop (k + 1))) := by
 rw [drop_get l k h]; rfl
theorem K16 : FnOK Tryz.prog 16 (fun ds d => ∃ l, ds = [eList 8 eAch l] ∧ d = .bool (pw pair l)) := by
 refine fn_intro Tryz.call16 Tryz.func16 rfl Tryz.ntmps16 ?_
 rintro ds d ⟨l, rfl, rfl⟩
 refine ⟨by simp, fun w0 => ?_⟩
 repeat' (first | apply zC | apply zD | apply zA | apply zB | refine zF qS qR ?_ ?_ | exact True.intro | exact rfl | fail)
 refine run_len 0 rfl fun hl => ?_
 have e : ∀ k : Nat, k < l.length → IntKind.i64.wrap (↑k + 1) = ((k + 1 : Nat) : Int) := fun k h => by rw [w64]; omega
 refine zN [0, 7, 8] (fun k : Nat => [(9, .int .i64 k)]) (fun k : Nat => []) (fun k : Nat => k ≤ l.length ∧ pw pair l = pw pair (l.drop k)) (fun k : Nat => l.length - k) 0 (fun x => qS) ?_ qL qL ?_
 ·exact ⟨Nat.zero_le _, rfl⟩
 rintro k ⟨h1, h2⟩
 repeat' (first | apply zC | apply zA | apply zB | refine zF qS qR ?_ ?_ | exact True.intro | exact rfl | fail)
 (refine zE qS ?_ ?_ <;> intro hb <;> have hc := hb <;> (try simp only [bF] at hc) <;> (try (exfalso; simp at hc; done)))
 ·replace e := e k ‹_›
  repeat' (first | apply zC | apply zG | apply zD | apply zA | apply zB | refine zF (by simp only [go_sem, e]; rfl) qR ?_ ?_ | exact rfl | exact qP | fail)
  rw [pw_drop _ _ _ ‹k < _›] at h2
  refine zN [0, 7, 8, 9, 4, 17, 18] (fun i : Nat × Unit => [(19, .int .i64 i.1)]) (fun i : Nat × Unit => []) (fun i : Nat × Unit => i.1 ≤ l.length - (k + 1) ∧ (l.drop (k + 1)).all (pair (l.getD k default)) = (l.drop (k + 1 + i.1)).all (pair (l.getD k default))) (fun i : Nat × Unit => l.length - (k + 1) - i.1) (0, ()) (fun x => qS) ?_ qL qL ?_
  ·exact ⟨Nat.zero_le _, rfl⟩
  rintro ⟨i, _⟩ ⟨h3, h4⟩
  simp only at h3 h4
  repeat' (first | apply zC | apply zG | apply zD | apply zL | apply zA | apply zB | refine zF qS qR ?_ ?_ | refine zV 28 qR qS K53 qD (fun hg => ?_) (fun _ => ⟨_, _, rfl, rfl⟩) qS ?_ | (refine zE qS ?_ ?_ <;> intro hb <;> have hc := hb <;> (try simp only [bF] at hc) <;> (try (exfalso; simp at hc; done))) | refine zI qR ?_ | refine zK qR ?_ | refine zS (i+1,()) ?_ ?_ ⟨rfl, qL, qL⟩ | refine zS (k+1) ?_ ?_ ⟨rfl, qL, qL⟩ | exact True.intro | exact rfl | omega | refine SLe0.bool ?_ | exact qP | fail)
  ·rw [drop_get _ _ (show k + 1 + i < l.length by omega), List.all_cons, shared_pair, show (sameC _ _ || shared _ _) = true from hb] at h4
   rw [h2, h4]; rfl
  ·rw [drop_get _ _ (show k + 1 + i < l.length by omega), List.all_cons, shared_pair, show (sameC _ _ || shared _ _) = false from hb] at h4
   refine ⟨by simp only; omega, ?_⟩
   rw [h4]; rfl
  ·rw [h4, List.drop_of_length_le (by omega), List.all_nil, Bool.true_and] at h2
   exact ⟨by omega, h2⟩
 ·repeat' (first | apply zC | apply zA | apply zB | refine zF qS qR ?_ ?_ | refine zI qR ?_ | refine zK qR ?_ | exact True.intro | exact rfl | refine SLe0.bool ?_ | fail)
  rw [h2, List.drop_of_length_le (by omega)]; rfl
theorem pw_iff {α : Type} [Inhabited α] (p : α → α → Bool) : ∀ (l : List α), pw p l = true ↔ ∀ i j, i < j → j < l.length → p (l.getD i default) (l.getD j default) = true
 | [] => by simp [pw]
 | x :: r => by
  simp only [pw, Bool.and_eq_true, pw_iff p r, List.all_eq_true, List.length_cons]
  constructor
  ·rintro ⟨h1, h2⟩ i j hij hj
   cases j with
   | zero => omega
   | succ j =>
    have hjr : j < r.length := by omega
    cases i with
    | zero =>
     simp only [List.getD_cons_zero, List.getD_cons_succ]
     refine h1 _ ?_
     rw [List.getD_eq_getElem?_getD, List.getElem?_eq_getElem hjr]
     exact List.getElem_mem hjr
    | succ i => simpa using h2 i j (by omega) hjr
  ·intro h
   refine ⟨fun y hy => ?_, fun i j hij hj => by simpa using h (i + 1) (j + 1) (by omega) (by omega)⟩
   obtain ⟨j, hj, rfl⟩ := List.getElem_of_mem hy
   have := h 0 (j + 1) (by omega) (by omega)
   simpa [List.getD_eq_getElem?_getD, hj] using this
theorem K17 : FnOK Tryz.prog 17 (fun ds d => ∃ l, ds = [eList 8 eAch l] ∧ d = .bool (pw pair l)) := by
 refine fn_intro Tryz.call17 Tryz.func17 rfl Tryz.ntmps17 ?_
 rintro ds d ⟨l, rfl, rfl⟩
 refine ⟨by simp, fun w0 => ?_⟩
 repeat' (first | apply zC | apply zD | apply zA | apply zB | refine zF qS qR ?_ ?_ | exact True.intro | exact rfl | fail)
 refine run_len 0 rfl fun hl => ?_
 refine zN [0] (fun k : Nat => [(3, .int .i64 k)]) (fun k : Nat => []) (fun k : Nat => k ≤ l.length ∧ ∀ i j, i < j → j < k → pair (l.getD i default) (l.getD j default) = true) (fun k : Nat => l.length - k) 0 (fun x => qS) ?_ qL qL ?_
 ·exact ⟨Nat.zero_le _, fun i j h1 h2 => absurd h2 (Nat.not_lt_zero j)⟩
 rintro k ⟨h1, h2⟩
 repeat' (first | apply zC | apply zG | apply zD | apply zA | apply zB | refine zF qS qR ?_ ?_ | (refine zE qS ?_ ?_ <;> intro hb <;> have hc := hb <;> (try simp only [bF] at hc) <;> (try (exfalso; simp at hc; done))) | refine zI qR ?_ | refine zK qR ?_ | exact True.intro | exact rfl | refine SLe0.bool ?_ | fail)
 ·refine zN [0, 3] (fun i : Nat × Unit => [(4, .int .i64 i.1)]) (fun i : Nat × Unit => []) (fun i : Nat × Unit => i.1 ≤ k ∧ ∀ j, j < i.1 → pair (l.getD j default) (l.getD k default) = true) (fun i : Nat × Unit => k - i.1) (0, ()) (fun x => qS) ?_ qL qL ?_
  ·exact ⟨Nat.zero_le _, fun j h2 => absurd h2 (Nat.not_lt_zero j)⟩
  rintro ⟨i, _⟩ ⟨h3, h4⟩
  simp only at h3 h4
  repeat' (first | apply zC | apply zG | apply zD | apply zL | apply zA | apply zP | apply zB | refine zF qS qR ?_ ?_ | refine zU qS qR ?_ ?_ | refine zQ qK qK ?_ | refine zX K54 qD ?_ ⟨_, _, rfl, rfl⟩ qS ?_ | (refine zE qS ?_ ?_ <;> intro hb <;> have hc := hb <;> (try simp only [bF] at hc) <;> (try (exfalso; simp at hc; done))) | refine zI qR ?_ | refine zK qR ?_ | refine zS (i+1,()) ?_ ?_ ⟨rfl, qL, qL⟩ | refine zS (k+1) ?_ ?_ ⟨rfl, qL, qL⟩ | exact True.intro | exact rfl | omega | refine SLe0.bool ?_ | exact qP | fail)
  ·cases hp : pw pair l
   ·rfl
   ·have := (pw_iff pair l).1 hp i k ‹_› ‹_›
    rw [hc] at this; cases this
  ·refine ⟨by simp only; omega, fun j hj => ?_⟩
   simp only at hj
   rcases Nat.lt_succ_iff_lt_or_eq.1 hj with h | rfl
   ·exact h4 j h
   ·exact hc
  ·refine ⟨by omega, fun i' j hij hj => ?_⟩
   rcases Nat.lt_succ_iff_lt_or_eq.1 hj with h | rfl
   ·exact h2 i' j hij h
   ·exact h4 i' (by omega)
 ·exact ((pw_iff pair l).2 fun i j hij hj => h2 i j hij (by omega)).symm
end Go.Sx
namespace Go.Sx
open Go.Proofs Go.RowKit
attribute [local irreducible] Run RunL RunD SLe0 SLe OLe
set_option maxHeartbeats 2000000
set_option maxRecDepth 8000
def limited (n a b : Int) : Int := max (min a b) (min n (max a b))
theorem K100 : FnOK Tryz.prog 100 (fun ds d => ∃ n a b, ds = [eInt n, eInt a, eInt b] ∧ d = eInt (limited n a b)) := by
 refine fn_intro Tryz.call100 Tryz.func100 rfl Tryz.ntmps100 ?_
 rintro ds d ⟨n, a, b, rfl, rfl⟩
 refine ⟨by simp, fun w0 => ?_⟩
 repeat' (first | apply zC | apply zA | apply zB | refine zF qS qR ?_ ?_ | refine zI qR ?_ | exact True.intro | exact rfl | refine SLe0.int ?_ | fail)
 simp only [limited]
 omega
theorem limited_iff (n a b : Int) : limited n a b = n ↔ min a b ≤ n ∧ n ≤ max a b := by
 simp only [limited]; omega
def okScale (s : Scale) : Bool := decide (-1000 ≤ min s.Worst s.Best ∧ max s.Worst s.Best ≤ 1000 ∧ s.Worst ≠ s.Best ∧ min s.Worst s.Best ≤ s.Pass ∧ s.Pass ≤ max s.Worst s.Best)
theorem K41 : FnOK Tryz.prog 41 (fun ds d => ∃ s, ds = [eScale s] ∧ d = eInt (if okScale s then 0 else 10)) := by
 refine fn_intro Tryz.call41 Tryz.func41 rfl Tryz.ntmps41 ?_
 rintro ds d ⟨s, rfl, rfl⟩
 refine ⟨by simp, fun w0 => ?_⟩
 repeat' (first | apply zC | apply zD | apply zA | apply zB | refine zF qS qR ?_ ?_ | exact True.intro | exact rfl | fail)
 refine zN [1, 9, 10] (fun k : Nat => [(11, .int .i64 k)]) (fun k : Nat => []) (fun k : Nat => k ≤ 2 ∧ (1 ≤ k → -1000 ≤ s.Worst ∧ s.Worst ≤ 1000) ∧ (2 ≤ k → -1000 ≤ s.Best ∧ s.Best ≤ 1000)) (fun k : Nat => 2 - k) 0 (fun x => qS) ?_ qL qL ?_
 ·exact ⟨Nat.zero_le _, fun h => absurd h (by omega), fun h => absurd h (by omega)⟩
 rintro k ⟨h1, h2, h3⟩
 obtain rfl | rfl | rfl : k = 0 ∨ k = 1 ∨ k = 2 := by omega
 ·repeat' (first | apply zC | apply zG | apply zD | apply zL | apply zA | apply zB | refine zF qS qR ?_ ?_ | refine zM K100 qD ?_ ⟨_, _, _, rfl, rfl⟩ qS ?_ | (refine zE qS ?_ ?_ <;> intro hb <;> have hc := hb <;> (try simp only [bF] at hc) <;> (try (exfalso; simp at hc; done))) | refine zI qR ?_ | refine zS 1 ?_ ?_ ⟨rfl, qL, qL⟩ | exact True.intro | exact rfl | omega | refine SLe0.int ?_ | exact qP | fail)
  ·rw [ne_eq, limited_iff] at hc
   rw [if_neg]; simp only [okScale, decide_eq_true_eq]; omega
  ·rw [limited_iff] at hc
   omega
 ·repeat' (first | apply zC | apply zG | apply zD | apply zL | apply zA | apply zB | refine zF qS qR ?_ ?_ | refine zM K100 qD ?_ ⟨_, _, _, rfl, rfl⟩ qS ?_ | (refine zE qS ?_ ?_ <;> intro hb <;> have hc := hb <;> (try simp only [bF] at hc) <;> (try (exfalso; simp at hc; done))) | refine zI qR ?_ | refine zS 2 ?_ ?_ ⟨rfl, qL, qL⟩ | exact True.intro | exact rfl | omega | refine SLe0.int ?_ | exact qP | fail)
  ·rw [ne_eq, limited_iff] at hc
   rw [if_neg]; simp only [okScale, decide_eq_true_eq]; omega
  ·rw [limited_iff] at hc
   omega
 ·repeat' (first | apply zC | apply zG | apply zA | apply zP | apply zB | refine zF qS qR ?_ ?_ | refine zU qS qR ?_ ?_ | refine zQ qK qK ?_ | refine runDcallg 25 qR qS K100 qD (fun hg => ?_) (fun _ => ⟨_, _, _, rfl, rfl⟩) qS ?_ | (refine zE qS ?_ ?_ <;> intro hb <;> have hc := hb <;> (try simp only [bF] at hc) <;> (try (exfalso; simp at hc; done))) | refine zI qR ?_ | refine zK qR ?_ | exact True.intro | exact rfl | refine SLe0.int ?_ | exact qP | fail)
  ·rw [ne_eq, limited_iff] at hc
   rw [if_neg]; simp only [okScale, decide_eq_true_eq]; omega
  ·rw [limited_iff] at hc
   rw [if_pos]; simp only [okScale, decide_eq_true_eq]; omega
def rightS (s : Scale) (g : Int) : Bool := okScale s && decide (min s.Worst s.Best ≤ g ∧ g ≤ max s.Worst s.Best)
theorem K150 : FnOK Tryz.prog 150 (fun ds d => ∃ s g, ds = [eScale s, eInt g] ∧ d = .bool (rightS s g)) := by
 refine fn_intro Tryz.call150 Tryz.func150 rfl Tryz.ntmps150 ?_
 rintro ds d ⟨s, g, rfl, rfl⟩
 refine ⟨by simp, fun w0 => ?_⟩
 repeat' (first | apply zC | apply zA | apply zB | refine zF qS qR ?_ ?_ | refine zM K41 qD ?_ ⟨_, rfl, rfl⟩ qS ?_ | refine zV 8 qR qS K100 qD (fun hg => ?_) (fun _ => ⟨_, _, _, rfl, rfl⟩) qS ?_ | refine zI qR ?_ | exact True.intro | exact rfl | refine SLe0.bool ?_ | exact qP | fail)
 simp only [rightS]
 cases h : okScale s
 ·rfl
 ·rw [Bool.eq_iff_iff]; simp [limited_iff]
def reaches (s : Scale) (g m : Int) : Bool := rightS s g && (if s.Best > s.Worst then decide (g ≥ m) else decide (g ≤ m))
theorem K104 : FnOK Tryz.prog 104 (fun ds d => ∃ s g m, ds = [eScale s, eInt g, eInt m] ∧ d = .bool (reaches s g m)) := by
 refine fn_intro Tryz.call104 Tryz.func104 rfl Tryz.ntmps104 ?_
 rintro ds d ⟨s, g, m, rfl, rfl⟩
 refine ⟨by simp, fun w0 => ?_⟩
 repeat' (first | apply zC | apply zA | apply zB | refine zF qS qR ?_ ?_ | refine zM K150 qD ?_ ⟨_, _, rfl, rfl⟩ qS ?_ | refine zI qR ?_ | exact True.intro | exact rfl | refine SLe0.bool ?_ | exact qP | fail)
 simp only [reaches]
 congr 1
 by_cases h : s.Worst < s.Best
 ·rw [if_pos h]; rw [Bool.eq_iff_iff]; simp [h]; omega
 ·rw [if_neg h]; rw [Bool.eq_iff_iff]; simp [h]; omega
theorem K110 : FnOK Tryz.prog 110 (fun ds d => ∃ n, ds = [eInt n, eInt 1000] ∧ d = .bool (decide (-1000 ≤ n) && decide (n ≤ 1000))) := by
 refine fn_intro Tryz.call110 Tryz.func110 rfl Tryz.ntmps110 ?_
 rintro ds d ⟨n, rfl, rfl⟩
 refine ⟨by simp, fun w0 => ?_⟩
 repeat' (first | apply zC | apply zA | apply zB | refine zF qS qR ?_ ?_ | refine zI qR ?_ | exact True.intro | exact rfl | exact SLe0.bool rfl | exact qP | fail)
 all_goals trace_state
 all_goals skip
theorem K49 : FnOK Tryz.prog 49 (fun ds d => ∃ s, ds = [eScale s] ∧ d = eInt (if okScale s then 0 else 10)) := by
 refine fn_intro Tryz.call49 Tryz.func49 rfl Tryz.ntmps49 ?_
 rintro ds d ⟨s, rfl, rfl⟩
 refine ⟨by simp, fun w0 => ?_⟩
 repeat' (first | apply zC | apply zG | apply zA | apply zB | refine zF qS qR ?_ ?_ | refine zV 18 qR qS K110 qD (fun hg => ?_) (fun _ => ⟨_, rfl, rfl⟩) qS ?_ | refine zV 23 qR qS K110 qD (fun hg => ?_) (fun _ => ⟨_, rfl, rfl⟩) qS ?_ | (refine zE qS ?_ ?_ <;> intro hb <;> have hc := hb <;> (try simp only [bF] at hc) <;> (try (exfalso; simp at hc; done))) | refine zI qR ?_ | exact True.intro | exact rfl | refine SLe0.int ?_ | exact qP | fail)
 ·rw [if_neg]; simp only [okScale, decide_eq_true_eq]; simp only [Bool.and_eq_false_iff, decide_eq_false_iff_not] at hc; omega
 ·rw [if_pos]; simp only [okScale, decide_eq_true_eq]; omega
theorem K228 : FnOK Tryz.prog 228 (fun ds d => ∃ s g, ds = [eScale s, eInt g] ∧ d = .bool (rightS s g)) := by
 refine fn_intro Tryz.call228 Tryz.func228 rfl Tryz.ntmps228 ?_
 rintro ds d ⟨s, g, rfl, rfl⟩
 refine ⟨by simp, fun w0 => ?_⟩
 repeat' (first | apply zC | apply zA | apply zB | refine zF qS qR ?_ ?_ | refine zM K49 qD ?_ ⟨_, rfl, rfl⟩ qS ?_ | refine zI qR ?_ | exact True.intro | exact rfl | refine SLe0.bool ?_ | exact qP | fail)
 simp only [rightS]
 cases h : okScale s
 ·rfl
 ·rw [Bool.eq_iff_iff]; simp; omega
theorem K197 : FnOK Tryz.prog 197 (fun ds d => ∃ s g m, ds = [eScale s, eInt g, eInt m] ∧ d = .bool (reaches s g m)) := by
 refine fn_intro Tryz.call197 Tryz.func197 rfl Tryz.ntmps197 ?_
 rintro ds d ⟨s, g, m, rfl, rfl⟩
 refine ⟨by simp, fun w0 => ?_⟩
 repeat' (first | apply zC | apply zG | apply zA | apply zB | refine zF qS qR ?_ ?_ | refine zM K228 qD ?_ ⟨_, _, rfl, rfl⟩ qS ?_ | (refine zE qS ?_ ?_ <;> intro hb <;> have hc := hb <;> (try simp only [bF] at hc) <;> (try (exfalso; simp at hc; done))) | refine zI qR ?_ | exact True.intro | exact rfl | refine SLe0.bool ?_ | fail)
 ·simp only [reaches, hc]; rfl
 ·have : rightS s g = true := ‹_›
  simp [reaches, this, hc]
 ·have : rightS s g = true := ‹_›
  simp [reaches, this, show ¬ s.Worst < s.Best by omega]
end Go.Sx
