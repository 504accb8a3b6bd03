/- Part of the proof that the laws of the judge return true for every input: J21. -/
import Derived.Test.YtmbocmonhcplhaaGreatJ20
set_option linter.all false
namespace Go.Sx
open Go.Proofs Go.RowKit
attribute [local irreducible] Run RunL RunD SLe0 SLe OLe
set_option maxHeartbeats 2000000
set_option maxRecDepth 8000
def SetOk (n : Need) : Prop := ∀ c ∈ n.Set, CodeOk c.Code
theorem SetOk.get {n : Need} (h : SetOk n) {i : Nat} (hi : i < n.Set.length) : CodeOk (n.Set.getD i default).Code := by
 refine h _ ?_
 rw [List.getD_eq_getElem?_getD, List.getElem?_eq_getElem hi]
 exact List.getElem_mem hi
def incB (l : List Course) : Bool := (List.range l.length).all fun j => j == 0 || precR (l.getD (j - 1) default) (l.getD j default)
theorem incB_iff (l : List Course) : incB l = true ↔ ∀ j, 1 ≤ j → j < l.length → precR (l.getD (j - 1) default) (l.getD j default) = true := by
 simp only [incB, List.all_eq_true, List.mem_range, Bool.or_eq_true, beq_iff_eq]
 constructor
 ·intro h j h1 h2
  rcases h j h2 with h3 | h3
  ·omega
  ·exact h3
 ·intro h j h1
  by_cases h2 : j = 0
  ·exact .inl h2
  ·exact .inr (h j (by omega) h1)
theorem incB_no {l : List Course} {j : Nat} (h1 : 1 ≤ j) (h2 : j < l.length) (h3 : precR (l.getD (j - 1) default) (l.getD j default) = false) : incB l = false := by
 cases h : incB l
 ·rfl
 ·rw [(incB_iff l).1 h j h1 h2] at h3; cases h3
def coursesR (n : Need) : Int :=
 if !(decide (-1000 ≤ n.Min) && decide (n.Min ≤ 1000)) then 3
 else if !(decide (1 ≤ (n.Set.length : Int)) && decide ((n.Set.length : Int) ≤ 12)) then 2
 else if n.Set.any (fun c => !rightR c) then 1
 else if incB n.Set then 0 else 7
theorem K226 : FnOK Tryz.prog 226 (fun ds d => ∃ c : Course, CodeOk c.Code ∧ ds = [eCourse c] ∧ d = .bool (!rightR c)) := by
 refine fn_intro Tryz.call226 Tryz.func226 rfl Tryz.ntmps226 ?_
 rintro ds d ⟨c, hc, rfl, rfl⟩
 refine ⟨by simp, fun w0 => ?_⟩
 repeat' (first | apply zC | apply zA | apply zB | refine zF qS qR ?_ ?_ | refine zL K97 qD ?_ ⟨c, hc, rfl, rfl⟩ qS ?_ | refine zI qR ?_ | exact True.intro | exact rfl | exact SLe0.bool rfl | fail)
theorem K190 : FnOK Tryz.prog 190 (fun ds d => ∃ n : Need, SetOk n ∧ ds = [eNeed n] ∧ d = eInt (coursesR n)) := by
 refine fn_intro Tryz.call190 Tryz.func190 rfl Tryz.ntmps190 ?_
 rintro ds d ⟨n, hn, rfl, rfl⟩
 refine ⟨by simp, fun w0 => ?_⟩
 refine yD 0 3 rfl (by rw [nCells_eq]; rfl) fun hl => ?_
 have hp : ∀ i, i < n.Set.length → FnV Tryz.prog 226 [] [eCourse (n.Set.getD i default)] (.bool (!rightR (n.Set.getD i default))) := fun i hi => ⟨_, K226, _, hn.get hi, rfl, rfl⟩
 repeat' (first | apply zC | apply zG | apply zD | apply zK | apply zA | apply zB | refine zF qS qR ?_ ?_ | refine zL K94 qD ?_ ⟨_, _, _, rfl, rfl⟩ qS ?_ | refine zL K225 qD ?_ ⟨n.Set, 226, [], (fun c => !rightR c), hp, rfl, rfl⟩ qS ?_ | (refine zE qS ?_ ?_ <;> intro hb <;> have hc := hb <;> (try simp only [bF] at hc) <;> (try (exfalso; simp at hc; done))) | refine zI qR ?_ | exact True.intro | exact rfl | refine SLe0.int ?_ | fail)
 ·simp only [coursesR]; rw [if_pos hb]
 ·rename_i h1 _; simp only [coursesR]; rw [if_neg (by rw [h1]; simp), if_pos hb]
 ·rename_i h1 _ h2 _
  have h3 : (n.Set.any fun c => !rightR c) = false := hc
  refine zM [0, 1, 22, 23] (fun x : Nat × Unit => [(24, .int .i64 x.1)]) (fun x : Nat × Unit => []) (fun x : Nat × Unit => x.1 ≤ n.Set.length ∧ ∀ j, 1 ≤ j → j < x.1 → precR (n.Set.getD (j - 1) default) (n.Set.getD j default) = true) (fun x : Nat × Unit => n.Set.length - x.1) (0, ()) (fun x => qS) ?_ qL qL ?_
  ·exact ⟨Nat.zero_le _, fun j h1 h2 => absurd h2 (by simp)⟩
  rintro ⟨k, _⟩ ⟨g1, g2⟩
  simp only at g1 g2
  have e2 : 0 < k → IntKind.i64.wrap ((k : Int) - 1) = ((k - 1 : Nat) : Int) := fun h => by rw [w64]; omega
  repeat' (first | apply zC | apply zA | apply zB | refine zF qS qR ?_ ?_ | exact True.intro | exact rfl | fail)
  (refine zE qS ?_ ?_ <;> intro hb <;> have hc := hb <;> (try simp only [bF] at hc) <;> (try (exfalso; simp at hc; done)))
  ·have hk : k < n.Set.length := by assumption
   by_cases hk0 : k = 0
   ·subst hk0
    repeat' (first | apply zC | apply zG | apply zD | apply zK | apply zA | apply zO | apply zB | refine zF qS qR ?_ ?_ | refine zT qS qR ?_ ?_ | refine zP qK qK ?_ | refine runDcallg 31 qR qS K98 qD (fun hg => ?_) (fun _ => ⟨_, _, rfl, rfl⟩) qS ?_ | (refine zE qS ?_ ?_ <;> intro hb <;> have hc := hb <;> (try simp only [bF] at hc) <;> (try (exfalso; simp at hc; done))) | refine zR (1,()) ?_ ?_ ⟨rfl, qL, qL⟩ | exact True.intro | exact rfl | omega | exact qP | fail)
    exact ⟨by simp only; omega, fun j h1 h2 => absurd h2 (by simp only; omega)⟩
   ·have e1 := e2 (by omega)
    have e3 : decide ((0 : Int) < (k : Int)) = true := decide_eq_true (by omega)
    repeat' (first | apply zC | apply zG | apply zD | apply zK | apply zA | apply zO | apply zB | refine zF (by simp only [go_sem, e1, e3, cmpC_ge]; rfl) qR ?_ ?_ | refine zT (by simp only [go_sem, e1, e3, cmpC_ge]; rfl) qR ?_ ?_ | refine zP qK qK ?_ | refine runDcallg 31 qR (by simp only [go_sem, e1, e3, cmpC_ge]; rfl) K98 (by simp only [go_sem, e1, e3, cmpC_ge]; first | done | rfl) (fun hg => ?_) (fun _ => ⟨_, _, rfl, rfl⟩) (by simp only [go_sem, e1, e3, cmpC_ge]; rfl) ?_ | (refine zE (by simp only [go_sem, e1, e3, cmpC_ge]; rfl) ?_ ?_ <;> intro hb <;> have hc := hb <;> (try simp only [bF] at hc) <;> (try (exfalso; simp at hc; done))) | refine zI qR ?_ | refine zR (k+1,()) ?_ ?_ ⟨rfl, qL, qL⟩ | exact True.intro | exact rfl | omega | refine SLe0.int ?_ | exact qP | fail)
    ·simp only [coursesR]; rw [if_neg (by rw [h1]; simp), if_neg (by rw [h2]; simp), if_neg (by rw [h3]; simp)]
     rw [incB_no (j := k) (by omega) hk (by simpa using hb)]; rfl
    ·refine ⟨by simp only; omega, fun j h1 h2 => ?_⟩
     simp only at h2
     by_cases hj : j = k
     ·subst hj; simpa using hb
     ·exact g2 j h1 (by omega)
  ·repeat' (first | apply zC | apply zA | apply zB | refine zF qS qR ?_ ?_ | refine zI qR ?_ | refine zJ qR ?_ | exact True.intro | exact rfl | refine SLe0.int ?_ | fail)
   have h4 : incB n.Set = true := (incB_iff _).2 fun j j1 j2 => g2 j j1 (by omega)
   simp only [coursesR]; rw [if_neg (by rw [h1]; simp), if_neg (by rw [h2]; simp), if_neg (by rw [h3]; simp), h4]; rfl
 ·rename_i h1 _ h2 _
  simp only [coursesR]; rw [if_neg (by rw [h1]; simp), if_neg (by rw [h2]; simp), if_pos hc]
end Go.Sx
