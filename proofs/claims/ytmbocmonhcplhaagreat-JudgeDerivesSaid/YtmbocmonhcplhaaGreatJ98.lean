/- Part of the proof that the laws of the judge return true for every input: J98. -/
import Derived.Test.YtmbocmonhcplhaaGreatJ72
import Derived.Test.YtmbocmonhcplhaaGreatJ97
import Derived.Test.YtmbocmonhcplhaaGreatJ47
import Derived.Test.YtmbocmonhcplhaaGreatJ92a
set_option linter.all false
namespace Go.Sx
open Go.Proofs
theorem WOk.up {d : Nat} {n : Need} (h : WOk d n) : WOk (d + 1) n := ⟨(NOk.up h.1).1, by rw [(NOk.up h.1).2]; exact h.2⟩
theorem POk.up {d : Nat} {p : Programme} (h : POk d p) : POk (d + 1) p := ⟨h.need.up, h.name, h.excl⟩
theorem K14d : FnOK Tryz.prog 14 (fun ds v => ∃ (p : Programme) (s : Scale) (l : List Ach) (day : Int), POk 4 p ∧ ds = [eProg p, eScale s, eList 8 eAch l, eInt day] ∧ v = .bool (derF 4 p s l day)) := K14 4 (by omega) (by decide)
theorem K15d : FnOK Tryz.prog 15 (fun ds v => ∃ (p : Programme) (s : Scale) (l : List Ach) (day : Int), (POk 4 p ∧ DayOk day ∧ ∀ a ∈ l, DayOk a.Day) ∧ ds = [eProg p, eScale s, eList 8 eAch l, eInt day] ∧ v = .bool (derF 4 p s l day)) :=
 (K15 4 (by omega) (by decide)).weaken fun ds v ⟨p, s, l, day, ⟨h1, h2, h3⟩, e1, e2⟩ => ⟨p, s, l, day, h1, e1, by rw [e2, der_eq 4 p s l day h2 h3]⟩
open Go.Proofs Go.RowKit
attribute [local irreducible] Run RunL RunD OpT SLe0 SLe OLe
set_option maxHeartbeats 2000000
set_option maxRecDepth 8000
set_option maxHeartbeats 400000000
set_option maxRecDepth 10000
theorem K4 (PA PB PC : DArg → Programme) (LA LB : DArg → List Ach) (DY : DArg → Int) (gA : ∀ a, POk 4 (PA a)) (gB : ∀ a, POk 4 (PB a)) (gC : ∀ a, POk 4 (PC a)) (hA : ∀ a, (LA a).length ≤ 1000 ∧ ∀ x ∈ LA a, DayOk x.Day) (hB : ∀ a, (LB a).length ≤ 1000 ∧ ∀ x ∈ LB a, DayOk x.Day) (hD : ∀ a, DayOk (DY a))
  (K12 : FnOK Tryz.prog 12 (fun ds d => ∃ a : DArg, ds = [eDArg a] ∧ d = .tup [.agg (pCells (PA a) ++ pCells (PB a) ++ pCells (PC a)), .agg [eList 8 eAch (LA a), eList 8 eAch (LB a)], .int .i64 (DY a)])) :
  FnOK Tryz.prog 4 (fun ds d => ∃ (a : DArg) (s : Scale), ds = [eDArg a, eScale s] ∧ d = .bool true) := by
 refine fn_intro Tryz.call4 Tryz.func4 rfl Tryz.ntmps4 ?_
 rintro ds d ⟨a, s, rfl, rfl⟩
 refine ⟨by simp, fun w0 => ?_⟩
 have g1 := gA a
 have g2 := gB a
 have g3 := gC a
 have g4 := hA a
 have g5 := hB a
 have g6 := hD a
 repeat' (first | apply zC | apply zD | apply zA | apply zB | refine zF qS qR ?_ ?_ | refine zM K7 qD ?_ ⟨rfl, rfl⟩ qS ?_ | refine zM K12 qD ?_ ⟨a, rfl, rfl⟩ qS ?_ | exact True.intro | exact rfl | fail)
 clear hA hB hD gA gB gC
 generalize PA a = P1 at g1 ⊢
 generalize PB a = P2 at g2 ⊢
 generalize PC a = P3 at g3 ⊢
 generalize LA a = L1 at g4 ⊢
 generalize LB a = L2 at g5 ⊢
 generalize DY a = day at g6 ⊢
 refine zN [3, 4, 5, 7, 8, 22] (fun x : Nat × Unit => [(23, .int .i64 x.1)]) (fun x : Nat × Unit => []) (fun x : Nat × Unit => x.1 ≤ 3) (fun x : Nat × Unit => 3 - x.1) (0, ()) (fun x => qS) ?_ qL qL ?_
 ·exact Nat.zero_le _
 rintro ⟨i, _⟩ hi
 simp only at hi
 repeat' (first | apply zC | apply zA | apply zB | refine zF qS qR ?_ ?_ | exact True.intro | exact rfl | fail)
 (refine zE qS ?_ ?_ <;> intro hb <;> have hc := hb <;> (try simp only [bF] at hc) <;> (try (exfalso; simp at hc; done)))
 ·obtain ⟨i', hi'⟩ : ∃ i', i' = i := ⟨_, rfl⟩
  rcases (show i = 0 ∨ i = 1 ∨ i = 2 by omega) with rfl | rfl | rfl
  all_goals
   repeat' (first | apply zC | apply zG | apply zD | apply zA | apply zB | refine zF qS qR ?_ ?_ | exact True.intro | exact rfl | exact qP | fail)
   refine zN [3, 4, 5, 7, 8, 22, 23, 10, 26] (fun x : Nat × Unit => [(27, .int .i64 x.1)]) (fun x : Nat × Unit => []) (fun x : Nat × Unit => x.1 ≤ 2) (fun x : Nat × Unit => 2 - x.1) (0, ()) (fun x => qS) ?_ qL qL ?_
   ·exact Nat.zero_le _
   rintro ⟨j, _⟩ hj
   simp only at hj
   repeat' (first | apply zC | apply zA | apply zB | refine zF qS qR ?_ ?_ | exact True.intro | exact rfl | fail)
   (refine zE qS ?_ ?_ <;> intro hb <;> have hc := hb <;> (try simp only [bF] at hc) <;> (try (exfalso; simp at hc; done)))
   ·obtain ⟨j', hj'⟩ : ∃ j', j' = j := ⟨_, rfl⟩
    rcases (show j = 0 ∨ j = 1 by omega) with rfl | rfl
    all_goals
     repeat' (first | apply zC | apply zG | apply zD | apply zA | apply zP | apply zB | refine zF qS qR ?_ ?_ | refine zU qS qR ?_ ?_ | refine zQ qK qK ?_ | refine zX K13 qD ?_ ⟨_, rfl, rfl⟩ qS ?_ | exact True.intro | exact rfl | exact qP | fail)
     refine zN [3, 4, 5, 7, 8, 22, 23, 10, 26, 27, 12, 32, 33] (fun x : Nat × Unit => [(34, .int .i64 x.1)]) (fun x : Nat × Unit => []) (fun x : Nat × Unit => x.1 ≤ 2) (fun x : Nat × Unit => 2 - x.1) (0, ()) (fun x => qS) ?_ qL qL ?_
     ·exact Nat.zero_le _
     rintro ⟨k, _⟩ hk
     simp only at hk
     repeat' (first | apply zC | apply zA | apply zB | refine zF qS qR ?_ ?_ | exact True.intro | exact rfl | fail)
     (refine zE qS ?_ ?_ <;> intro hb <;> have hc := hb <;> (try simp only [bF] at hc) <;> (try (exfalso; simp at hc; done)))
     ·obtain ⟨k', hk'⟩ : ∃ k', k' = k := ⟨_, rfl⟩
      rcases (show k = 0 ∨ k = 1 by omega) with rfl | rfl
      all_goals
       repeat' (first | apply zC | apply zG | apply zD | apply zA | apply zP | apply zB | refine zF qS qR ?_ ?_ | refine zU qS qR ?_ ?_ | refine zQ qK qK ?_ | refine zX K14d qD ?_ ⟨_, _, _, _, (by assumption), rfl, rfl⟩ qS ?_ | refine zX K15d qD ?_ ⟨_, _, _, _, ⟨(by assumption), g6, (by first | exact g4.2 | exact g5.2)⟩, rfl, rfl⟩ qS ?_ | exact True.intro | exact rfl | exact qP | fail)
       (refine zE qS ?_ ?_ <;> intro hb <;> have hc := hb <;> (try simp only [bF] at hc) <;> (try (exfalso; simp at hc; done)))
       repeat' (first | apply zG | apply zL | apply zA | apply zB | refine zF qS qR ?_ ?_ | exact True.intro | exact rfl | fail)
       refine zS (k' + 1, ()) ?_ ?_ ⟨rfl, by simp only [go_sem]; repeat' (first | exact trivial | exact True.intro | exact SLe.refl _ | exact OLe.refl _ | exact ⟨_, rfl, OLe.refl _⟩ | refine ⟨_, rfl, ?_⟩ | refine OLe.var ?_ | (show SLeL _ _; refine ⟨?_, ?_⟩) | (show SLeL [] []; exact True.intro) | (refine SLe.int ?_; rw [w64]; omega) | refine SLe.int ?_ | refine SLe.bool ?_ | apply And.intro | (simp only [hk']; rfl)), by simp only [go_sem]; repeat' (first | exact trivial | exact True.intro | exact SLe.refl _ | exact OLe.refl _ | exact ⟨_, rfl, OLe.refl _⟩ | refine ⟨_, rfl, ?_⟩ | refine OLe.var ?_ | (show SLeL _ _; refine ⟨?_, ?_⟩) | (show SLeL [] []; exact True.intro) | (refine SLe.int ?_; rw [w64]; omega) | refine SLe.int ?_ | refine SLe.bool ?_ | apply And.intro | (simp only [hk']; rfl))⟩
       ·simp only; omega
       ·simp only; omega
     ·repeat' (first | apply zC | apply zA | apply zB | refine zF qS qR ?_ ?_ | refine zM K16 qD ?_ ⟨_, rfl, rfl⟩ qS ?_ | refine zV 55 qR qS K16 qD (fun hg => ?_) (fun _ => ⟨_, rfl, rfl⟩) qS ?_ | refine zM K17 qD ?_ ⟨_, rfl, rfl⟩ qS ?_ | refine zV 55 qR qS K18 qD (fun hg => ?_) (fun _ => ⟨_, (by first | exact g4.1 | exact g5.1), rfl, rfl⟩) qS ?_ | refine zK qR ?_ | exact True.intro | exact rfl | exact qP | fail)
      (refine zE qS ?_ ?_ <;> intro hb <;> have hc := hb <;> (try simp only [bF] at hc) <;> (try (exfalso; simp at hc; done)))
      repeat' (first | apply zG | apply zL | apply zA | apply zB | refine zF qS qR ?_ ?_ | exact True.intro | exact rfl | fail)
      refine zS (j' + 1, ()) ?_ ?_ ⟨rfl, by simp only [go_sem]; repeat' (first | exact trivial | exact True.intro | exact SLe.refl _ | exact OLe.refl _ | exact ⟨_, rfl, OLe.refl _⟩ | refine ⟨_, rfl, ?_⟩ | refine OLe.var ?_ | (show SLeL _ _; refine ⟨?_, ?_⟩) | (show SLeL [] []; exact True.intro) | (refine SLe.int ?_; rw [w64]; omega) | refine SLe.int ?_ | refine SLe.bool ?_ | apply And.intro | (simp only [hj']; rfl)), by simp only [go_sem]; repeat' (first | exact trivial | exact True.intro | exact SLe.refl _ | exact OLe.refl _ | exact ⟨_, rfl, OLe.refl _⟩ | refine ⟨_, rfl, ?_⟩ | refine OLe.var ?_ | (show SLeL _ _; refine ⟨?_, ?_⟩) | (show SLeL [] []; exact True.intro) | (refine SLe.int ?_; rw [w64]; omega) | refine SLe.int ?_ | refine SLe.bool ?_ | apply And.intro | (simp only [hj']; rfl))⟩
      ·simp only; omega
      ·simp only; omega
   ·repeat' (first | apply zL | apply zA | apply zB | refine zF qS qR ?_ ?_ | refine zK qR ?_ | exact True.intro | exact rfl | fail)
    refine zS (i' + 1, ()) ?_ ?_ ⟨rfl, by simp only [go_sem]; repeat' (first | exact trivial | exact True.intro | exact SLe.refl _ | exact OLe.refl _ | exact ⟨_, rfl, OLe.refl _⟩ | refine ⟨_, rfl, ?_⟩ | refine OLe.var ?_ | (show SLeL _ _; refine ⟨?_, ?_⟩) | (show SLeL [] []; exact True.intro) | (refine SLe.int ?_; rw [w64]; omega) | refine SLe.int ?_ | refine SLe.bool ?_ | apply And.intro | (simp only [hi']; rfl)), by simp only [go_sem]; repeat' (first | exact trivial | exact True.intro | exact SLe.refl _ | exact OLe.refl _ | exact ⟨_, rfl, OLe.refl _⟩ | refine ⟨_, rfl, ?_⟩ | refine OLe.var ?_ | (show SLeL _ _; refine ⟨?_, ?_⟩) | (show SLeL [] []; exact True.intro) | (refine SLe.int ?_; rw [w64]; omega) | refine SLe.int ?_ | refine SLe.bool ?_ | apply And.intro | (simp only [hi']; rfl))⟩
    ·simp only; omega
    ·simp only; omega
 ·repeat' (first | apply zC | apply zA | apply zB | refine zF qS qR ?_ ?_ | refine zI qR ?_ | refine zK qR ?_ | exact True.intro | exact rfl | exact SLe0.bool rfl | fail)
end Go.Sx
