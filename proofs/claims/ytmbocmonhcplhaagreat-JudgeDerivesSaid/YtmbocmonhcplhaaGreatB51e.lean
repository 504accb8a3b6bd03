/- Part of the proof that the laws of the judge return true for every input: B51e. -/
import Derived.Test.YtmbocmonhcplhaaGreatB51a
set_option linter.all false
namespace Go.Sx
open Go.Proofs Go.RowKit
attribute [local irreducible] Run RunL RunD OpT SLe0 SLe OLe
set_option maxHeartbeats 2000000
set_option maxRecDepth 8000
set_option maxRecDepth 40000
set_option maxHeartbeats 400000000
theorem B51e {Pm : Need → Prop} {A : Scale → List Ach → Nat → Need → (Nat → Bool) → Nat → Bool}
  (ih : FnOK Tryz.prog 51 (fun ds v => ∃ (n : Need) (s : Scale) (l : List Ach) (M : Nat) (S : Nat → Bool), (Pm n ∧ l.length ≤ 10 ∧ M = 2 ^ l.length) ∧ ds = [eNeedU n, eScale s, eList 8 eAch l, eB M S] ∧ v = eB M (A s l M n S)))
  {F : List Nat} {w0 : Base} {fin : Exit → Act → World → Prop} {kl : List It} {n : Need} {s : Scale} {l : List Ach} {M : Nat} {U : Nat → Bool} {least : Int} {mf : Nat → Nat → Bool} {k : Nat} {i : Nat} {W : Nat → Nat → Bool} (hg : k = 6) (hik : i ≤ k) (hm : Pm (n.L.getD k default)) (hk : k < n.L.length) (hl : l.length ≤ 10) (hMe : M = 2 ^ l.length) (hM : M ≤ 1024)
  (hn : ∀ V : Nat → Nat → Bool, (∀ j z, z < M → V j z = (W j z || ((decide (j = i) && mf i z) || (decide (j = i + 1) && A s l M (n.L.getD k default) (mf i) z)))) → Run Tryz.prog F w0 fin kl (t51 n s l M U least k (i + 1) mf V)) :
  Run Tryz.prog F w0 fin (.code (nthLoop 2 Tryz.f51.body) :: kl) (t51 n s l M U least k i mf W) := by
 have en : nthSD (eNeeds n.L) k = eNeedU (n.L.getD k default) := by rw [eNeeds_nth _ _ hk, eNeed_U]
 obtain ⟨i', hi'⟩ : ∃ i', i' = i := ⟨_, rfl⟩
 obtain ⟨R, hR⟩ : ∃ R, A s l M (n.L.getD k default) = R := ⟨_, rfl⟩
 rw [hR] at hn
 rcases (show (k = 6 ∧ i = 0) ∨ (k = 6 ∧ i = 1) ∨ (k = 6 ∧ i = 2) ∨ (k = 6 ∧ i = 3) ∨ (k = 6 ∧ i = 4) ∨ (k = 6 ∧ i = 5) ∨ (k = 6 ∧ i = 6) by omega) with ⟨rfl, rfl⟩ | ⟨rfl, rfl⟩ | ⟨rfl, rfl⟩ | ⟨rfl, rfl⟩ | ⟨rfl, rfl⟩ | ⟨rfl, rfl⟩ | ⟨rfl, rfl⟩
 all_goals
  refine run_st qS ?_
  repeat' (first | apply zC | apply zA | apply zB | refine zF qS qR ?_ ?_ | exact True.intro | exact rfl | fail)
  (refine zE qS ?_ ?_ <;> intro hb <;> have hc := hb <;> (try simp only [bF] at hc) <;> (try (exfalso; simp at hc; done)))
  repeat' (first | apply zC | apply zG | apply zD | apply zA | apply zP | apply zB | refine zF (by simp only [go_sem, en]; rfl) qR ?_ ?_ | refine runDqRP (by simp only [go_sem, en]; rfl) qR ?_ (by simp only [go_sem, en, recsOf, recA, recU, recG, readS, keysA, keysU]; rfl) ?_ | refine zQ qK qK ?_ | refine zX ih (by simp only [go_sem, en]; first | done | rfl) ?_ ⟨n.L.getD _ default, s, l, M, _, ⟨hm, hl, hMe⟩, rfl, rfl⟩ (by simp only [go_sem, en]; rfl) ?_ | exact True.intro | exact rfl | exact qP | fail)
  simp only [hR]
  refine run_loopN hk [2, 3, 4, 5, 9, 10, 11, 12, 14, 15] (fun x : Nat × (Nat → Nat → Bool) => [(16, .int .i64 x.1)]) (fun k x => rwO M x.2 (k + 2) 0) (fun x => x.1 ≤ M ∧ ∀ j z, z < M → x.2 j z = (W j z || (decide (z < x.1) && ((decide (j = i') && mf i' z) || (decide (j = i' + 1) && R (mf i') z))))) (fun x => M - x.1) (0, W) (fun x => qS) ?_ qL qL ?_
  ·exact ⟨Nat.zero_le _, fun j z _ => by simp⟩
  rintro ⟨t, V⟩ ⟨p1, p2⟩
  simp only at p1 p2
  repeat' (first | apply zC | apply zA | apply zB | refine zF qS qR ?_ ?_ | exact True.intro | exact rfl | fail)
  (refine zE qS ?_ ?_ <;> intro hb <;> have hc := hb <;> (try simp only [bF] at hc) <;> (try (exfalso; simp at hc; done)))
  ·have ht : t < M := by omega
   repeat' (first | apply zC | apply zG | apply zD | apply zL | apply zA | apply zP | apply zB | refine zF qS qR ?_ ?_ | refine zU qS qR ?_ ?_ | refine zQ qK qK ?_ | refine runDas qS qS ?_ | exact True.intro | exact rfl | exact qP | fail)
   refine zS (t + 1, fun j z => V j z || (decide (z = t) && ((decide (j = i') && mf i' z) || (decide (j = i' + 1) && R (mf i') z)))) ?_ ?_ ⟨rfl, by simp only [go_sem]; repeat' (first | exact trivial | exact True.intro | exact SLe.refl _ | exact OLe.refl _ | exact ⟨_, rfl, OLe.refl _⟩ | refine ⟨_, rfl, ?_⟩ | refine OLe.var ?_ | (show SLeL _ _; refine ⟨?_, ?_⟩) | (show SLeL [] []; exact True.intro) | (refine SLe.int ?_; rw [w64]; omega) | refine SLe.int ?_ | refine SLe.bool ?_ | apply And.intro | exact ole_rowT (by simp [hi']) | exact ole_rowN (fun z => by simp [hi']) | (simp only [hi']; rfl)), by simp only [go_sem]; repeat' (first | exact trivial | exact True.intro | exact SLe.refl _ | exact OLe.refl _ | exact ⟨_, rfl, OLe.refl _⟩ | refine ⟨_, rfl, ?_⟩ | refine OLe.var ?_ | (show SLeL _ _; refine ⟨?_, ?_⟩) | (show SLeL [] []; exact True.intro) | (refine SLe.int ?_; rw [w64]; omega) | refine SLe.int ?_ | refine SLe.bool ?_ | apply And.intro | exact ole_rowT (by simp [hi']) | exact ole_rowN (fun z => by simp [hi']) | (simp only [hi']; rfl))⟩
   ·exact ⟨by simp only; omega, fun j z hz => by simp only; rw [p2 j z hz, Bool.or_assoc, lt_succ_or]⟩
   ·simp only; omega
  ·repeat' (first | apply zL | apply zA | apply zB | refine zF qS qR ?_ ?_ | refine zK qR ?_ | exact True.intro | exact rfl | fail)
   refine run_into (hn V fun j z hz => by rw [p2 j z hz, decide_eq_true (by omega : z < t), Bool.true_and]; subst hi'; rfl) ⟨rfl, by simp only [go_sem]; repeat' (first | exact trivial | exact True.intro | exact SLe.refl _ | exact OLe.refl _ | exact ⟨_, rfl, OLe.refl _⟩ | refine ⟨_, rfl, ?_⟩ | refine OLe.var ?_ | (show SLeL _ _; refine ⟨?_, ?_⟩) | (show SLeL [] []; exact True.intro) | (refine SLe.int ?_; rw [w64]; omega) | refine SLe.int ?_ | refine SLe.bool ?_ | apply And.intro | exact ole_rowT (by simp [hi']) | exact ole_rowN (fun z => by simp [hi']) | (simp only [hi']; rfl)), by simp only [go_sem]; repeat' (first | exact trivial | exact True.intro | exact SLe.refl _ | exact OLe.refl _ | exact ⟨_, rfl, OLe.refl _⟩ | refine ⟨_, rfl, ?_⟩ | refine OLe.var ?_ | (show SLeL _ _; refine ⟨?_, ?_⟩) | (show SLeL [] []; exact True.intro) | (refine SLe.int ?_; rw [w64]; omega) | refine SLe.int ?_ | refine SLe.bool ?_ | apply And.intro | exact ole_rowT (by simp [hi']) | exact ole_rowN (fun z => by simp [hi']) | (simp only [hi']; rfl))⟩
end Go.Sx
