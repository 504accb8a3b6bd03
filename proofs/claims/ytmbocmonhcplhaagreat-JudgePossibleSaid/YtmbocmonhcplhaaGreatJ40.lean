/- Part of the proof that the laws of the judge return true for every input: J40. -/
import Derived.Test.YtmbocmonhcplhaaGreatJ31
import Derived.Test.YtmbocmonhcplhaaGreatJ50
set_option linter.all false
namespace Go.Sx
open Go.Proofs Go.RowKit
attribute [local irreducible] Run RunL RunD OpT SLe0 SLe OLe
set_option maxHeartbeats 2000000
set_option maxRecDepth 8000
set_option maxHeartbeats 20000000
theorem K99t : FnOK Tryz.prog 99 (fun ds d => ∃ (a : List (Course × Course)) (k : Nat) (x : Course × Course), k < a.length ∧ ds = [.list 4 k (fun i => ePair (a.getD i default)), ePair x] ∧ d = .bool ((a.take k).any fun y => sameP x y)) := by
 refine argLe' K99 ?_
 rintro ds v ⟨a, k, x, hk, rfl, rfl⟩
 refine ⟨_, ⟨a.take k, x, rfl, rfl⟩, fun h e vs hv => ?_⟩
 exact SLeL.repT (l := [.list 4 k (fun i => ePair (a.getD i default)), ePair x]) ⟨SLe.list (by rw [List.length_take]; omega) fun i hi => by
  simp only [List.getD_eq_getElem?_getD, List.getElem?_take, hi, if_true], SLe.refl _, trivial⟩ hv
theorem K40 (d : Nat) (hd : 1 + d ≤ 100) (hcn : cntB d ≤ 10000) : FnOK Tryz.prog 40 (fun ds v => ∃ p : Programme, POk d p ∧ ds = [eProg p] ∧ v = eInt (chkP d p)) := by
 have K96x := K96 d hd hcn
 refine fn_intro Tryz.call40 Tryz.func40 rfl Tryz.ntmps40 ?_
 rintro ds d ⟨p, hp, rfl, rfl⟩
 refine ⟨by simp, fun w0 => ?_⟩
 repeat' (first | apply zC | apply zD | apply zA | apply zB | refine zF qS qR ?_ ?_ | refine zL K94 qD ?_ ⟨_, _, _, rfl, rfl⟩ qS ?_ | exact True.intro | exact rfl | fail)
 (refine zE qS ?_ ?_ <;> intro hb <;> have hc := hb <;> (try simp only [bF] at hc) <;> (try (exfalso; simp at hc; done)))
 ·rw [chkP, if_pos hb]
  repeat' (first | apply zC | apply zA | apply zB | refine zF qS qR ?_ ?_ | refine zI qR ?_ | exact True.intro | exact rfl | refine SLe0.int ?_ | fail)
  all_goals skip
 rw [chkP, if_neg (by rw [hb]; simp)]
 repeat' (first | apply zC | apply zA | apply zB | refine zF qS qR ?_ ?_ | refine zL K94 qD ?_ ⟨_, _, _, rfl, rfl⟩ qS ?_ | refine zU 16 qR qS K94 qD (fun hg => ?_) (fun _ => ⟨_, _, _, rfl, rfl⟩) qS ?_ | refine zU 22 qR qS K94 qD (fun hg => ?_) (fun _ => ⟨_, _, _, rfl, rfl⟩) qS ?_ | refine zU 28 qR qS K94 qD (fun hg => ?_) (fun _ => ⟨_, _, _, rfl, rfl⟩) qS ?_ | refine zU 34 qR qS K94 qD (fun hg => ?_) (fun _ => ⟨_, _, _, rfl, rfl⟩) qS ?_ | refine zU 40 qR qS K94 qD (fun hg => ?_) (fun _ => ⟨_, _, _, rfl, rfl⟩) qS ?_ | exact True.intro | exact rfl | exact qP | fail)
 (refine zE qS ?_ ?_ <;> intro hb <;> have hc := hb <;> (try simp only [bF] at hc) <;> (try (exfalso; simp at hc; done)))
 ·have hb2 : rangesR p = true := hb
  rw [if_pos hb2]
  repeat' (first | apply zC | apply zA | apply zB | refine zF qS qR ?_ ?_ | refine zI qR ?_ | exact True.intro | exact rfl | refine SLe0.int ?_ | fail)
  all_goals skip
 have hb2 : rangesR p = false := hb
 rw [if_neg (by rw [hb2]; simp)]
 repeat' (first | apply zC | apply zA | apply zB | refine zF qS qR ?_ ?_ | refine zL K95 qD ?_ ⟨p.Name, hp.name, rfl, rfl⟩ qS ?_ | exact True.intro | exact rfl | fail)
 (refine zE qS ?_ ?_ <;> intro hb <;> have hc := hb <;> (try simp only [bF] at hc) <;> (try (exfalso; simp at hc; done)))
 ·rw [if_pos hb]
  repeat' (first | apply zC | apply zA | apply zB | refine zF qS qR ?_ ?_ | refine zI qR ?_ | exact True.intro | exact rfl | refine SLe0.int ?_ | fail)
  all_goals skip
 rw [if_neg (by rw [hb]; simp)]
 repeat' (first | apply zC | apply zG | apply zK | apply zA | apply zB | refine zF qS qR ?_ ?_ | refine zL K96x qD ?_ ⟨p.Need, hp.need, rfl, rfl⟩ qS ?_ | exact True.intro | exact rfl | fail)
 (refine zE qS ?_ ?_ <;> intro hb <;> have hc := hb <;> (try simp only [bF] at hc) <;> (try (exfalso; simp at hc; done)))
 ·have hz : ¬ chkQ (nodesF d 1 p.Need) = 0 := by simpa using hb
  rw [if_neg hz]
  repeat' (first | apply zC | apply zA | apply zB | refine zF qS qR ?_ ?_ | refine zI qR ?_ | exact True.intro | exact rfl | refine SLe0.int ?_ | fail)
  all_goals skip
 have hz : chkQ (nodesF d 1 p.Need) = 0 := by simpa using hb
 rw [if_pos hz]
 clear hz
 repeat' (first | apply zC | apply zG | apply zA | apply zB | refine zF qS qR ?_ ?_ | exact True.intro | exact rfl | fail)
 (refine zE qS ?_ ?_ <;> intro hb <;> have hc := hb <;> (try simp only [bF] at hc) <;> (try (exfalso; simp at hc; done)))
 ·rw [if_pos hb]
  repeat' (first | apply zC | apply zA | apply zB | refine zF qS qR ?_ ?_ | refine zI qR ?_ | exact True.intro | exact rfl | refine SLe0.int ?_ | fail)
  all_goals skip
 rw [if_neg (by rw [hb]; simp)]
 have hl8 : p.Exclude.length ≤ 8 := by
  have := of_decide_eq_false hb
  omega
 clear K96x hb2
 repeat' (first | apply zC | apply zG | apply zD | apply zA | apply zB | refine zF qS qR ?_ ?_ | exact True.intro | exact rfl | fail)
 refine zM [0, 1, 62, 63] (fun x : Nat × Unit => [(64, .int .i64 x.1)]) (fun x : Nat × Unit => []) (fun x : Nat × Unit => x.1 ≤ p.Exclude.length ∧ exclF p.Exclude p.Exclude 0 = exclF p.Exclude (p.Exclude.drop x.1) x.1) (fun x : Nat × Unit => p.Exclude.length - x.1) (0, ()) (fun x => qS) ?_ qL qL ?_
 ·exact ⟨Nat.zero_le _, rfl⟩
 rintro ⟨k, _⟩ ⟨g1, g2⟩
 simp only at g1 g2
 repeat' (first | apply zC | apply zA | apply zB | refine zF qS qR ?_ ?_ | exact True.intro | exact rfl | fail)
 (refine zE qS ?_ ?_ <;> intro hb <;> have hc := hb <;> (try simp only [bF] at hc) <;> (try (exfalso; simp at hc; done)))
 ·have hk : k < p.Exclude.length := by assumption
  obtain ⟨hc1, hc2⟩ := hp.excl _ (getD_mem' hk)
  rw [drop_get _ _ hk, exclF] at g2
  repeat' (first | apply zC | apply zG | apply zD | apply zA | apply zB | refine zF qS qR ?_ ?_ | refine zL K97 qD ?_ ⟨_, hc1, rfl, rfl⟩ qS ?_ | refine zU 74 qR qS K97 qD (fun hg => ?_) (fun _ => ⟨_, hc2, rfl, rfl⟩) qS ?_ | exact True.intro | exact rfl | exact qP | fail)
  (refine zE qS ?_ ?_ <;> intro hb <;> have hc := hb <;> (try simp only [bF] at hc) <;> (try (exfalso; simp at hc; done)))
  ·rw [if_pos hb] at g2
   rw [g2]
   repeat' (first | apply zC | apply zA | apply zB | refine zF qS qR ?_ ?_ | refine zI qR ?_ | exact True.intro | exact rfl | refine SLe0.int ?_ | fail)
   all_goals skip
  rw [if_neg (by rw [hb]; simp)] at g2
  repeat' (first | apply zC | apply zA | apply zB | refine zF (by simp only [go_sem, cmpC_ge]; rfl) qR ?_ ?_ | refine zL K98 (by simp only [go_sem, cmpC_ge]; first | done | rfl) ?_ ⟨_, _, rfl, rfl⟩ (by simp only [go_sem, cmpC_ge]; rfl) ?_ | exact True.intro | exact rfl | exact qP | fail)
  (refine zE qS ?_ ?_ <;> intro hb <;> have hc := hb <;> (try simp only [bF] at hc) <;> (try (exfalso; simp at hc; done)))
  ·have hb3 : (!precR (p.Exclude.getD k default).1 (p.Exclude.getD k default).2) = true := hb
   rw [if_pos hb3] at g2
   rw [g2]
   repeat' (first | apply zC | apply zA | apply zB | refine zF qS qR ?_ ?_ | refine zI qR ?_ | exact True.intro | exact rfl | refine SLe0.int ?_ | fail)
   all_goals skip
  have hb3 : (!precR (p.Exclude.getD k default).1 (p.Exclude.getD k default).2) = false := hb
  rw [if_neg (by rw [hb3]; simp)] at g2
  repeat' (first | apply zC | apply zO | refine zT qS qR ?_ ?_ | refine zP qK qK ?_ | refine zW K99t qD ?_ ⟨_, k, _, hk, rfl, rfl⟩ qS ?_ | exact True.intro | exact qP | fail)
  (refine zE qS ?_ ?_ <;> intro hb <;> have hc := hb <;> (try simp only [bF] at hc) <;> (try (exfalso; simp at hc; done)))
  ·rw [if_pos hb] at g2
   rw [g2]
   repeat' (first | apply zC | apply zA | apply zB | refine zF qS qR ?_ ?_ | refine zI qR ?_ | exact True.intro | exact rfl | refine SLe0.int ?_ | fail)
   all_goals skip
  ·rw [if_neg (by rw [hb]; simp)] at g2
   repeat' (first | apply zG | apply zK | apply zA | apply zB | refine zF qS qR ?_ ?_ | refine zR (k+1,()) ?_ ?_ ⟨rfl, qL, qL⟩ | exact True.intro | exact rfl | omega)
   exact ⟨by simp only; omega, g2⟩
 ·rw [List.drop_of_length_le (by omega), exclF] at g2
  rw [g2]
  repeat' (first | apply zC | apply zA | apply zB | refine zF qS qR ?_ ?_ | refine zI qR ?_ | refine zJ qR ?_ | exact True.intro | exact rfl | refine SLe0.int ?_ | fail)
  all_goals skip
end Go.Sx
