/- Part of the proof that the laws of the judge return true for every input: J30, J31. -/
import Derived.Test.YtmbocmonhcplhaaGreatJ27
import Derived.Test.YtmbocmonhcplhaaGreatJ29
import Derived.Test.YtmbocmonhcplhaaGreatS4
set_option linter.all false
namespace Go.Sx
open Go.Proofs Go.RowKit
attribute [local irreducible] Run RunL RunD OpT SLe0 SLe OLe
set_option maxHeartbeats 2000000
set_option maxRecDepth 8000
set_option maxHeartbeats 20000000
theorem K96 (d : Nat) (hd : 1 + d ≤ 100) : FnOK Tryz.prog 96 (fun ds v => ∃ n : Need, WOk d n ∧ ds = [eNeedU n] ∧ v = eInt (chkQ (nodesF d 1 n))) := by
 have K143x := K143 d hd
 have K144x := K144 d hd
 refine fn_intro Tryz.call96 Tryz.func96 rfl Tryz.ntmps96 ?_
 rintro ds d ⟨n, hn, rfl, rfl⟩
 refine ⟨by simp, fun w0 => ?_⟩
 have hlen := hn.2
 have hok : ∀ x ∈ nodesF d 1 n, SetOk x.1 := fun x hx => (nodesF_ok d 1 n hn.1 x hx).1.set
 generalize hqs : nodesF d 1 n = qs at hlen hok
 have hll := lvs_len qs
 by_cases m1 : (decide (24 < (qs.length : Int)) || decide (5 < ((deepQ qs : Nat) : Int)) || !(decide (1 ≤ ((cntL qs : Nat) : Int)) && decide (((cntL qs : Nat) : Int) ≤ 8))) = true
 ·rw [chkQ, if_pos m1]
  repeat' (first | apply zC | apply zA | apply zB | refine zF (by simp only [go_sem, hqs, m1, hll]; rfl) qR ?_ ?_ | refine zM K143x (by simp only [go_sem, hqs, m1, hll]; first | done | rfl) ?_ ⟨n, hn, rfl, rfl⟩ (by simp only [go_sem, hqs, m1, hll]; rfl) ?_ | refine zV 29 qR (by simp only [go_sem, hqs, m1, hll]; rfl) K144x (by simp only [go_sem, hqs, m1, hll]; first | done | rfl) (fun hg => ?_) (fun _ => ⟨n, hn, rfl, rfl⟩) (by simp only [go_sem, hqs, m1, hll]; rfl) ?_ | refine zV 29 qR (by simp only [go_sem, hqs, m1, hll]; rfl) K94 (by simp only [go_sem, hqs, m1, hll]; first | done | rfl) (fun hg => ?_) (fun _ => ⟨_, _, _, rfl, rfl⟩) (by simp only [go_sem, hqs, m1, hll]; rfl) ?_ | (refine zE (by simp only [go_sem, hqs, m1, hll]; rfl) ?_ ?_ <;> intro hb <;> have hc := hb <;> (try simp only [bF] at hc) <;> (try (exfalso; simp at hc; done))) | refine zI qR ?_ | exact True.intro | exact rfl | refine SLe0.int ?_ | exact qP | fail)
  all_goals skip
 ·have m1' := Bool.eq_false_iff.2 m1
  rw [chkQ, if_neg m1]
  repeat' (first | apply zC | apply zG | apply zD | apply zA | apply zB | refine zF (by simp only [go_sem, hqs, m1', hll]; rfl) qR ?_ ?_ | refine zM K143x (by simp only [go_sem, hqs, m1', hll]; first | done | rfl) ?_ ⟨n, hn, rfl, rfl⟩ (by simp only [go_sem, hqs, m1', hll]; rfl) ?_ | refine zV 29 qR (by simp only [go_sem, hqs, m1', hll]; rfl) K144x (by simp only [go_sem, hqs, m1', hll]; first | done | rfl) (fun hg => ?_) (fun _ => ⟨n, hn, rfl, rfl⟩) (by simp only [go_sem, hqs, m1', hll]; rfl) ?_ | refine zV 29 qR (by simp only [go_sem, hqs, m1', hll]; rfl) K94 (by simp only [go_sem, hqs, m1', hll]; first | done | rfl) (fun hg => ?_) (fun _ => ⟨_, _, _, rfl, rfl⟩) (by simp only [go_sem, hqs, m1', hll]; rfl) ?_ | refine zM K145 (by simp only [go_sem, hqs, m1', hll]; first | done | rfl) ?_ ⟨rfl, rfl⟩ (by simp only [go_sem, hqs, m1', hll]; rfl) ?_ | (refine zE (by simp only [go_sem, hqs, m1', hll]; rfl) ?_ ?_ <;> intro hb <;> have hc := hb <;> (try simp only [bF] at hc) <;> (try (exfalso; simp at hc; done))) | exact True.intro | exact rfl | exact qP | fail)
  refine zN [0, 1, 2, 6, 37, 38] (fun x : Nat × Unit => [(39, .int .i64 x.1)]) (fun x : Nat × Unit => []) (fun x : Nat × Unit => x.1 ≤ qs.length ∧ errF qs = errF (qs.drop x.1)) (fun x : Nat × Unit => qs.length - x.1) (0, ()) (fun x => qS) ?_ qL qL ?_
  ·exact ⟨Nat.zero_le _, rfl⟩
  rintro ⟨i, _⟩ ⟨g6, g7⟩
  simp only at g6 g7
  repeat' (first | apply zC | apply zA | apply zB | refine zF qS qR ?_ ?_ | exact True.intro | exact rfl | fail)
  (refine zE qS ?_ ?_ <;> intro hb <;> have hc := hb <;> (try simp only [bF] at hc) <;> (try (exfalso; simp at hc; done)))
  ·have hi : i < qs.length := by assumption
   have hed : errF (qs.drop i) = if oneR (qs.getD i default).1 = 0 then errF (qs.drop (i + 1)) else oneR (qs.getD i default).1 := by
    rw [List.drop_eq_getElem_cons hi, errF, List.getD_eq_getElem?_getD, List.getElem?_eq_getElem hi]; rfl
   have hx := hok _ (getD_mem' hi)
   by_cases k1 : (qs.getD i default).1.Kind = 1
   ·have kd : kDom (MK.i (qs.getD i default).1.Kind) = true := by rw [k1]; rfl
    have kf : kF (MK.i (qs.getD i default).1.Kind) = .agg [.fn 189 []] := by rw [k1]; rfl
    have hv : FnV Tryz.prog 189 [] [eNeed (qs.getD i default).1] (eInt (oneR (qs.getD i default).1)) := ⟨_, K189, _, ⟨hx, k1⟩, rfl, rfl⟩
    repeat' (first | apply zC | apply zG | apply zD | apply zL | apply zA | apply zB | refine zF (by simp only [go_sem, kd, kf]; rfl) qR ?_ ?_ | refine steplkB true (by simp only [go_sem, kd, kf]; rfl) (by simp only [go_sem, kd, kf]; first | done | rfl) (by simp only [go_sem, kd, kf]; first | done | rfl) (by simp only [go_sem, kd, kf]; first | done | rfl) (by simp only [go_sem, kd, kf]; first | done | rfl) (by simp only [go_sem, kd, kf]; first | done | rfl) ?_ (by simp only [go_sem, kd, kf]; rfl) ?_ | refine yD (hv) (by simp only [go_sem, kd, kf]) (by simp only [go_sem, kd, kf]) ?_ (by simp only [go_sem, kd, kf]; rfl) ?_ | (refine zE (by simp only [go_sem, kd, kf]; rfl) ?_ ?_ <;> intro hb <;> have hc := hb <;> (try simp only [bF] at hc) <;> (try (exfalso; simp at hc; done))) | refine zI qR ?_ | refine zS (i+1,()) ?_ ?_ ⟨rfl, qL, qL⟩ | exact True.intro | exact rfl | omega | refine SLe0.int ?_ | exact qP | fail)
    exact ⟨by simp only; omega, by rw [g7, hed, if_pos hc]⟩
   by_cases k2 : (qs.getD i default).1.Kind = 2
   ·have kd : kDom (MK.i (qs.getD i default).1.Kind) = true := by rw [k2]; rfl
    have kf : kF (MK.i (qs.getD i default).1.Kind) = .agg [.fn 191 []] := by rw [k2]; rfl
    have hv : FnV Tryz.prog 191 [] [eNeed (qs.getD i default).1] (eInt (oneR (qs.getD i default).1)) := ⟨_, K191, _, ⟨hx, k2⟩, rfl, rfl⟩
    repeat' (first | apply zC | apply zG | apply zD | apply zL | apply zA | apply zB | refine zF (by simp only [go_sem, kd, kf]; rfl) qR ?_ ?_ | refine steplkB true (by simp only [go_sem, kd, kf]; rfl) (by simp only [go_sem, kd, kf]; first | done | rfl) (by simp only [go_sem, kd, kf]; first | done | rfl) (by simp only [go_sem, kd, kf]; first | done | rfl) (by simp only [go_sem, kd, kf]; first | done | rfl) (by simp only [go_sem, kd, kf]; first | done | rfl) ?_ (by simp only [go_sem, kd, kf]; rfl) ?_ | refine yD (hv) (by simp only [go_sem, kd, kf]) (by simp only [go_sem, kd, kf]) ?_ (by simp only [go_sem, kd, kf]; rfl) ?_ | (refine zE (by simp only [go_sem, kd, kf]; rfl) ?_ ?_ <;> intro hb <;> have hc := hb <;> (try simp only [bF] at hc) <;> (try (exfalso; simp at hc; done))) | refine zI qR ?_ | refine zS (i+1,()) ?_ ?_ ⟨rfl, qL, qL⟩ | exact True.intro | exact rfl | omega | refine SLe0.int ?_ | exact qP | fail)
    exact ⟨by simp only; omega, by rw [g7, hed, if_pos hc]⟩
   by_cases k3 : (qs.getD i default).1.Kind = 3
   ·have kd : kDom (MK.i (qs.getD i default).1.Kind) = true := by rw [k3]; rfl
    have kf : kF (MK.i (qs.getD i default).1.Kind) = .agg [.fn 192 [.fp [.fn 188 []]]] := by rw [k3]; rfl
    have hv : FnV Tryz.prog 192 [.fp [.fn 188 []]] [eNeed (qs.getD i default).1] (eInt (oneR (qs.getD i default).1)) := ⟨_, K192, _, ⟨hx, k3⟩, rfl, rfl⟩
    repeat' (first | apply zC | apply zG | apply zD | apply zL | apply zA | apply zB | refine zF (by simp only [go_sem, kd, kf]; rfl) qR ?_ ?_ | refine steplkB true (by simp only [go_sem, kd, kf]; rfl) (by simp only [go_sem, kd, kf]; first | done | rfl) (by simp only [go_sem, kd, kf]; first | done | rfl) (by simp only [go_sem, kd, kf]; first | done | rfl) (by simp only [go_sem, kd, kf]; first | done | rfl) (by simp only [go_sem, kd, kf]; first | done | rfl) ?_ (by simp only [go_sem, kd, kf]; rfl) ?_ | refine yD (hv) (by simp only [go_sem, kd, kf]) (by simp only [go_sem, kd, kf]) ?_ (by simp only [go_sem, kd, kf]; rfl) ?_ | (refine zE (by simp only [go_sem, kd, kf]; rfl) ?_ ?_ <;> intro hb <;> have hc := hb <;> (try simp only [bF] at hc) <;> (try (exfalso; simp at hc; done))) | refine zI qR ?_ | refine zS (i+1,()) ?_ ?_ ⟨rfl, qL, qL⟩ | exact True.intro | exact rfl | omega | refine SLe0.int ?_ | exact qP | fail)
    exact ⟨by simp only; omega, by rw [g7, hed, if_pos hc]⟩
   by_cases k4 : (qs.getD i default).1.Kind = 4
   ·have kd : kDom (MK.i (qs.getD i default).1.Kind) = true := by rw [k4]; rfl
    have kf : kF (MK.i (qs.getD i default).1.Kind) = .agg [.fn 193 [.fp [.fn 188 []]]] := by rw [k4]; rfl
    have hv : FnV Tryz.prog 193 [.fp [.fn 188 []]] [eNeed (qs.getD i default).1] (eInt (oneR (qs.getD i default).1)) := ⟨_, K193, _, ⟨hx, k4⟩, rfl, rfl⟩
    repeat' (first | apply zC | apply zG | apply zD | apply zL | apply zA | apply zB | refine zF (by simp only [go_sem, kd, kf]; rfl) qR ?_ ?_ | refine steplkB true (by simp only [go_sem, kd, kf]; rfl) (by simp only [go_sem, kd, kf]; first | done | rfl) (by simp only [go_sem, kd, kf]; first | done | rfl) (by simp only [go_sem, kd, kf]; first | done | rfl) (by simp only [go_sem, kd, kf]; first | done | rfl) (by simp only [go_sem, kd, kf]; first | done | rfl) ?_ (by simp only [go_sem, kd, kf]; rfl) ?_ | refine yD (hv) (by simp only [go_sem, kd, kf]) (by simp only [go_sem, kd, kf]) ?_ (by simp only [go_sem, kd, kf]; rfl) ?_ | (refine zE (by simp only [go_sem, kd, kf]; rfl) ?_ ?_ <;> intro hb <;> have hc := hb <;> (try simp only [bF] at hc) <;> (try (exfalso; simp at hc; done))) | refine zI qR ?_ | refine zS (i+1,()) ?_ ?_ ⟨rfl, qL, qL⟩ | exact True.intro | exact rfl | omega | refine SLe0.int ?_ | exact qP | fail)
    exact ⟨by simp only; omega, by rw [g7, hed, if_pos hc]⟩
   have kd : kDom (MK.i (qs.getD i default).1.Kind) = false := by simp only [kDom, addK, MKi]; simp only [k1, k2, k3, k4, decide_false, Bool.or_self]
   have k13 : oneR (qs.getD i default).1 = 13 := by rw [oneR, if_neg k1, if_neg k2, if_neg k3, if_neg k4]
   have hz0 : (#[Value.nilFunc].all (fun a => a.oneCell') 0 1) = true := by first | kernel_rfl | simp [Value.oneCell'] | decide
   repeat' (first | apply zC | apply zG | apply zD | apply zA | apply zB | refine zF (by simp only [go_sem, kd, hz0]; rfl) qR ?_ ?_ | refine steplkB false (by simp only [go_sem, kd, hz0]; rfl) (by simp only [go_sem, kd, hz0]; first | done | rfl) (by simp only [go_sem, kd, hz0]; first | done | rfl) (by simp only [go_sem, kd, hz0]; first | done | rfl) (by simp only [go_sem, kd, hz0]; first | done | rfl) (by simp only [go_sem, kd, hz0]; first | done | rfl) ?_ (by simp only [go_sem, kd, hz0]; rfl) ?_ | (refine zE (by simp only [go_sem, kd, hz0]; rfl) ?_ ?_ <;> intro hb <;> have hc := hb <;> (try simp only [bF] at hc) <;> (try (exfalso; simp at hc; done))) | refine zI qR ?_ | exact True.intro | exact rfl | omega | refine SLe0.int ?_ | exact qP | fail)
   all_goals (rw [g7, hed, k13]; rfl)
  ·repeat' (first | apply zC | apply zA | apply zB | refine zF qS qR ?_ ?_ | refine zI qR ?_ | refine zK qR ?_ | exact True.intro | exact rfl | refine SLe0.int ?_ | fail)
   rw [g7, List.drop_of_length_le (by omega)]; rfl
end Go.Sx
namespace Go.Sx
open Go.Proofs Go.RowKit
attribute [local irreducible] Run RunL RunD OpT SLe0 SLe OLe
set_option maxHeartbeats 2000000
set_option maxRecDepth 8000
set_option maxHeartbeats 20000000
@[go_sem] theorem plT161a : plT Tryz.prog 161 0 = some (0, 2) := by kernel_rfl
@[go_sem] theorem plT161b : plT Tryz.prog 161 1 = some (2, 2) := by kernel_rfl
@[go_sem] theorem tn0 : Int.toNat 0 = 0 := rfl
@[go_sem] theorem tn1 : Int.toNat 1 = 1 := rfl
structure POk (d : Nat) (p : Programme) : Prop where
 need : WOk d p.Need
 name : p.Name.size ≤ 100000
 excl : ∀ x ∈ p.Exclude, Asc x.1.Code ∧ Asc x.2.Code
def rangesR (p : Programme) : Bool := !(decide (1 ≤ p.Id) && decide (p.Id ≤ 999999)) || !(decide (1 ≤ p.Version) && decide (p.Version ≤ 20)) || !(decide (0 ≤ p.From) && decide (p.From ≤ 100000)) || !(decide (0 ≤ p.Total) && decide (p.Total ≤ 600)) || !(decide (0 ≤ p.Own) && decide (p.Own ≤ 600)) || !(decide (0 ≤ p.Age) && decide (p.Age ≤ 100))
def exclF (l : List (Course × Course)) : List (Course × Course) → Nat → Int
 | [], _ => 0
 | x :: r, k => if !rightR x.1 || !rightR x.2 then 1 else if !precR x.1 x.2 then 7 else if (l.take k).any (fun y => sameP x y) then 6 else exclF l r (k + 1)
def chkP (d : Nat) (p : Programme) : Int :=
 if !(decide (1 ≤ p.School) && decide (p.School ≤ 8)) then 1
 else if rangesR p then 3
 else if !nameB p.Name then 1
 else if chkQ (nodesF d 1 p.Need) = 0 then (if decide (8 < (p.Exclude.length : Int)) then 2 else exclF p.Exclude p.Exclude 0)
 else chkQ (nodesF d 1 p.Need)
theorem K48 (d : Nat) (hd : 1 + d ≤ 100) : FnOK Tryz.prog 48 (fun ds v => ∃ p : Programme, POk d p ∧ ds = [eProg p] ∧ v = eInt (chkP d p)) := by
 have K108x := K108 d hd
 refine fn_intro Tryz.call48 Tryz.func48 rfl Tryz.ntmps48 ?_
 rintro ds d ⟨p, hp, rfl, rfl⟩
 refine ⟨by simp, fun w0 => ?_⟩
 repeat' (first | apply zC | apply zA | apply zB | refine zF qS qR ?_ ?_ | refine zM K106 qD ?_ ⟨_, _, _, rfl, rfl⟩ qS ?_ | exact True.intro | exact rfl | fail)
 (refine zE qS ?_ ?_ <;> intro hb <;> have hc := hb <;> (try simp only [bF] at hc) <;> (try (exfalso; simp at hc; done)))
 ·rw [chkP, if_pos hb]
  repeat' (first | apply zC | apply zA | apply zB | refine zF qS qR ?_ ?_ | refine zI qR ?_ | exact True.intro | exact rfl | refine SLe0.int ?_ | fail)
  all_goals skip
 rw [chkP, if_neg (by rw [hb]; simp)]
 repeat' (first | apply zC | apply zG | apply zA | apply zB | refine zF qS qR ?_ ?_ | refine zM K106 qD ?_ ⟨_, _, _, rfl, rfl⟩ qS ?_ | refine zV 14 qR qS K106 qD (fun hg => ?_) (fun _ => ⟨_, _, _, rfl, rfl⟩) qS ?_ | refine zV 20 qR qS K106 qD (fun hg => ?_) (fun _ => ⟨_, _, _, rfl, rfl⟩) qS ?_ | refine zV 26 qR qS K106 qD (fun hg => ?_) (fun _ => ⟨_, _, _, rfl, rfl⟩) qS ?_ | refine zV 32 qR qS K106 qD (fun hg => ?_) (fun _ => ⟨_, _, _, rfl, rfl⟩) qS ?_ | refine zV 38 qR qS K106 qD (fun hg => ?_) (fun _ => ⟨_, _, _, rfl, rfl⟩) qS ?_ | exact True.intro | exact rfl | exact qP | fail)
 (refine zE qS ?_ ?_ <;> intro hb <;> have hc := hb <;> (try simp only [bF] at hc) <;> (try (exfalso; simp at hc; done)))
 ·have hb2 : rangesR p = true := hb
  rw [if_pos hb2]
  repeat' (first | apply zC | apply zA | apply zB | refine zF qS qR ?_ ?_ | refine zI qR ?_ | exact True.intro | exact rfl | refine SLe0.int ?_ | fail)
  all_goals skip
 have hb2 : rangesR p = false := hb
 rw [if_neg (by rw [hb2]; simp)]
 repeat' (first | apply zC | apply zG | apply zA | apply zB | refine zF qS qR ?_ ?_ | refine zM K107 qD ?_ ⟨p.Name, hp.name, rfl, rfl⟩ qS ?_ | exact True.intro | exact rfl | fail)
 (refine zE qS ?_ ?_ <;> intro hb <;> have hc := hb <;> (try simp only [bF] at hc) <;> (try (exfalso; simp at hc; done)))
 ·rw [if_pos hb]
  repeat' (first | apply zC | apply zA | apply zB | refine zF qS qR ?_ ?_ | refine zI qR ?_ | exact True.intro | exact rfl | refine SLe0.int ?_ | fail)
  all_goals skip
 rw [if_neg (by rw [hb]; simp)]
 repeat' (first | apply zC | apply zG | apply zA | apply zB | refine zF qS qR ?_ ?_ | refine zM K108x qD ?_ ⟨p.Need, hp.need, rfl, rfl⟩ qS ?_ | exact True.intro | exact rfl | fail)
 (refine zE qS ?_ ?_ <;> intro hb <;> have hc := hb <;> (try simp only [bF] at hc) <;> (try (exfalso; simp at hc; done)))
 ·have hz : ¬ chkQ (nodesF d 1 p.Need) = 0 := by simpa using hb
  rw [if_neg hz]
  repeat' (first | apply zC | apply zA | apply zB | refine zF qS qR ?_ ?_ | refine zI qR ?_ | exact True.intro | exact rfl | refine SLe0.int ?_ | fail)
  all_goals skip
 have hz : chkQ (nodesF d 1 p.Need) = 0 := by simpa using hb
 rw [if_pos hz]
 clear hz
 repeat' (first | apply zC | apply zG | apply zA | apply zB | refine zF qS qR ?_ ?_ | exact True.intro | exact rfl | fail)
 (refine zE qS ?_ ?_ <;> intro hb <;> have hc := hb <;> (try simp only [bF] at hc) <;> (try (exfalso; simp at hc; done)))
 ·rw [if_pos hb]
  repeat' (first | apply zC | apply zA | apply zB | refine zF qS qR ?_ ?_ | refine zI qR ?_ | exact True.intro | exact rfl | refine SLe0.int ?_ | fail)
  all_goals skip
 rw [if_neg (by rw [hb]; simp)]
 have hl8 : p.Exclude.length ≤ 8 := by
  have := of_decide_eq_false hb
  omega
 clear K108x hb2
 repeat' (first | apply zC | apply zG | apply zD | apply zA | apply zB | refine zF qS qR ?_ ?_ | exact True.intro | exact rfl | fail)
 refine zN [0, 1] (fun x : Nat × Unit => [(4, .int .i64 x.1)]) (fun x : Nat × Unit => []) (fun x : Nat × Unit => x.1 ≤ p.Exclude.length ∧ exclF p.Exclude p.Exclude 0 = exclF p.Exclude (p.Exclude.drop x.1) x.1) (fun x : Nat × Unit => p.Exclude.length - x.1) (0, ()) (fun x => qS) ?_ qL qL ?_
 ·exact ⟨Nat.zero_le _, rfl⟩
 rintro ⟨k, _⟩ ⟨g1, g2⟩
 simp only at g1 g2
 repeat' (first | apply zC | apply zA | apply zB | refine zF qS qR ?_ ?_ | exact True.intro | exact rfl | fail)
 (refine zE qS ?_ ?_ <;> intro hb <;> have hc := hb <;> (try simp only [bF] at hc) <;> (try (exfalso; simp at hc; done)))
 ·have hk : k < p.Exclude.length := by assumption
  obtain ⟨hc1, hc2⟩ := hp.excl _ (getD_mem' hk)
  rw [drop_get _ _ hk, exclF] at g2
  repeat' (first | apply zC | apply zG | apply zD | apply zA | apply zB | refine zF qS qR ?_ ?_ | refine zM K109 qD ?_ ⟨_, hc1, rfl, rfl⟩ qS ?_ | refine zV 73 qR qS K109 qD (fun hg => ?_) (fun _ => ⟨_, hc2, rfl, rfl⟩) qS ?_ | exact True.intro | exact rfl | exact qP | fail)
  (refine zE qS ?_ ?_ <;> intro hb <;> have hc := hb <;> (try simp only [bF] at hc) <;> (try (exfalso; simp at hc; done)))
  ·rw [if_pos hb] at g2
   rw [g2]
   repeat' (first | apply zC | apply zA | apply zB | refine zF qS qR ?_ ?_ | refine zI qR ?_ | exact True.intro | exact rfl | refine SLe0.int ?_ | fail)
   all_goals skip
  rw [if_neg (by rw [hb]; simp)] at g2
  repeat' (first | apply zC | apply zG | apply zP | refine zU qS qR ?_ ?_ | refine zQ qK qK ?_ | refine zX K92 qD ?_ ⟨_, _, rfl, rfl⟩ qS ?_ | exact True.intro | exact qP | fail)
  (refine zE qS ?_ ?_ <;> intro hb <;> have hc := hb <;> (try simp only [bF] at hc) <;> (try (exfalso; simp at hc; done)))
  ·have hb3 : (!precR (p.Exclude.getD k default).1 (p.Exclude.getD k default).2) = true := hb
   rw [if_pos hb3] at g2
   rw [g2]
   repeat' (first | apply zC | apply zA | apply zB | refine zF qS qR ?_ ?_ | refine zI qR ?_ | exact True.intro | exact rfl | refine SLe0.int ?_ | fail)
   all_goals skip
  have hb3 : (!precR (p.Exclude.getD k default).1 (p.Exclude.getD k default).2) = false := hb
  rw [if_neg (by rw [hb3]; simp)] at g2
  repeat' (first | apply zC | apply zG | apply zD | apply zA | apply zB | refine zF qS qR ?_ ?_ | exact True.intro | exact rfl | fail)
  refine zN [0, 1, 4] (fun x : Nat × Unit => [(5, .int .i64 x.1)]) (fun x : Nat × Unit => []) (fun x : Nat × Unit => x.1 ≤ k ∧ ((p.Exclude.take k).any fun y => sameP (p.Exclude.getD k default) y) = (((p.Exclude.take k).drop x.1).any fun y => sameP (p.Exclude.getD k default) y)) (fun x : Nat × Unit => k - x.1) (0, ()) (fun x => qS) ?_ qL qL ?_
  ·exact ⟨Nat.zero_le _, rfl⟩
  rintro ⟨i, _⟩ ⟨q1, q2⟩
  simp only at q1 q2
  repeat' (first | apply zC | apply zA | apply zB | refine zF qS qR ?_ ?_ | exact True.intro | exact rfl | fail)
  (refine zE qS ?_ ?_ <;> intro hb <;> have hc := hb <;> (try simp only [bF] at hc) <;> (try (exfalso; simp at hc; done)))
  ·have hi : i < k := by assumption
   have htd : (p.Exclude.take k).drop i = p.Exclude.getD i default :: (p.Exclude.take k).drop (i + 1) := by
    rw [List.drop_eq_getElem_cons (by rw [List.length_take]; omega), List.getElem_take, List.getD_eq_getElem?_getD, List.getElem?_eq_getElem (by omega)]; rfl
   rw [htd, List.any_cons, sameP_comm] at q2
   repeat' (first | apply zC | apply zG | apply zD | apply zP | refine zU qS qR ?_ ?_ | refine zQ qK qK ?_ | exact qP | fail)
   (refine zE qS ?_ ?_ <;> intro hb <;> have hc := hb <;> (try simp only [bF] at hc) <;> (try (exfalso; simp at hc; done)))
   ·have n3 : sameP (p.Exclude.getD i default) (p.Exclude.getD k default) = true := hb
    rw [n3, Bool.true_or] at q2
    rw [q2, if_pos rfl] at g2
    rw [g2]
    repeat' (first | apply zC | apply zA | apply zB | refine zF qS qR ?_ ?_ | refine zI qR ?_ | exact True.intro | exact rfl | refine SLe0.int ?_ | fail)
    all_goals skip
   ·have n3 : sameP (p.Exclude.getD i default) (p.Exclude.getD k default) = false := hb
    rw [n3, Bool.false_or] at q2
    repeat' (first | apply zG | apply zL | apply zA | apply zB | refine zF qS qR ?_ ?_ | refine zS (i+1,()) ?_ ?_ ⟨rfl, qL, qL⟩ | exact True.intro | exact rfl | omega)
    exact ⟨by simp only; omega, q2⟩
  ·rw [List.drop_of_length_le (by rw [List.length_take]; omega), List.any_nil] at q2
   rw [q2, if_neg (by simp)] at g2
   repeat' (first | apply zL | apply zA | apply zB | refine zF qS qR ?_ ?_ | refine zK qR ?_ | refine zS (k+1,()) ?_ ?_ ⟨rfl, qL, qL⟩ | exact True.intro | exact rfl | omega)
   exact ⟨by simp only; omega, g2⟩
 ·rw [List.drop_of_length_le (by omega), exclF] at g2
  rw [g2]
  repeat' (first | apply zC | apply zA | apply zB | refine zF qS qR ?_ ?_ | refine zI qR ?_ | refine zK qR ?_ | exact True.intro | exact rfl | refine SLe0.int ?_ | fail)
  all_goals skip
end Go.Sx
