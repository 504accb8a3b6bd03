/- Part of the proof that the laws of the judge return true for every input: J40, J41. -/
import Derived.Test.YtmbocmonhcplhaaGreatJ31
import Derived.Test.YtmbocmonhcplhaaGreatJ50
import Derived.Test.YtmbocmonhcplhaaGreatS3
set_option linter.all false
namespace Go.Sx
open Go.Proofs Go.RowKit
attribute [local irreducible] Run RunL RunD OpT SLe0 SLe OLe
set_option maxHeartbeats 2000000
set_option maxRecDepth 8000
set_option maxHeartbeats 20000000
theorem K99t : FnOK Tryz.prog 99 (fun ds d => ∃ (a : List (Course × Course)) (k : Nat) (x : Course × Course), k < a.length ∧ ds = [.list 4 k (fun i => ePair (a.getD i default)), ePair x] ∧ d = .bool ((a.take k).any fun y => sameP x y)) := by
 refine argLe' K99 ?_
 rintro ds v ⟨a, k, x, hk, rfl, rfl⟩
 refine ⟨_, ⟨a.take k, x, rfl, rfl⟩, fun h e vs hv => ?_⟩
 exact SLeL.repT (l := [.list 4 k (fun i => ePair (a.getD i default)), ePair x]) ⟨SLe.list (by rw [List.length_take]; omega) fun i hi => by
  simp only [List.getD_eq_getElem?_getD, List.getElem?_take, hi, if_true], SLe.refl _, trivial⟩ hv
theorem K40 (d : Nat) (hd : 1 + d ≤ 100) : FnOK Tryz.prog 40 (fun ds v => ∃ p : Programme, POk d p ∧ ds = [eProg p] ∧ v = eInt (chkP d p)) := by
 have K96x := K96 d hd
 refine fn_intro Tryz.call40 Tryz.func40 rfl Tryz.ntmps40 ?_
 rintro ds d ⟨p, hp, rfl, rfl⟩
 refine ⟨by simp, fun w0 => ?_⟩
 repeat' (first | apply zC | apply zD | apply zA | apply zB | refine zF qS qR ?_ ?_ | refine zM K94 qD ?_ ⟨_, _, _, rfl, rfl⟩ qS ?_ | exact True.intro | exact rfl | fail)
 (refine zE qS ?_ ?_ <;> intro hb <;> have hc := hb <;> (try simp only [bF] at hc) <;> (try (exfalso; simp at hc; done)))
 ·rw [chkP, if_pos hb]
  repeat' (first | apply zC | apply zA | apply zB | refine zF qS qR ?_ ?_ | refine zI qR ?_ | exact True.intro | exact rfl | refine SLe0.int ?_ | fail)
  all_goals skip
 rw [chkP, if_neg (by rw [hb]; simp)]
 repeat' (first | apply zC | apply zA | apply zB | refine zF qS qR ?_ ?_ | refine zM K94 qD ?_ ⟨_, _, _, rfl, rfl⟩ qS ?_ | refine zV 16 qR qS K94 qD (fun hg => ?_) (fun _ => ⟨_, _, _, rfl, rfl⟩) qS ?_ | refine zV 22 qR qS K94 qD (fun hg => ?_) (fun _ => ⟨_, _, _, rfl, rfl⟩) qS ?_ | refine zV 28 qR qS K94 qD (fun hg => ?_) (fun _ => ⟨_, _, _, rfl, rfl⟩) qS ?_ | refine zV 34 qR qS K94 qD (fun hg => ?_) (fun _ => ⟨_, _, _, rfl, rfl⟩) qS ?_ | refine zV 40 qR qS K94 qD (fun hg => ?_) (fun _ => ⟨_, _, _, rfl, rfl⟩) qS ?_ | exact True.intro | exact rfl | exact qP | fail)
 (refine zE qS ?_ ?_ <;> intro hb <;> have hc := hb <;> (try simp only [bF] at hc) <;> (try (exfalso; simp at hc; done)))
 ·have hb2 : rangesR p = true := hb
  rw [if_pos hb2]
  repeat' (first | apply zC | apply zA | apply zB | refine zF qS qR ?_ ?_ | refine zI qR ?_ | exact True.intro | exact rfl | refine SLe0.int ?_ | fail)
  all_goals skip
 have hb2 : rangesR p = false := hb
 rw [if_neg (by rw [hb2]; simp)]
 repeat' (first | apply zC | apply zA | apply zB | refine zF qS qR ?_ ?_ | refine zM K95 qD ?_ ⟨p.Name, hp.name, rfl, rfl⟩ qS ?_ | exact True.intro | exact rfl | fail)
 (refine zE qS ?_ ?_ <;> intro hb <;> have hc := hb <;> (try simp only [bF] at hc) <;> (try (exfalso; simp at hc; done)))
 ·rw [if_pos hb]
  repeat' (first | apply zC | apply zA | apply zB | refine zF qS qR ?_ ?_ | refine zI qR ?_ | exact True.intro | exact rfl | refine SLe0.int ?_ | fail)
  all_goals skip
 rw [if_neg (by rw [hb]; simp)]
 repeat' (first | apply zC | apply zG | apply zL | apply zA | apply zB | refine zF qS qR ?_ ?_ | refine zM K96x qD ?_ ⟨p.Need, hp.need, rfl, rfl⟩ qS ?_ | exact True.intro | exact rfl | fail)
 (refine zE qS ?_ ?_ <;> intro hb <;> have hc := hb <;> (try simp only [bF] at hc) <;> (try (exfalso; simp at hc; done)))
 ·have hz : ¬ chkQ (nodesF d 1 p.Need) = 0 := by simpa using hb
  rw [if_neg hz]
  repeat' (first | apply zC | apply zA | apply zB | refine zF qS qR ?_ ?_ | refine zI qR ?_ | exact True.intro | exact rfl | refine SLe0.int ?_ | fail)
  all_goals skip
 have hz : chkQ (nodesF d 1 p.Need) = 0 := by simpa using hb
 rw [if_pos hz]
 clear hz
 repeat' (first | apply zC | apply zG | apply zA | apply zB | refine zF qS qR ?_ ?_ | exact True.intro | exact rfl | fail)
 (refine zE qS ?_ ?_ <;> intro hb <;> have hc := hb <;> (try simp only [bF] at hc) <;> (try (exfalso; simp at hc; done)))
 ·rw [if_pos hb]
  repeat' (first | apply zC | apply zA | apply zB | refine zF qS qR ?_ ?_ | refine zI qR ?_ | exact True.intro | exact rfl | refine SLe0.int ?_ | fail)
  all_goals skip
 rw [if_neg (by rw [hb]; simp)]
 have hl8 : p.Exclude.length ≤ 8 := by
  have := of_decide_eq_false hb
  omega
 clear K96x hb2
 repeat' (first | apply zC | apply zG | apply zD | apply zA | apply zB | refine zF qS qR ?_ ?_ | exact True.intro | exact rfl | fail)
 refine zN [0, 1, 62, 63] (fun x : Nat × Unit => [(64, .int .i64 x.1)]) (fun x : Nat × Unit => []) (fun x : Nat × Unit => x.1 ≤ p.Exclude.length ∧ exclF p.Exclude p.Exclude 0 = exclF p.Exclude (p.Exclude.drop x.1) x.1) (fun x : Nat × Unit => p.Exclude.length - x.1) (0, ()) (fun x => qS) ?_ qL qL ?_
 ·exact ⟨Nat.zero_le _, rfl⟩
 rintro ⟨k, _⟩ ⟨g1, g2⟩
 simp only at g1 g2
 repeat' (first | apply zC | apply zA | apply zB | refine zF qS qR ?_ ?_ | exact True.intro | exact rfl | fail)
 (refine zE qS ?_ ?_ <;> intro hb <;> have hc := hb <;> (try simp only [bF] at hc) <;> (try (exfalso; simp at hc; done)))
 ·have hk : k < p.Exclude.length := by assumption
  obtain ⟨hc1, hc2⟩ := hp.excl _ (getD_mem' hk)
  rw [drop_get _ _ hk, exclF] at g2
  repeat' (first | apply zC | apply zG | apply zD | apply zA | apply zB | refine zF qS qR ?_ ?_ | refine zM K97 qD ?_ ⟨_, hc1, rfl, rfl⟩ qS ?_ | refine zV 74 qR qS K97 qD (fun hg => ?_) (fun _ => ⟨_, hc2, rfl, rfl⟩) qS ?_ | exact True.intro | exact rfl | exact qP | fail)
  (refine zE qS ?_ ?_ <;> intro hb <;> have hc := hb <;> (try simp only [bF] at hc) <;> (try (exfalso; simp at hc; done)))
  ·rw [if_pos hb] at g2
   rw [g2]
   repeat' (first | apply zC | apply zA | apply zB | refine zF qS qR ?_ ?_ | refine zI qR ?_ | exact True.intro | exact rfl | refine SLe0.int ?_ | fail)
   all_goals skip
  rw [if_neg (by rw [hb]; simp)] at g2
  repeat' (first | apply zC | apply zA | apply zB | refine zF (by simp only [go_sem, cmpC_ge]; rfl) qR ?_ ?_ | refine zM K98 (by simp only [go_sem, cmpC_ge]; first | done | rfl) ?_ ⟨_, _, rfl, rfl⟩ (by simp only [go_sem, cmpC_ge]; rfl) ?_ | exact True.intro | exact rfl | exact qP | fail)
  (refine zE qS ?_ ?_ <;> intro hb <;> have hc := hb <;> (try simp only [bF] at hc) <;> (try (exfalso; simp at hc; done)))
  ·have hb3 : (!precR (p.Exclude.getD k default).1 (p.Exclude.getD k default).2) = true := hb
   rw [if_pos hb3] at g2
   rw [g2]
   repeat' (first | apply zC | apply zA | apply zB | refine zF qS qR ?_ ?_ | refine zI qR ?_ | exact True.intro | exact rfl | refine SLe0.int ?_ | fail)
   all_goals skip
  have hb3 : (!precR (p.Exclude.getD k default).1 (p.Exclude.getD k default).2) = false := hb
  rw [if_neg (by rw [hb3]; simp)] at g2
  repeat' (first | apply zC | apply zP | refine zU qS qR ?_ ?_ | refine zQ qK qK ?_ | refine zX K99t qD ?_ ⟨_, k, _, hk, rfl, rfl⟩ qS ?_ | exact True.intro | exact qP | fail)
  (refine zE qS ?_ ?_ <;> intro hb <;> have hc := hb <;> (try simp only [bF] at hc) <;> (try (exfalso; simp at hc; done)))
  ·rw [if_pos hb] at g2
   rw [g2]
   repeat' (first | apply zC | apply zA | apply zB | refine zF qS qR ?_ ?_ | refine zI qR ?_ | exact True.intro | exact rfl | refine SLe0.int ?_ | fail)
   all_goals skip
  ·rw [if_neg (by rw [hb]; simp)] at g2
   repeat' (first | apply zG | apply zL | apply zA | apply zB | refine zF qS qR ?_ ?_ | refine zS (k+1,()) ?_ ?_ ⟨rfl, qL, qL⟩ | exact True.intro | exact rfl | omega)
   exact ⟨by simp only; omega, g2⟩
 ·rw [List.drop_of_length_le (by omega), exclF] at g2
  rw [g2]
  repeat' (first | apply zC | apply zA | apply zB | refine zF qS qR ?_ ?_ | refine zI qR ?_ | refine zK qR ?_ | exact True.intro | exact rfl | refine SLe0.int ?_ | fail)
  all_goals skip
end Go.Sx
namespace Go.Sx
open Go.Proofs Go.RowKit
attribute [local irreducible] Run RunL RunD OpT SLe0 SLe OLe
set_option maxHeartbeats 2000000
set_option maxRecDepth 8000
set_option maxHeartbeats 8000000
@[go_sem] def eB (M : Nat) (S : Nat → Bool) : SD := .list 1 M fun i => .bool (S i)
@[go_sem] def aB (M : Nat) (S : Nat → Bool) : OB := .acc 4 1 M fun i => .bool (S i)
theorem eNeed_U (n : Need) : eNeed n = eNeedU n := by rw [eNeed, nCells_eq]; rfl
theorem K155u : FnOK Tryz.prog 155 (fun ds d => ∃ n s l, l.length ≤ 10 ∧ ds = [eNeedU n, eScale s, eList 8 eAch l] ∧ d = eInt ((fitsN n s l 0 0 : Nat) : Int)) := by
 simpa only [eNeed_U] using K155
theorem K156u : FnOK Tryz.prog 156 (fun ds d => ∃ n l set, l.length ≤ 10 ∧ set < 1024 ∧ ds = [eNeedU n, eList 8 eAch l, eInt ((set : Nat) : Int)] ∧ d = .bool (aloneR n l set)) := by
 simpa only [eNeed_U] using K156
theorem fitsN_lt (n : Need) (s : Scale) (l : List Ach) : fitsN n s l 0 0 < 2 ^ l.length := lt_of_bits fun j hj => ((fitsN_iff n s l j).1 hj).1
def partC (S : Nat → Bool) (part m : Nat) (z : Nat) : Bool := (List.range m).any fun set => (S set && (set &&& part == 0)) && ((set ||| part) == z)
def leafP (n : Need) (s : Scale) (l : List Ach) (part : Nat) : Bool := (part &&& fitsN n s l 0 0 == part) && aloneR n l part
def leafT (n : Need) (s : Scale) (l : List Ach) (M : Nat) (S : Nat → Bool) (m : Nat) (z : Nat) : Bool := (List.range m).any fun part => (decide (1 ≤ part) && leafP n s l part) && partC S part M z
theorem leafT_all (n : Need) (s : Scale) (l : List Ach) (M : Nat) (S : Nat → Bool) (z : Nat) : leafT n s l M S M z = leafS n s l M S z := rfl
theorem leafT_one (n : Need) (s : Scale) (l : List Ach) (M : Nat) (S : Nat → Bool) (z : Nat) : leafT n s l M S 1 z = false := by
 simp [leafT, List.range_succ]
theorem leafT_succ (n : Need) (s : Scale) (l : List Ach) (M : Nat) (S : Nat → Bool) (m : Nat) (hm : 1 ≤ m) (z : Nat) : leafT n s l M S (m + 1) z = (leafT n s l M S m z || (leafP n s l m && partC S m M z)) := by
 simp [leafT, List.range_succ, hm]
theorem partC_succ (S : Nat → Bool) (part m : Nat) (z : Nat) : partC S part (m + 1) z = (partC S part m z || ((S m && (m &&& part == 0)) && ((m ||| part) == z))) := by
 simp [partC, List.range_succ]
theorem ole_bool {M : Nat} {f : Nat → SD} {S : Nat → Bool} (h : ∀ i, i < M → f i = .bool (S i)) : OLe (.acc 4 1 M f) (aB M S) := OLe.accS rfl h
theorem K112 : FnOK Tryz.prog 112 (fun ds d => ∃ (n : Need) (s : Scale) (l : List Ach) (M : Nat) (S : Nat → Bool), (l.length ≤ 10 ∧ M = 2 ^ l.length) ∧ ds = [eNeedU n, eScale s, eList 8 eAch l, eB M S] ∧ d = eB M (leafS n s l M S)) := by
 refine fn_intro Tryz.call112 Tryz.func112 rfl Tryz.ntmps112 ?_
 rintro ds d ⟨n, s, l, M, S, ⟨hl, hMe⟩, rfl, rfl⟩
 refine ⟨by simp, fun w0 => ?_⟩
 have hM : M ≤ 1024 := by rw [hMe]; exact Nat.pow_le_pow_right (n := 2) (by omega) hl
 have hM1 : 1 ≤ M := by rw [hMe]; exact Nat.one_le_two_pow
 have hF := fitsN_lt n s l
 rw [← hMe] at hF
 repeat' (first | apply zC | apply zD | apply zA | apply zB | refine zF qS qR ?_ ?_ | refine zM K155u qD ?_ ⟨n, s, l, hl, rfl, rfl⟩ qS ?_ | exact True.intro | exact rfl | exact qP | fail)
 refine zN [2, 3, 4, 5, 9, 10] (fun x : Nat × (Nat → Bool) => [(11, .int .i64 x.1)]) (fun x : Nat × (Nat → Bool) => [(2, aB M x.2)]) (fun x : Nat × (Nat → Bool) => (1 ≤ x.1 ∧ x.1 ≤ M) ∧ ∀ z, z < M → x.2 z = leafT n s l M S x.1 z) (fun x : Nat × (Nat → Bool) => M - x.1) (1, fun _ => false) (fun x => qS) ?_ qL qL ?_
 ·exact ⟨⟨Nat.le_refl _, hM1⟩, fun z _ => (leafT_one n s l M S z).symm⟩
 rintro ⟨k, T⟩ ⟨⟨g1, g2⟩, g3⟩
 simp only at g1 g2 g3
 repeat' (first | apply zC | apply zA | apply zB | refine zF qS qR ?_ ?_ | exact True.intro | exact rfl | fail)
 (refine zE qS ?_ ?_ <;> intro hb <;> have hc := hb <;> (try simp only [bF] at hc) <;> (try (exfalso; simp at hc; done)))
 ·have hk : k < M := by assumption
  have ek := band k (fitsN n s l 0 0) (by omega) (by omega)
  have en : ((((k &&& fitsN n s l 0 0 : Nat) : Int) != (k : Int))) = !(k &&& fitsN n s l 0 0 == k) := by
   rw [bne]; congr 1; rw [Bool.eq_iff_iff, beq_iff_eq, beq_iff_eq]; omega
  cases h1 : (k &&& fitsN n s l 0 0 == k)
  ·have hp : leafP n s l k = false := by rw [leafP, h1]; rfl
   repeat' (first | apply zC | apply zG | apply zD | apply zA | apply zB | refine zF (by simp only [go_sem, ek, en, h1]; rfl) qR ?_ ?_ | refine runL_gF 31 (by simp only [go_sem, ek, en, h1]; rfl) qR (by simp only [go_sem, ek, en, h1]; first | done | rfl) (by simp only [go_sem, ek, en, h1]; rfl) ?_ | (refine zE (by simp only [go_sem, ek, en, h1]; rfl) ?_ ?_ <;> intro hb <;> have hc := hb <;> (try simp only [bF] at hc) <;> (try (exfalso; simp at hc; done))) | refine zK qR ?_ | refine zS (k+1,T) ?_ ?_ ⟨rfl, qL, qL⟩ | exact True.intro | exact rfl | omega | exact qP | fail)
   exact ⟨⟨by simp only; omega, by simp only; omega⟩, fun z hz => by simp only; rw [g3 z hz, leafT_succ _ _ _ _ _ _ g1, hp]; simp⟩
  ·cases h2 : aloneR n l k
   ·have hp : leafP n s l k = false := by rw [leafP, h1, h2]; rfl
    repeat' (first | apply zC | apply zG | apply zD | apply zA | apply zB | refine zF (by simp only [go_sem, ek, en, h1, h2]; rfl) qR ?_ ?_ | refine zV 31 qR (by simp only [go_sem, ek, en, h1, h2]; rfl) K156u (by simp only [go_sem, ek, en, h1, h2]; first | done | rfl) (fun hg => ?_) (fun _ => ⟨n, l, k, hl, by omega, rfl, rfl⟩) (by simp only [go_sem, ek, en, h1, h2]; rfl) ?_ | (refine zE (by simp only [go_sem, ek, en, h1, h2]; rfl) ?_ ?_ <;> intro hb <;> have hc := hb <;> (try simp only [bF] at hc) <;> (try (exfalso; simp at hc; done))) | refine zK qR ?_ | refine zS (k+1,T) ?_ ?_ ⟨rfl, qL, qL⟩ | exact True.intro | exact rfl | omega | exact qP | fail)
    exact ⟨⟨by simp only; omega, by simp only; omega⟩, fun z hz => by simp only; rw [g3 z hz, leafT_succ _ _ _ _ _ _ g1, hp]; simp⟩
   ·have hp : leafP n s l k = true := by rw [leafP, h1, h2]; rfl
    repeat' (first | apply zC | apply zG | apply zD | apply zA | apply zB | refine zF (by simp only [go_sem, ek, en, h1, h2]; rfl) qR ?_ ?_ | refine zV 31 qR (by simp only [go_sem, ek, en, h1, h2]; rfl) K156u (by simp only [go_sem, ek, en, h1, h2]; first | done | rfl) (fun hg => ?_) (fun _ => ⟨n, l, k, hl, by omega, rfl, rfl⟩) (by simp only [go_sem, ek, en, h1, h2]; rfl) ?_ | (refine zE (by simp only [go_sem, ek, en, h1, h2]; rfl) ?_ ?_ <;> intro hb <;> have hc := hb <;> (try simp only [bF] at hc) <;> (try (exfalso; simp at hc; done))) | exact True.intro | exact rfl | exact qP | fail)
    refine zN [2, 3, 4, 5, 9, 10, 11] (fun x : Nat × (Nat → Bool) => [(12, .int .i64 x.1)]) (fun x : Nat × (Nat → Bool) => [(2, aB M x.2)]) (fun x : Nat × (Nat → Bool) => x.1 ≤ M ∧ ∀ z, z < M → x.2 z = (T z || partC S k x.1 z)) (fun x : Nat × (Nat → Bool) => M - x.1) (0, T) (fun x => qS) ?_ qL qL ?_
    ·exact ⟨Nat.zero_le _, fun z _ => by simp [partC]⟩
    rintro ⟨j, T2⟩ ⟨q1, q2⟩
    simp only at q1 q2
    repeat' (first | apply zC | apply zA | apply zB | refine zF qS qR ?_ ?_ | exact True.intro | exact rfl | fail)
    (refine zE qS ?_ ?_ <;> intro hb <;> have hc := hb <;> (try simp only [bF] at hc) <;> (try (exfalso; simp at hc; done)))
    ·have hj : j < M := by assumption
     have e3 := band j k (by omega) (by omega)
     have e4 : ((((j &&& k : Nat) : Int) == (0 : Int))) = (j &&& k == 0) := by
      rw [Bool.eq_iff_iff, beq_iff_eq, beq_iff_eq]; omega
     cases h3 : S j
     ·repeat' (first | apply zC | apply zG | apply zD | apply zL | apply zA | apply zB | refine zF (by simp only [go_sem, h3]; rfl) qR ?_ ?_ | (refine zE (by simp only [go_sem, h3]; rfl) ?_ ?_ <;> intro hb <;> have hc := hb <;> (try simp only [bF] at hc) <;> (try (exfalso; simp at hc; done))) | refine zS (j+1,T2) ?_ ?_ ⟨rfl, qL, qL⟩ | exact True.intro | exact rfl | omega | exact qP | fail)
      exact ⟨by simp only; omega, fun z hz => by simp only; rw [q2 z hz, partC_succ, h3]; simp⟩
     ·cases h4 : (j &&& k == 0)
      ·repeat' (first | apply zC | apply zG | apply zD | apply zL | apply zA | apply zB | refine zF (by simp only [go_sem, h3, e3, e4, h4]; rfl) qR ?_ ?_ | (refine zE (by simp only [go_sem, h3, e3, e4, h4]; rfl) ?_ ?_ <;> intro hb <;> have hc := hb <;> (try simp only [bF] at hc) <;> (try (exfalso; simp at hc; done))) | refine zS (j+1,T2) ?_ ?_ ⟨rfl, qL, qL⟩ | exact True.intro | exact rfl | omega | exact qP | fail)
       exact ⟨by simp only; omega, fun z hz => by simp only; rw [q2 z hz, partC_succ, h4]; simp⟩
      ·have e5 := bor j k (by omega) (by omega)
       have h5 : j ||| k < M := by rw [hMe] at hj hk ⊢; exact Nat.or_lt_two_pow hj hk
       repeat' (first | apply zC | apply zG | apply zD | apply zA | apply zB | refine zF (by simp only [go_sem, h3, e3, e4, h4, e5]; rfl) qR ?_ ?_ | exact rfl | exact qP | fail)
       (refine zE qS ?_ ?_ <;> intro hb <;> have hc := hb <;> (try simp only [bF] at hc) <;> (try (exfalso; simp at hc; done)))
       repeat' (first | apply zL | apply zA | apply zB | refine zF (by simp only [go_sem, e5]; rfl) qR ?_ ?_ | exact True.intro | exact rfl | exact qP | fail)
       refine zR (o' := aB M fun z => T2 z || (j ||| k == z)) 2 qR (ole_bool fun i hi => ?_) ?_
       ·simp only [setF]
        by_cases hi : i = j ||| k
        ·subst hi; simp
        ·rw [if_neg hi]
         have : (j ||| k == i) = false := by rw [beq_eq_false_iff_ne]; exact fun h => hi h.symm
         rw [this, Bool.or_false]
       refine zS (j + 1, fun z => T2 z || (j ||| k == z)) ?_ ?_ ⟨rfl, qL, qL⟩
       ·exact ⟨by simp only; omega, fun z hz => by simp only; rw [q2 z hz, partC_succ, h3, h4]; simp [Bool.or_assoc]⟩
       ·simp only; omega
    ·have hj : j = M := by omega
     subst hj
     repeat' (first | apply zL | apply zA | apply zB | refine zF qS qR ?_ ?_ | refine zK qR ?_ | refine zS (k+1,T2) ?_ ?_ ⟨rfl, qL, qL⟩ | exact True.intro | exact rfl | omega)
     exact ⟨⟨by simp only; omega, by simp only; omega⟩, fun z hz => by simp only; rw [q2 z hz, g3 z hz, leafT_succ _ _ _ _ _ _ g1, hp]; simp⟩
 ·have hkM : k = M := by omega
  subst hkM
  repeat' (first | refine zO 2 qS ?_ | apply zC | apply zA | apply zB | refine zF qS qR ?_ ?_ | refine zI qR ?_ | refine zK qR ?_ | exact True.intro | exact rfl | fail)
  (refine SLe0.le qZ ?_; repeat' (first | exact True.intro | exact SLe.refl _ | refine SLe.agg ?_ | refine SLe.tup ?_ | refine And.intro ?_ ?_ | exact SLe.nils | refine SLe.int ?_ | refine SLe.bool ?_ | refine SLe.str ?_))
  refine SLe.list rfl fun i hi => ?_
  rw [g3 i hi, leafT_all]
end Go.Sx
