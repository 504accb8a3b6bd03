/- Lemmas on the judge: J30, J31, J60, J59, J61. -/
import Derived.Test.YtmbocmonhcplhaaGreatJ28
import Derived.Test.YtmbocmonhcplhaaGreatS4
import Derived.Test.YtmbocmonhcplhaaGreatJ15
set_option linter.all false
set_option maxHeartbeats 20000000
set_option maxRecDepth 10000
namespace Go.Sx
open Go.Proofs Tryz Go.RowKit
attribute [local irreducible] Run zAg zAs OpT zAc SLe OLe
theorem K96 (d : Nat) (hd : 1 + d <= 100) : FnOK prog 96 (fun ds v => ∃ n : Need, WOk d n /\ ds = [zAh n] /\ v = eInt (zQk (zAd d 1 n))) := by
 have K143x := K143 d hd;have K144x := K144 d hd;refine zAb call96 func96 rfl ntmps96 ?_;rintro ds d ⟨n, hn, rfl, rfl⟩;refine ⟨by simp, fun w0 => ?_⟩;have hlen := hn.2;have hok : ∀ x ∈ zAd d 1 n, zJ8 x.1 := fun x hx => (zIy d 1 n hn.1 x hx).1.set;generalize hqs : zAd d 1 n = qs at hlen hok;have hll := zX4 qs;by_cases m1 : (decide (24 < (qs.length : Int)) || decide (5 < ((zOj qs : Nat) : Int)) || !(decide (1 <= ((zFc qs : Nat) : Int)) && decide (((zFc qs : Nat) : Int) <= 8))) = true
 ·rw [zQk, if_pos m1]
  repeat' (first | refine wB ?_ | refine zC (by simp only [go_sem, hqs, m1, hll]; rfl) qR ?_ ?_ | refine zG K143x (by simp only [go_sem, hqs, m1, hll]; first | done | rfl) ?_ ⟨n, hn, rfl, rfl⟩ (by simp only [go_sem, hqs, m1, hll]; rfl) ?_ | refine zN 29 qR (by simp only [go_sem, hqs, m1, hll]; rfl) K144x (by simp only [go_sem, hqs, m1, hll]; first | done | rfl) (fun hg => ?_) (fun _ => ⟨n, hn, rfl, rfl⟩) (by simp only [go_sem, hqs, m1, hll]; rfl) ?_ | refine zN 29 qR (by simp only [go_sem, hqs, m1, hll]; rfl) K94 (by simp only [go_sem, hqs, m1, hll]; first | done | rfl) (fun hg => ?_) (fun _ => ⟨_, _, _, rfl, rfl⟩) (by simp only [go_sem, hqs, m1, hll]; rfl) ?_ | (refine zAa (by simp only [go_sem, hqs, m1, hll]; rfl) qC qC ?_ ?_ <;> intro hb hc <;> try (simp at hc; done)) | refine zE qR ?_ | exact qT | refine zAc.int ?_ | exact qP | fail)
  all_goals skip
 ·have m1' := Bool.eq_false_iff.2 m1
  rw [zQk, if_neg m1]
  repeat' (first | refine wB ?_ | refine zC (by simp only [go_sem, hqs, m1', hll]; rfl) qR ?_ ?_ | refine zG K143x (by simp only [go_sem, hqs, m1', hll]; first | done | rfl) ?_ ⟨n, hn, rfl, rfl⟩ (by simp only [go_sem, hqs, m1', hll]; rfl) ?_ | refine zN 29 qR (by simp only [go_sem, hqs, m1', hll]; rfl) K144x (by simp only [go_sem, hqs, m1', hll]; first | done | rfl) (fun hg => ?_) (fun _ => ⟨n, hn, rfl, rfl⟩) (by simp only [go_sem, hqs, m1', hll]; rfl) ?_ | refine zN 29 qR (by simp only [go_sem, hqs, m1', hll]; rfl) K94 (by simp only [go_sem, hqs, m1', hll]; first | done | rfl) (fun hg => ?_) (fun _ => ⟨_, _, _, rfl, rfl⟩) (by simp only [go_sem, hqs, m1', hll]; rfl) ?_ | refine zG K145 (by simp only [go_sem, hqs, m1', hll]; first | done | rfl) ?_ ⟨rfl, rfl⟩ (by simp only [go_sem, hqs, m1', hll]; rfl) ?_ | (refine zAa (by simp only [go_sem, hqs, m1', hll]; rfl) qC qC ?_ ?_ <;> intro hb hc <;> try (simp at hc; done)) | exact qT | exact qP | fail)
  refine zH [0, 1, 2, 6, 37, 38] (fun x : Nat × Unit => [(39, .int .i64 x.1)]) (fun x => []) (fun x => x.1 <= qs.length /\ zYr qs = zYr (qs.drop x.1)) (fun x => qs.length - x.1) (0, ()) (fun x => qS) ?_ qL qL ?_
  ·exact ⟨zz7 _, rfl⟩
  rintro ⟨i, _⟩ ⟨g6, g7⟩;simp only at g6 g7
  repeat' (first | refine wA ?_ | exact qT | fail)
  (refine zAa qS qC qC ?_ ?_ <;> intro hb hc <;> try (simp at hc; done))
  ·have hi : i < qs.length := by assumption
   have hed : zYr (qs.drop i) = if zFw (qs.getD i default).1 = 0 then zYr (qs.drop (i + 1)) else zFw (qs.getD i default).1 := by
    rw [List.drop_eq_getElem_cons hi, zYr, zz2, zz5 hi]; rfl
   have hx := hok _ (zAi hi);by_cases k1 : (qs.getD i default).1.Kind = 1
   ·have kd : yFq (MK.i (qs.getD i default).1.Kind) = true := by rw [k1]; rfl
    have kf : kF (MK.i (qs.getD i default).1.Kind) = .agg [.fn 189 []] := by rw [k1]; rfl
    have hv : FnV prog 189 [] [zFt (qs.getD i default).1] (eInt (zFw (qs.getD i default).1)) := ⟨_, K189, _, ⟨hx, k1⟩, rfl, rfl⟩
    repeat' (first | refine wB ?_ | refine zC (by simp only [go_sem, kd, kf]; rfl) qR ?_ ?_ | refine zE3 true (by simp only [go_sem, kd, kf]; rfl) (by simp only [go_sem, kd, kf]; first | done | rfl) (by simp only [go_sem, kd, kf]; first | done | rfl) (by simp only [go_sem, kd, kf]; first | done | rfl) (by simp only [go_sem, kd, kf]; first | done | rfl) (by simp only [go_sem, kd, kf]; first | done | rfl) ?_ (by simp only [go_sem, kd, kf]; rfl) ?_ | refine zW (hv) (by simp only [go_sem, kd, kf]) (by simp only [go_sem, kd, kf]) ?_ (by simp only [go_sem, kd, kf]; rfl) ?_ | (refine zAa (by simp only [go_sem, kd, kf]; rfl) qC qC ?_ ?_ <;> intro hb hc <;> try (simp at hc; done)) | refine zE qR ?_ | refine zL (i+1,()) ?_ ?_ ⟨rfl, qL, qL⟩ | exact qT | omega | refine zAc.int ?_ | exact qP | fail)
    exact ⟨by simp only; omega, by rw [g7, hed, if_pos hc]⟩
   by_cases k2 : (qs.getD i default).1.Kind = 2
   ·have kd : yFq (MK.i (qs.getD i default).1.Kind) = true := by rw [k2]; rfl
    have kf : kF (MK.i (qs.getD i default).1.Kind) = .agg [.fn 191 []] := by rw [k2]; rfl
    have hv : FnV prog 191 [] [zFt (qs.getD i default).1] (eInt (zFw (qs.getD i default).1)) := ⟨_, K191, _, ⟨hx, k2⟩, rfl, rfl⟩
    repeat' (first | refine wB ?_ | refine zC (by simp only [go_sem, kd, kf]; rfl) qR ?_ ?_ | refine zE3 true (by simp only [go_sem, kd, kf]; rfl) (by simp only [go_sem, kd, kf]; first | done | rfl) (by simp only [go_sem, kd, kf]; first | done | rfl) (by simp only [go_sem, kd, kf]; first | done | rfl) (by simp only [go_sem, kd, kf]; first | done | rfl) (by simp only [go_sem, kd, kf]; first | done | rfl) ?_ (by simp only [go_sem, kd, kf]; rfl) ?_ | refine zW (hv) (by simp only [go_sem, kd, kf]) (by simp only [go_sem, kd, kf]) ?_ (by simp only [go_sem, kd, kf]; rfl) ?_ | (refine zAa (by simp only [go_sem, kd, kf]; rfl) qC qC ?_ ?_ <;> intro hb hc <;> try (simp at hc; done)) | refine zE qR ?_ | refine zL (i+1,()) ?_ ?_ ⟨rfl, qL, qL⟩ | exact qT | omega | refine zAc.int ?_ | exact qP | fail)
    exact ⟨by simp only; omega, by rw [g7, hed, if_pos hc]⟩
   by_cases k3 : (qs.getD i default).1.Kind = 3
   ·have kd : yFq (MK.i (qs.getD i default).1.Kind) = true := by rw [k3]; rfl
    have kf : kF (MK.i (qs.getD i default).1.Kind) = .agg [.fn 192 [.fp [.fn 188 []]]] := by rw [k3]; rfl
    have hv : FnV prog 192 [.fp [.fn 188 []]] [zFt (qs.getD i default).1] (eInt (zFw (qs.getD i default).1)) := ⟨_, K192, _, ⟨hx, k3⟩, rfl, rfl⟩
    repeat' (first | refine wB ?_ | refine zC (by simp only [go_sem, kd, kf]; rfl) qR ?_ ?_ | refine zE3 true (by simp only [go_sem, kd, kf]; rfl) (by simp only [go_sem, kd, kf]; first | done | rfl) (by simp only [go_sem, kd, kf]; first | done | rfl) (by simp only [go_sem, kd, kf]; first | done | rfl) (by simp only [go_sem, kd, kf]; first | done | rfl) (by simp only [go_sem, kd, kf]; first | done | rfl) ?_ (by simp only [go_sem, kd, kf]; rfl) ?_ | refine zW (hv) (by simp only [go_sem, kd, kf]) (by simp only [go_sem, kd, kf]) ?_ (by simp only [go_sem, kd, kf]; rfl) ?_ | (refine zAa (by simp only [go_sem, kd, kf]; rfl) qC qC ?_ ?_ <;> intro hb hc <;> try (simp at hc; done)) | refine zE qR ?_ | refine zL (i+1,()) ?_ ?_ ⟨rfl, qL, qL⟩ | exact qT | omega | refine zAc.int ?_ | exact qP | fail)
    exact ⟨by simp only; omega, by rw [g7, hed, if_pos hc]⟩
   by_cases k4 : (qs.getD i default).1.Kind = 4
   ·have kd : yFq (MK.i (qs.getD i default).1.Kind) = true := by rw [k4]; rfl
    have kf : kF (MK.i (qs.getD i default).1.Kind) = .agg [.fn 193 [.fp [.fn 188 []]]] := by rw [k4]; rfl
    have hv : FnV prog 193 [.fp [.fn 188 []]] [zFt (qs.getD i default).1] (eInt (zFw (qs.getD i default).1)) := ⟨_, K193, _, ⟨hx, k4⟩, rfl, rfl⟩
    repeat' (first | refine wB ?_ | refine zC (by simp only [go_sem, kd, kf]; rfl) qR ?_ ?_ | refine zE3 true (by simp only [go_sem, kd, kf]; rfl) (by simp only [go_sem, kd, kf]; first | done | rfl) (by simp only [go_sem, kd, kf]; first | done | rfl) (by simp only [go_sem, kd, kf]; first | done | rfl) (by simp only [go_sem, kd, kf]; first | done | rfl) (by simp only [go_sem, kd, kf]; first | done | rfl) ?_ (by simp only [go_sem, kd, kf]; rfl) ?_ | refine zW (hv) (by simp only [go_sem, kd, kf]) (by simp only [go_sem, kd, kf]) ?_ (by simp only [go_sem, kd, kf]; rfl) ?_ | (refine zAa (by simp only [go_sem, kd, kf]; rfl) qC qC ?_ ?_ <;> intro hb hc <;> try (simp at hc; done)) | refine zE qR ?_ | refine zL (i+1,()) ?_ ?_ ⟨rfl, qL, qL⟩ | exact qT | omega | refine zAc.int ?_ | exact qP | fail)
    exact ⟨by simp only; omega, by rw [g7, hed, if_pos hc]⟩
   have kd : yFq (MK.i (qs.getD i default).1.Kind) = false := by simp only [yFq, zC9, MKi]; simp only [k1, k2, k3, k4, decide_false, Bool.or_self]
   have k13 : zFw (qs.getD i default).1 = 13 := by rw [zFw, if_neg k1, if_neg k2, if_neg k3, if_neg k4]
   have hz0 : (#[Value.nilFunc].all (fun a => a.oneCell') 0 1) = true := by first | kernel_rfl | simp [Value.oneCell'] | decide
   repeat' (first | refine wB ?_ | refine zC (by simp only [go_sem, kd, hz0]; rfl) qR ?_ ?_ | refine zE3 false (by simp only [go_sem, kd, hz0]; rfl) (by simp only [go_sem, kd, hz0]; first | done | rfl) (by simp only [go_sem, kd, hz0]; first | done | rfl) (by simp only [go_sem, kd, hz0]; first | done | rfl) (by simp only [go_sem, kd, hz0]; first | done | rfl) (by simp only [go_sem, kd, hz0]; first | done | rfl) ?_ (by simp only [go_sem, kd, hz0]; rfl) ?_ | (refine zAa (by simp only [go_sem, kd, hz0]; rfl) qC qC ?_ ?_ <;> intro hb hc <;> try (simp at hc; done)) | refine zE qR ?_ | exact qT | omega | refine zAc.int ?_ | exact qP | fail)
   all_goals (rw [g7, hed, k13]; rfl)
  ·repeat' (first | refine wA ?_ | refine zE qR ?_ | refine zF qR ?_ | exact qT | refine zAc.int ?_ | fail)
   rw [g7, List.drop_of_length_le (by omega)]; rfl
@[go_sem] theorem plT161a : plT prog 161 0 = some (0, 2) := by kernel_rfl
@[go_sem] theorem plT161b : plT prog 161 1 = some (2, 2) := by kernel_rfl
@[go_sem] theorem tn0 : Int.toNat 0 = 0 := rfl
@[go_sem] theorem tn1 : Int.toNat 1 = 1 := rfl
structure POk (d : Nat) (p : Programme) : Prop where
 need : WOk d p.Need
 name : p.Name.size <= 100000
 excl : ∀ x ∈ p.Exclude, Asc x.1.Code /\ Asc x.2.Code
def zLe (p : Programme) : Bool := !(decide (1 <= p.Id) && decide (p.Id <= 999999)) || !(decide (1 <= p.Version) && decide (p.Version <= 20)) || !(decide (0 <= p.From) && decide (p.From <= 100000)) || !(decide (0 <= p.Total) && decide (p.Total <= 600)) || !(decide (0 <= p.Own) && decide (p.Own <= 600)) || !(decide (0 <= p.Age) && decide (p.Age <= 100))
def zRo (l : List (Course × Course)) : List (Course × Course) -> Nat -> Int
 | [], _ => 0
 | x :: r, k => if !zGe x.1 || !zGe x.2 then 1 else if !zB4 x.1 x.2 then 7 else if (l.take k).any (fun y => zF1 x y) then 6 else zRo l r (k + 1)
def zFx (d : Nat) (p : Programme) : Int :=
 if !(decide (1 <= p.School) && decide (p.School <= 8)) then 1
 else if zLe p then 3
 else if !nameB p.Name then 1
 else if zQk (zAd d 1 p.Need) = 0 then (if decide (8 < (p.Exclude.length : Int)) then 2 else zRo p.Exclude p.Exclude 0)
 else zQk (zAd d 1 p.Need)
end Go.Sx
namespace Go.Sx
open Go.Proofs Tryz
theorem ok2 {a b : UInt8} (ha : okB a.toNat) (hb : okB b.toNat) : zD1 ⟨#[a, b]⟩ := ⟨by show 1 <= 2; omega, by show 2 <= 8; omega, fun i h => by
 have h2 : i < 2 := h
 rcases (show i = 0 \/ i = 1 by omega) with rfl | rfl
 ·exact ha
 ·exact hb⟩
theorem zY7 : ∀ i, zD1 (zGz.getD i ⟨#[65, 49]⟩) := by
 have key : ∀ i, i < 6 -> zD1 (zGz.getD i ⟨#[65, 49]⟩) := by
  intro i hi
  rcases (show i = 0 \/ i = 1 \/ i = 2 \/ i = 3 \/ i = 4 \/ i = 5 by omega) with rfl | rfl | rfl | rfl | rfl | rfl
  all_goals exact ok2 (by unfold okB; decide) (by unfold okB; decide)
 intro i;by_cases h : i < 6
 ·exact key i h
 ·rw [zz2, List.getElem?_eq_none (by rw [zB2]; omega)]
  exact key 0 (by omega)
theorem zY8 {i : Nat} (h : i < 6) : zD1 (zGz.getD i default) := by
 have := zY7 i;rw [zz2, zz5 (by rw [zB2]; exact h)] at this |-;exact this
open Go.Proofs Go.RowKit
attribute [local irreducible] Run zAg zAs zH9 zAc SLe OLe
theorem yFj {α : Type} {P : α -> Prop} (acc : List α) (i : Nat) (a : α) (h : ∀ x ∈ acc, P x) (ha : P a) : ∀ x ∈ acc.take i ++ a :: acc.drop i, P x := fun x hx => by
 rcases List.mem_append.1 hx with hx | hx
 ·exact h x (List.mem_of_mem_take hx)
 ·rcases List.mem_cons.1 hx with rfl | hx
  ·exact ha
  ·exact h x (List.mem_of_mem_drop hx)
def GOk : Nat -> Need -> Prop
 | 0, n => ((∀ c ∈ n.Set, zD1 c.Code) /\ n.Set.length <= 4) /\ n.L = []
 | d + 1, n => ((∀ c ∈ n.Set, zD1 c.Code) /\ n.Set.length <= 4) /\ n.L.length <= 3 /\ ∀ x ∈ n.L, GOk d x
theorem GOk.set {d : Nat} {n : Need} (h : GOk d n) : (∀ c ∈ n.Set, zD1 c.Code) /\ n.Set.length <= 4 := by cases d <;> exact h.1
theorem GOk.len {d : Nat} {n : Need} (h : GOk d n) : n.L.length <= 3 := by
 cases d with
 | zero => rw [h.2]; simp
 | succ d => exact h.2.1
theorem GOk.nok : ∀ (d : Nat) {n : Need}, GOk d n -> NOk d n
 | 0, _, h => ⟨fun c hc => (h.1.1 c hc).asc, h.2⟩
 | d + 1, _, h => ⟨fun c hc => (h.1.1 c hc).asc, fun x hx => GOk.nok d (h.2.2 x hx)⟩
def c3 : Nat -> Nat
 | 0 => 1
 | d + 1 => 1 + 3 * c3 d
theorem zYo {α β : Type} (f : α -> List β) (c : Nat) : ∀ l : List α, (∀ x ∈ l, (f x).length <= c) -> (l.flatMap f).length <= l.length * c
 | [], _ => by simp
 | x :: r, h => by
  have h1 := zYo f c r fun y hy => h y (zyc _ hy);have h2 := h x zym;simp only [List.flatMap_cons, zye, List.length_cons, Nat.add_mul, Nat.one_mul];omega
theorem GOk.nodes : ∀ (d k : Nat) {n : Need}, GOk d n -> (zAd d k n).length <= c3 d
 | 0, _, _, _ => by simp [zAd, c3]
 | d + 1, k, n, h => by
  have h1 := zYo (zAd d (k + 1)) (c3 d) n.L fun x hx => GOk.nodes d (k + 1) (h.2.2 x hx);have h2 := zyk (c3 d) h.2.1;rw [zDk];simp only [c3];omega
theorem GOk.wok {n : Need} (h : GOk 3 n) : WOk 3 n := ⟨h.nok, by have := GOk.nodes 3 1 h; simp only [c3] at this; omega⟩
structure PGk (p : Programme) : Prop where
 need : GOk 3 p.Need
 name : p.Name.size <= 100000
 excl : ∀ x ∈ p.Exclude, Asc x.1.Code /\ Asc x.2.Code
theorem PGk.pok {p : Programme} (h : PGk p) : POk 3 p := ⟨h.need.wok, h.name, h.excl⟩
theorem yCl (n : Nat) {x : Need} (h : (∀ c ∈ x.Set, zD1 c.Code) /\ x.Set.length <= 4) (hL : x.L = []) : GOk n x := by
 cases n
 ·exact ⟨h, hL⟩
 ·exact ⟨h, by rw [hL]; simp, fun y hy => (by rw [hL] at hy; cases hy)⟩
end Go.Sx
