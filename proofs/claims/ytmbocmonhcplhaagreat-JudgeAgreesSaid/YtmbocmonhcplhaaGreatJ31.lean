/- Part of the proof that the laws of the judge return true for every input: J28, J30, J31. -/
import Derived.Test.YtmbocmonhcplhaaGreatJ25
import Derived.Test.YtmbocmonhcplhaaGreatJ29
import Derived.Test.YtmbocmonhcplhaaGreatS4
set_option linter.all false
namespace Go.Sx
open Go.Proofs Go.RowKit
attribute [local irreducible] Run zAi zAy OpT zAc SLe OLe
set_option maxHeartbeats 2000000
set_option maxRecDepth 8000
set_option maxHeartbeats 20000000
theorem zT6 : Tryz.prog.underlying 140 = some (.slice 5) := by kernel_rfl
theorem tU5 : Tryz.prog.underlying 5 = some (.int .u8) := by kernel_rfl
def okN (b : UInt8) : Bool := !(decide ((b.toNat : Int) < 32) || decide (126 < (b.toNat : Int)) || ((b.toNat : Int) == 34))
def nameB (s : ByteArray) : Bool := (decide (1 ≤ (s.size : Int)) && decide ((s.size : Int) ≤ 40)) && s.data.toList.all okN
theorem zZh {p : UInt8 → Bool} {l : List UInt8} {k : Nat} (hk : k < l.length) : (l.drop k).all p = (p (l.getD k 0) && (l.drop (k + 1)).all p) := by
 rw [List.drop_eq_getElem_cons hk, List.all_cons, zz2, List.getElem?_eq_getElem hk]; rfl
theorem K95 : FnOK Tryz.prog 95 (fun ds d => ∃ s : ByteArray, s.size ≤ 100000 ∧ ds = [.str s] ∧ d = .bool (nameB s)) := by
 refine zAa Tryz.call95 Tryz.func95 rfl Tryz.ntmps95 ?_
 rintro ds d ⟨s, hs, rfl, rfl⟩
 refine ⟨by simp, fun w0 => ?_⟩
 have hl : s.data.toList.length = s.size := by simp
 have hm : s.size ≤ maxN := by unfold maxN; omega
 repeat' (first | apply zC | apply zD | apply zA | apply zB | refine zF qS qR ?_ ?_ | refine yAy qS ?_ qR (by first | exact zT6 | exact yC9 | exact tU5) (by first | exact zT6 | exact yC9 | exact tU5) ?_ qS ?_ | exact zz0 | exact rfl | omega)
 refine zN [0, 6, 7] (fun x : Nat × Unit => [(8, .int .i64 x.1)]) (fun x : Nat × Unit => []) (fun x : Nat × Unit => x.1 ≤ s.size ∧ s.data.toList.all okN = (s.data.toList.drop x.1).all okN) (fun x : Nat × Unit => s.size - x.1) (0, ()) (fun x => qS) ?_ qL qL ?_
 ·exact ⟨Nat.zero_le _, rfl⟩
 rintro ⟨k, _⟩ ⟨g1, g2⟩
 simp only at g1 g2
 repeat' (first | apply zC | apply zA | apply zB | refine zF qS qR ?_ ?_ | exact zz0 | exact rfl | fail)
 (refine zE qS ?_ ?_ <;> intro hb <;> have hc := hb <;> (try simp only [bF] at hc) <;> (try (exfalso; simp at hc; done)))
 ·have hk : k < s.size := by assumption
  rw [zZh (by omega)] at g2;have eb : byF s.data.toList k = .int .u8 ((s.data.toList.getD k 0).toNat : Int) := rfl
  repeat' (first | apply zC | apply zG | apply zD | apply zL | apply zA | apply zB | refine zF (by simp only [go_sem, eb]; rfl) qR ?_ ?_ | (refine zE (by simp only [go_sem, eb]; rfl) ?_ ?_ <;> intro hb <;> have hc := hb <;> (try simp only [bF] at hc) <;> (try (exfalso; simp at hc; done))) | refine zI qR ?_ | refine zS (k+1,()) ?_ ?_ ⟨rfl, qL, qL⟩ | exact zz0 | exact rfl | omega | refine zAc.bool ?_ | exact qP | fail)
  ·have : okN (s.data.toList.getD k 0) = false := by rw [okN, hb]; rfl
   rw [nameB, g2, this, Bool.false_and, Bool.and_false]
  ·have : okN (s.data.toList.getD k 0) = true := by rw [okN, hb]; rfl
   exact ⟨by simp only; omega, by rw [g2, this, Bool.true_and]⟩
 ·repeat' (first | apply zC | apply zA | apply zB | refine zF qS qR ?_ ?_ | refine zM K94 qD ?_ ⟨_, _, _, rfl, rfl⟩ qS ?_ | refine zI qR ?_ | refine zK qR ?_ | exact zz0 | exact rfl | refine zAc.bool ?_ | fail)
  rw [nameB, g2, List.drop_of_length_le (by omega), List.all_nil, Bool.and_true]
end Go.Sx
namespace Go.Sx
open Go.Proofs Go.RowKit
attribute [local irreducible] Run zAi zAy OpT zAc SLe OLe
set_option maxHeartbeats 2000000
set_option maxRecDepth 8000
set_option maxHeartbeats 20000000
theorem K96 (d : Nat) (hd : 1 + d ≤ 100) : FnOK Tryz.prog 96 (fun ds v => ∃ n : Need, WOk d n ∧ ds = [zAb n] ∧ v = eInt (zSb (zAd d 1 n))) := by
 have K143x := K143 d hd
 have K144x := K144 d hd
 refine zAa Tryz.call96 Tryz.func96 rfl Tryz.ntmps96 ?_
 rintro ds d ⟨n, hn, rfl, rfl⟩
 refine ⟨by simp, fun w0 => ?_⟩
 have hlen := hn.2
 have hok : ∀ x ∈ zAd d 1 n, zGc x.1 := fun x hx => (zH8 d 1 n hn.1 x hx).1.set
 generalize hqs : zAd d 1 n = qs at hlen hok
 have hll := zVy qs
 by_cases m1 : (decide (24 < (qs.length : Int)) || decide (5 < ((zQd qs : Nat) : Int)) || !(decide (1 ≤ ((zKs qs : Nat) : Int)) && decide (((zKs qs : Nat) : Int) ≤ 8))) = true
 ·rw [zSb, if_pos m1]
  repeat' (first | apply zC | apply zA | apply zB | refine zF (by simp only [go_sem, hqs, m1, hll]; rfl) qR ?_ ?_ | refine zM K143x (by simp only [go_sem, hqs, m1, hll]; first | done | rfl) ?_ ⟨n, hn, rfl, rfl⟩ (by simp only [go_sem, hqs, m1, hll]; rfl) ?_ | refine zV 29 qR (by simp only [go_sem, hqs, m1, hll]; rfl) K144x (by simp only [go_sem, hqs, m1, hll]; first | done | rfl) (fun hg => ?_) (fun _ => ⟨n, hn, rfl, rfl⟩) (by simp only [go_sem, hqs, m1, hll]; rfl) ?_ | refine zV 29 qR (by simp only [go_sem, hqs, m1, hll]; rfl) K94 (by simp only [go_sem, hqs, m1, hll]; first | done | rfl) (fun hg => ?_) (fun _ => ⟨_, _, _, rfl, rfl⟩) (by simp only [go_sem, hqs, m1, hll]; rfl) ?_ | (refine zE (by simp only [go_sem, hqs, m1, hll]; rfl) ?_ ?_ <;> intro hb <;> have hc := hb <;> (try simp only [bF] at hc) <;> (try (exfalso; simp at hc; done))) | refine zI qR ?_ | exact zz0 | exact rfl | refine zAc.int ?_ | exact qP | fail)
  all_goals skip
 ·have m1' := Bool.eq_false_iff.2 m1
  rw [zSb, if_neg m1]
  repeat' (first | apply zC | apply zG | apply zD | apply zA | apply zB | refine zF (by simp only [go_sem, hqs, m1', hll]; rfl) qR ?_ ?_ | refine zM K143x (by simp only [go_sem, hqs, m1', hll]; first | done | rfl) ?_ ⟨n, hn, rfl, rfl⟩ (by simp only [go_sem, hqs, m1', hll]; rfl) ?_ | refine zV 29 qR (by simp only [go_sem, hqs, m1', hll]; rfl) K144x (by simp only [go_sem, hqs, m1', hll]; first | done | rfl) (fun hg => ?_) (fun _ => ⟨n, hn, rfl, rfl⟩) (by simp only [go_sem, hqs, m1', hll]; rfl) ?_ | refine zV 29 qR (by simp only [go_sem, hqs, m1', hll]; rfl) K94 (by simp only [go_sem, hqs, m1', hll]; first | done | rfl) (fun hg => ?_) (fun _ => ⟨_, _, _, rfl, rfl⟩) (by simp only [go_sem, hqs, m1', hll]; rfl) ?_ | refine zM K145 (by simp only [go_sem, hqs, m1', hll]; first | done | rfl) ?_ ⟨rfl, rfl⟩ (by simp only [go_sem, hqs, m1', hll]; rfl) ?_ | (refine zE (by simp only [go_sem, hqs, m1', hll]; rfl) ?_ ?_ <;> intro hb <;> have hc := hb <;> (try simp only [bF] at hc) <;> (try (exfalso; simp at hc; done))) | exact zz0 | exact rfl | exact qP | fail)
  refine zN [0, 1, 2, 6, 37, 38] (fun x : Nat × Unit => [(39, .int .i64 x.1)]) (fun x : Nat × Unit => []) (fun x : Nat × Unit => x.1 ≤ qs.length ∧ zYy qs = zYy (qs.drop x.1)) (fun x : Nat × Unit => qs.length - x.1) (0, ()) (fun x => qS) ?_ qL qL ?_
  ·exact ⟨Nat.zero_le _, rfl⟩
  rintro ⟨i, _⟩ ⟨g6, g7⟩;simp only at g6 g7
  repeat' (first | apply zC | apply zA | apply zB | refine zF qS qR ?_ ?_ | exact zz0 | exact rfl | fail)
  (refine zE qS ?_ ?_ <;> intro hb <;> have hc := hb <;> (try simp only [bF] at hc) <;> (try (exfalso; simp at hc; done)))
  ·have hi : i < qs.length := by assumption
   have hed : zYy (qs.drop i) = if zFs (qs.getD i default).1 = 0 then zYy (qs.drop (i + 1)) else zFs (qs.getD i default).1 := by
    rw [List.drop_eq_getElem_cons hi, zYy, zz2, List.getElem?_eq_getElem hi]; rfl
   have hx := hok _ (zAk hi);by_cases k1 : (qs.getD i default).1.Kind = 1
   ·have kd : yCb (MK.i (qs.getD i default).1.Kind) = true := by rw [k1]; rfl
    have kf : kF (MK.i (qs.getD i default).1.Kind) = .agg [.fn 189 []] := by rw [k1]; rfl
    have hv : FnV Tryz.prog 189 [] [zDz (qs.getD i default).1] (eInt (zFs (qs.getD i default).1)) := ⟨_, K189, _, ⟨hx, k1⟩, rfl, rfl⟩
    repeat' (first | apply zC | apply zG | apply zD | apply zL | apply zA | apply zB | refine zF (by simp only [go_sem, kd, kf]; rfl) qR ?_ ?_ | refine zJ6 true (by simp only [go_sem, kd, kf]; rfl) (by simp only [go_sem, kd, kf]; first | done | rfl) (by simp only [go_sem, kd, kf]; first | done | rfl) (by simp only [go_sem, kd, kf]; first | done | rfl) (by simp only [go_sem, kd, kf]; first | done | rfl) (by simp only [go_sem, kd, kf]; first | done | rfl) ?_ (by simp only [go_sem, kd, kf]; rfl) ?_ | refine yD (hv) (by simp only [go_sem, kd, kf]) (by simp only [go_sem, kd, kf]) ?_ (by simp only [go_sem, kd, kf]; rfl) ?_ | (refine zE (by simp only [go_sem, kd, kf]; rfl) ?_ ?_ <;> intro hb <;> have hc := hb <;> (try simp only [bF] at hc) <;> (try (exfalso; simp at hc; done))) | refine zI qR ?_ | refine zS (i+1,()) ?_ ?_ ⟨rfl, qL, qL⟩ | exact zz0 | exact rfl | omega | refine zAc.int ?_ | exact qP | fail)
    exact ⟨by simp only; omega, by rw [g7, hed, if_pos hc]⟩
   by_cases k2 : (qs.getD i default).1.Kind = 2
   ·have kd : yCb (MK.i (qs.getD i default).1.Kind) = true := by rw [k2]; rfl
    have kf : kF (MK.i (qs.getD i default).1.Kind) = .agg [.fn 191 []] := by rw [k2]; rfl
    have hv : FnV Tryz.prog 191 [] [zDz (qs.getD i default).1] (eInt (zFs (qs.getD i default).1)) := ⟨_, K191, _, ⟨hx, k2⟩, rfl, rfl⟩
    repeat' (first | apply zC | apply zG | apply zD | apply zL | apply zA | apply zB | refine zF (by simp only [go_sem, kd, kf]; rfl) qR ?_ ?_ | refine zJ6 true (by simp only [go_sem, kd, kf]; rfl) (by simp only [go_sem, kd, kf]; first | done | rfl) (by simp only [go_sem, kd, kf]; first | done | rfl) (by simp only [go_sem, kd, kf]; first | done | rfl) (by simp only [go_sem, kd, kf]; first | done | rfl) (by simp only [go_sem, kd, kf]; first | done | rfl) ?_ (by simp only [go_sem, kd, kf]; rfl) ?_ | refine yD (hv) (by simp only [go_sem, kd, kf]) (by simp only [go_sem, kd, kf]) ?_ (by simp only [go_sem, kd, kf]; rfl) ?_ | (refine zE (by simp only [go_sem, kd, kf]; rfl) ?_ ?_ <;> intro hb <;> have hc := hb <;> (try simp only [bF] at hc) <;> (try (exfalso; simp at hc; done))) | refine zI qR ?_ | refine zS (i+1,()) ?_ ?_ ⟨rfl, qL, qL⟩ | exact zz0 | exact rfl | omega | refine zAc.int ?_ | exact qP | fail)
    exact ⟨by simp only; omega, by rw [g7, hed, if_pos hc]⟩
   by_cases k3 : (qs.getD i default).1.Kind = 3
   ·have kd : yCb (MK.i (qs.getD i default).1.Kind) = true := by rw [k3]; rfl
    have kf : kF (MK.i (qs.getD i default).1.Kind) = .agg [.fn 192 [.fp [.fn 188 []]]] := by rw [k3]; rfl
    have hv : FnV Tryz.prog 192 [.fp [.fn 188 []]] [zDz (qs.getD i default).1] (eInt (zFs (qs.getD i default).1)) := ⟨_, K192, _, ⟨hx, k3⟩, rfl, rfl⟩
    repeat' (first | apply zC | apply zG | apply zD | apply zL | apply zA | apply zB | refine zF (by simp only [go_sem, kd, kf]; rfl) qR ?_ ?_ | refine zJ6 true (by simp only [go_sem, kd, kf]; rfl) (by simp only [go_sem, kd, kf]; first | done | rfl) (by simp only [go_sem, kd, kf]; first | done | rfl) (by simp only [go_sem, kd, kf]; first | done | rfl) (by simp only [go_sem, kd, kf]; first | done | rfl) (by simp only [go_sem, kd, kf]; first | done | rfl) ?_ (by simp only [go_sem, kd, kf]; rfl) ?_ | refine yD (hv) (by simp only [go_sem, kd, kf]) (by simp only [go_sem, kd, kf]) ?_ (by simp only [go_sem, kd, kf]; rfl) ?_ | (refine zE (by simp only [go_sem, kd, kf]; rfl) ?_ ?_ <;> intro hb <;> have hc := hb <;> (try simp only [bF] at hc) <;> (try (exfalso; simp at hc; done))) | refine zI qR ?_ | refine zS (i+1,()) ?_ ?_ ⟨rfl, qL, qL⟩ | exact zz0 | exact rfl | omega | refine zAc.int ?_ | exact qP | fail)
    exact ⟨by simp only; omega, by rw [g7, hed, if_pos hc]⟩
   by_cases k4 : (qs.getD i default).1.Kind = 4
   ·have kd : yCb (MK.i (qs.getD i default).1.Kind) = true := by rw [k4]; rfl
    have kf : kF (MK.i (qs.getD i default).1.Kind) = .agg [.fn 193 [.fp [.fn 188 []]]] := by rw [k4]; rfl
    have hv : FnV Tryz.prog 193 [.fp [.fn 188 []]] [zDz (qs.getD i default).1] (eInt (zFs (qs.getD i default).1)) := ⟨_, K193, _, ⟨hx, k4⟩, rfl, rfl⟩
    repeat' (first | apply zC | apply zG | apply zD | apply zL | apply zA | apply zB | refine zF (by simp only [go_sem, kd, kf]; rfl) qR ?_ ?_ | refine zJ6 true (by simp only [go_sem, kd, kf]; rfl) (by simp only [go_sem, kd, kf]; first | done | rfl) (by simp only [go_sem, kd, kf]; first | done | rfl) (by simp only [go_sem, kd, kf]; first | done | rfl) (by simp only [go_sem, kd, kf]; first | done | rfl) (by simp only [go_sem, kd, kf]; first | done | rfl) ?_ (by simp only [go_sem, kd, kf]; rfl) ?_ | refine yD (hv) (by simp only [go_sem, kd, kf]) (by simp only [go_sem, kd, kf]) ?_ (by simp only [go_sem, kd, kf]; rfl) ?_ | (refine zE (by simp only [go_sem, kd, kf]; rfl) ?_ ?_ <;> intro hb <;> have hc := hb <;> (try simp only [bF] at hc) <;> (try (exfalso; simp at hc; done))) | refine zI qR ?_ | refine zS (i+1,()) ?_ ?_ ⟨rfl, qL, qL⟩ | exact zz0 | exact rfl | omega | refine zAc.int ?_ | exact qP | fail)
    exact ⟨by simp only; omega, by rw [g7, hed, if_pos hc]⟩
   have kd : yCb (MK.i (qs.getD i default).1.Kind) = false := by simp only [yCb, zFl, MKi]; simp only [k1, k2, k3, k4, decide_false, Bool.or_self]
   have k13 : zFs (qs.getD i default).1 = 13 := by rw [zFs, if_neg k1, if_neg k2, if_neg k3, if_neg k4]
   have hz0 : (#[Value.nilFunc].all (fun a => a.oneCell') 0 1) = true := by first | kernel_rfl | simp [Value.oneCell'] | decide
   repeat' (first | apply zC | apply zG | apply zD | apply zA | apply zB | refine zF (by simp only [go_sem, kd, hz0]; rfl) qR ?_ ?_ | refine zJ6 false (by simp only [go_sem, kd, hz0]; rfl) (by simp only [go_sem, kd, hz0]; first | done | rfl) (by simp only [go_sem, kd, hz0]; first | done | rfl) (by simp only [go_sem, kd, hz0]; first | done | rfl) (by simp only [go_sem, kd, hz0]; first | done | rfl) (by simp only [go_sem, kd, hz0]; first | done | rfl) ?_ (by simp only [go_sem, kd, hz0]; rfl) ?_ | (refine zE (by simp only [go_sem, kd, hz0]; rfl) ?_ ?_ <;> intro hb <;> have hc := hb <;> (try simp only [bF] at hc) <;> (try (exfalso; simp at hc; done))) | refine zI qR ?_ | exact zz0 | exact rfl | omega | refine zAc.int ?_ | exact qP | fail)
   all_goals (rw [g7, hed, k13]; rfl)
  ·repeat' (first | apply zC | apply zA | apply zB | refine zF qS qR ?_ ?_ | refine zI qR ?_ | refine zK qR ?_ | exact zz0 | exact rfl | refine zAc.int ?_ | fail)
   rw [g7, List.drop_of_length_le (by omega)]; rfl
end Go.Sx
namespace Go.Sx
open Go.Proofs Go.RowKit
attribute [local irreducible] Run zAi zAy OpT zAc SLe OLe
set_option maxHeartbeats 2000000
set_option maxRecDepth 8000
set_option maxHeartbeats 20000000
@[go_sem] theorem plT161a : plT Tryz.prog 161 0 = some (0, 2) := by kernel_rfl
@[go_sem] theorem plT161b : plT Tryz.prog 161 1 = some (2, 2) := by kernel_rfl
@[go_sem] theorem tn0 : Int.toNat 0 = 0 := rfl
@[go_sem] theorem tn1 : Int.toNat 1 = 1 := rfl
structure POk (d : Nat) (p : Programme) : Prop where
 need : WOk d p.Need
 name : p.Name.size ≤ 100000
 excl : ∀ x ∈ p.Exclude, Asc x.1.Code ∧ Asc x.2.Code
def zPq (p : Programme) : Bool := !(decide (1 ≤ p.Id) && decide (p.Id ≤ 999999)) || !(decide (1 ≤ p.Version) && decide (p.Version ≤ 20)) || !(decide (0 ≤ p.From) && decide (p.From ≤ 100000)) || !(decide (0 ≤ p.Total) && decide (p.Total ≤ 600)) || !(decide (0 ≤ p.Own) && decide (p.Own ≤ 600)) || !(decide (0 ≤ p.Age) && decide (p.Age ≤ 100))
def zTi (l : List (Course × Course)) : List (Course × Course) → Nat → Int
 | [], _ => 0
 | x :: r, k => if !zHy x.1 || !zHy x.2 then 1 else if !zMg x.1 x.2 then 7 else if (l.take k).any (fun y => zE8 x y) then 6 else zTi l r (k + 1)
def zHf (d : Nat) (p : Programme) : Int :=
 if !(decide (1 ≤ p.School) && decide (p.School ≤ 8)) then 1
 else if zPq p then 3
 else if !nameB p.Name then 1
 else if zSb (zAd d 1 p.Need) = 0 then (if decide (8 < (p.Exclude.length : Int)) then 2 else zTi p.Exclude p.Exclude 0)
 else zSb (zAd d 1 p.Need)
end Go.Sx
