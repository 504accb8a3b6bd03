/- Lemmas on the judge: A23, A18, J90. -/
import Derived.Test.YtmbocmonhcplhaaGreatA22
import Derived.Test.YtmbocmonhcplhaaGreatP17
import Derived.Test.YtmbocmonhcplhaaGreatJ8
set_option linter.all false
set_option maxHeartbeats 40000000
set_option maxRecDepth 8000
namespace Go.Sx
open Go.Proofs Tryz Go.RowKit
attribute [local irreducible] Run zAg zAs OpT zAc SLe OLe
attribute [go_sem] zC7 asA asS zNn
theorem yKu (d : Nat) (ih : FnM prog 159 (fun ds os r os' => ∃ (n : Need) (s : Scale) (l : List Ach) (nx : Nat) (v : Option (List Int)), (VOk d n /\ l.length <= 10 /\ (zE2 s l (alV v) (foV v) d n nx).2 < 1000000 /\ vOk v) /\ ds = [zAh n, .fp [zAj 8 zCk l], .fp [.fn (faN v) (caV v)], .loc 1000 0, .fp (scC s), .loc 1001 0, .fp [.fn (ffN v) (caV v)]] /\ os = [.var [eInt (nx : Nat)], zVr v s l] /\ r = .acc 1 /\ os' = [(1000, .var [eInt ((zE2 s l (alV v) (foV v) d n nx).2 : Nat)]), (1001, zVr v s l), (1, aB (2 ^ l.length) (zE2 s l (alV v) (foV v) d n nx).1)])) :
  FnM prog 159 (fun ds os r os' => ∃ (n : Need) (s : Scale) (l : List Ach) (nx : Nat) (v : Option (List Int)), (zBo n = false /\ VOk (d + 1) n /\ l.length <= 10 /\ (zE2 s l (alV v) (foV v) (d + 1) n nx).2 < 1000000 /\ vOk v) /\ ds = [zAh n, .fp [zAj 8 zCk l], .fp [.fn (faN v) (caV v)], .loc 1000 0, .fp (scC s), .loc 1001 0, .fp [.fn (ffN v) (caV v)]] /\ os = [.var [eInt (nx : Nat)], zVr v s l] /\ r = .acc 1 /\ os' = [(1000, .var [eInt ((zE2 s l (alV v) (foV v) (d + 1) n nx).2 : Nat)]), (1001, zVr v s l), (1, aB (2 ^ l.length) (zE2 s l (alV v) (foV v) (d + 1) n nx).1)]) := by
 refine zA8 call159 func159 rfl ntmps159 ?_;rintro ds os d os' ⟨n, s, l, nx, v, ⟨h0, ⟨hN, hL, hk, hV⟩, h2, h3, h4⟩, rfl, rfl, rfl, rfl⟩;refine ⟨by simp, fun F w0 => ?_⟩;have esh := yGb l.length (by omega);have h2k : (2 : Nat) ^ l.length <= 2 ^ 10 := Nat.pow_le_pow_right (by omega) h2;have hpos := Nat.two_pow_pos l.length;have hmt : ∀ (c : Need) (nx : Nat), VOk d c -> (zE2 s l (alV v) (foV v) d c nx).2 < 1000000 -> FnM prog 159 (fun ds os r os' => ds = [zAh c, .fp [zAj 8 zCk l], .fp [.fn (faN v) (caV v)], .loc 1000 0, .fp (scC s), .loc 1001 0, .fp [.fn (ffN v) (caV v)]] /\ os = [.var [eInt (nx : Nat)], zVr v s l] /\ r = .acc 1 /\ os' = [(1000, .var [eInt ((zE2 s l (alV v) (foV v) d c nx).2 : Nat)]), (1001, zVr v s l), (1, aB (2 ^ l.length) (zE2 s l (alV v) (foV v) d c nx).1)]) := fun c nx hc hx => ⟨ih.call, fun ds os r os' ⟨e1, e2, e3, e4⟩ => ih.ok ds os r os' ⟨c, s, l, nx, v, ⟨hc, h2, hx, h4⟩, e1, e2, e3, e4⟩⟩;clear ih;simp only [zE2, h0, Bool.false_eq_true, if_false] at h3 |-;have hge : ∀ c nx, nx <= (zE2 s l (alV v) (foV v) d c nx).2 := zV3 s l _ _ d;generalize zE2 s l (alV v) (foV v) d = vis at h3 hmt hge |-;generalize 2 ^ l.length = M at esh h2k hpos hmt |-;have hMk : M <= 1024 := h2k
 repeat' (first | refine wB ?_ | refine zC (by simp only [go_sem, esh, h0]; rfl) qR ?_ ?_ | refine zG yKt (by simp only [go_sem, esh, h0]; first | done | rfl) ?_ ⟨n, rfl, rfl⟩ (by simp only [go_sem, esh, h0]; rfl) ?_ | exact qT | exact qP | fail)
 (refine zAa qS qC qC ?_ ?_ <;> intro hb hc <;> try (simp at hc; done))
 repeat' (first | refine wA ?_ | refine zC qS qR ?_ ?_ | exact qT | exact qP | fail)
 refine zH [1, 2, 3, 4, 5, 6, 7, 9, 12] (fun x : Nat × (Nat -> Int) => [(13, .int .i64 x.1)]) (fun x => [(2, aI M x.2)]) (fun x => (1 <= x.1 /\ x.1 <= M) /\ ∀ z, z < M -> x.2 z = if z = 0 then 0 else if z < x.1 then -1 else 0) (fun x => M - x.1) (1, fun _ => 0) (fun x => qS) ?_ qL qL ?_
 ·exact ⟨⟨zyj _, hpos⟩, fun z _ => by simp⟩
 rintro ⟨set, T⟩ ⟨⟨g1, g2⟩, g3⟩;simp only at g1 g2 g3;have e2 : IntKind.i64.wrap ((set : Int) + 1) = ((set + 1 : Nat) : Int) := by rw [w64]; omega
 repeat' (first | refine wA ?_ | exact qT | fail)
 (refine zAa qS qC qC ?_ ?_ <;> intro hb hc <;> try (simp at hc; done))
 ·have hset : set < M := by assumption
  repeat' (first | refine wB ?_ | refine zC (by simp only [go_sem, e2]; rfl) qR ?_ ?_ | exact qT | exact qP | fail)
  refine zK (o' := aI M fun z => if z = set then -1 else T z) 2 qR (OLe.accS rfl fun z _ => ?_) ?_
  ·unfold Sx.setF
   by_cases hz : z = set
   ·subst hz
    simp only [if_true]
   ·simp only [if_neg hz]
  refine zL (set + 1, fun z => if z = set then -1 else T z) ?_ ?_ ⟨rfl, qL, qL⟩
  ·refine ⟨⟨by simp only; omega, by simp only; omega⟩, fun z hz => ?_⟩
   simp only;by_cases hzs : z = set
   ·rw [if_pos hzs, if_neg (by omega), if_pos (by omega)]
   ·rw [if_neg hzs, g3 z hz]
    by_cases h0 : z = 0
    ·rw [if_pos h0, if_pos h0]
    ·rw [if_neg h0, if_neg h0]
     by_cases hlt : z < set
     ·rw [if_pos hlt, if_pos (by omega)]
     ·rw [if_neg hlt, if_neg (by omega)]
  ·simp only; omega
 have hset : set = M := by omega
 refine zK (o' := aI M fun z => if z = 0 then 0 else -1) 2 qR (OLe.accS rfl fun z hz => ?_) ?_
 ·rw [g3 z hz, hset, if_pos hz]
 refine zI 2 qS ?_;clear hset g3 g2 g1 e2
 repeat' (first | refine wA ?_ | refine zF qR ?_ | exact qT | fail)
 refine zH [1, 2, 3, 4, 5, 6, 7, 9, 12, 72, 73] (fun x : Nat × (Nat -> Int) × Nat => [(74, .int .i64 x.1)]) (fun x => [(3, .var [eI M x.2.1]), (1000, .var [eInt (x.2.2 : Nat)])]) (fun x => x.1 <= n.L.length /\ zEa vis (n.Kind == 4) (foV v) n.L (fun z => if z = 0 then 0 else -1) nx = zEa vis (n.Kind == 4) (foV v) (n.L.drop x.1) x.2.1 x.2.2) (fun x => n.L.length - x.1) (0, (fun z => if z = 0 then 0 else -1), nx) (fun x => qS) ?_ qL qL ?_
 ·exact ⟨zz7 _, rfl⟩
 rintro ⟨i, be, nx1⟩ ⟨g1, g2⟩;simp only at g1 g2
 repeat' (first | refine wA ?_ | exact qT | fail)
 (refine zAa qS qC qC ?_ ?_ <;> intro hb hc <;> try (simp at hc; done))
 ·have hi : i < n.L.length := by assumption
  have en : zBe (zDh n.L) i = zAh (n.L.getD i default) := by rw [zDl _ _ hi, zFt, zEp]; rfl
  rw [zAr _ _ hi, zEa] at g2
  have hb1 : (vis (n.L.getD i default) nx1).2 < 1000000 := by
   refine Nat.lt_of_le_of_lt ?_ h3;rw [g2];exact zRf hge _ _ _
  have hm := hmt (n.L.getD i default) nx1 (hV _ (zAi hi)) hb1;generalize vis (n.L.getD i default) nx1 = r at g2 hb1 hm;obtain ⟨ow, nx2⟩ := r;simp only at g2 hb1 hm;have hfo := yKf v nx1 nx2;generalize foV v nx1 nx2 = q at g2 hfo;obtain ⟨A, hA⟩ : ∃ A : Nat -> Int, (fun set => zFb ow be set (set + 1) set (if (n.Kind == 4 && !q) = true then be set else -1)) = A := ⟨_, rfl⟩;rw [hA] at g2;have hA2 : ∀ set, A set = zFb ow be set (set + 1) set (if (n.Kind == 4 && !q) = true then be set else -1) := fun set => (congrFun hA set).symm;clear hA
  repeat' (first | refine zI 6 qS ?_ | refine wB ?_ | refine zC (by simp only [go_sem, en]; rfl) qR ?_ ?_ | refine zB7 [1000, 1001] hm (by first | (simp only [go_sem, en]; done) | (simp only [go_sem, en]; rfl)) qR (by simp only [go_sem, en]; first | done | rfl) (by first | (simp only [go_sem, en]; done) | rfl) (by first | (simp only [go_sem, en]; done) | (simp only [go_sem, en]; rfl)) ?_ ⟨rfl, rfl, rfl, rfl⟩ (by simp only [go_sem, en]; rfl) ?_ | refine zMi 85 qR (by simp only [go_sem, en]; rfl) (hfo) (by simp only [go_sem, en]) (by simp only [go_sem, en]) (fun hg => ?_) (by simp only [go_sem, en]; rfl) ?_ | exact qT | exact qP | fail)
  refine zH [1, 2, 3, 4, 5, 6, 7, 9, 12, 17, 18, 19, 72, 73, 74, 96] (fun x : Nat × (Nat -> Int) => [(97, .int .i64 x.1)]) (fun x => [(8, aI M x.2)]) (fun x => x.1 <= M /\ ∀ z, z < x.1 -> x.2 z = A z) (fun x => M - x.1) (0, fun _ => 0) (fun x => qS) ?_ qL qL ?_
  ·exact ⟨zz7 _, fun z hz => absurd hz (zyi z)⟩
  rintro ⟨set, T⟩ ⟨g3, g4⟩;simp only at g3 g4
  repeat' (first | refine wA ?_ | exact qT | fail)
  (refine zAa qS qC qC ?_ ?_ <;> intro hb hc <;> try (simp at hc; done))
  ·have hset : set < M := by assumption
   have hstep : ∀ v0, (if (n.Kind == 4 && !q) = true then be set else -1) = v0 -> ∀ z, z < set + 1 -> zH5 ow be set (set + 1) set (fun z => if z = set then v0 else T z) z = A z := fun v0 hv0 z hz => by
    rw [zTx];by_cases hzs : z = set
    ·rw [if_pos hzs, if_pos rfl, hzs, hA2, hv0]
    ·rw [if_neg hzs, if_neg hzs, g4 z (by omega)]
   repeat' (first | refine wA ?_ | refine zC qS qR ?_ ?_ | exact qT | exact qP | fail)
   (refine zAa qS qC qC ?_ ?_ <;> intro hb hc <;> try (simp at hc; done))
   ·have hv0 := hstep _ (if_pos hb)
    repeat' (first | refine wA ?_ | refine zC qS qR ?_ ?_ | refine zQx qS qR ?_ (by simp only [go_sem, zBx, zVo, zJd, zZx, zDe, keysA, zMc]; rfl) ?_ | refine zJ qK qK ?_ | refine zSk qS qS ?_ | exact qT | exact qP | fail)
    refine zJh (o' := aI M fun z => if z = set then be set else T z) 8 qR (OLe.accS rfl fun z _ => ?_) ?_
    ·unfold Sx.setF
     by_cases hz : z = set
     ·subst hz
      simp only [if_true]
     ·simp only [if_neg hz]
    repeat' (first | refine wA ?_ | refine zO [7, 3, 9, 10, 8] K164 qR qD qZ qF ?_ ⟨M, ow, be, _, set, ⟨hset, hMk⟩, rfl, rfl, rfl, rfl⟩ qS ?_ | exact qT | fail)
    refine zL (set + 1, zH5 ow be set (set + 1) set fun z => if z = set then be set else T z) ?_ ?_ ⟨rfl, qL, qL⟩
    ·exact ⟨by simp only; omega, hv0⟩
    ·simp only; omega
   ·have hv0 := hstep _ (if_neg (by rw [hb]; simp))
    repeat' (first | refine wA ?_ | exact qT | fail)
    refine zJh (o' := aI M fun z => if z = set then -1 else T z) 8 qR (OLe.accS rfl fun z _ => ?_) ?_
    ·unfold Sx.setF
     by_cases hz : z = set
     ·subst hz
      simp only [if_true]
     ·simp only [if_neg hz]
    repeat' (first | refine wA ?_ | refine zO [7, 3, 9, 10, 8] K164 qR qD qZ qF ?_ ⟨M, ow, be, _, set, ⟨hset, hMk⟩, rfl, rfl, rfl, rfl⟩ qS ?_ | exact qT | fail)
    refine zL (set + 1, zH5 ow be set (set + 1) set fun z => if z = set then -1 else T z) ?_ ?_ ⟨rfl, qL, qL⟩
    ·exact ⟨by simp only; omega, hv0⟩
    ·simp only; omega
  ·have hset : set = M := by omega
   refine zK (o' := aI M A) 8 qR (OLe.accS rfl fun z hz => ?_) ?_
   ·rw [g4 z (by omega)]
   refine zI 8 qS ?_
   repeat' (first | refine wA ?_ | refine zF qR ?_ | exact qT | fail)
   refine zL (i + 1, A, nx2) ?_ ?_ ⟨rfl, qL, qL⟩
   ·exact ⟨by simp only; omega, g2⟩
   ·simp only; omega
 have hi : i = n.L.length := by omega
 have hd : n.L.drop i = [] := List.drop_eq_nil_of_le (by omega);rw [hd, zEa] at g2;rw [g2];clear hmt h3 g2 hge;obtain ⟨X, hX0⟩ : ∃ X, (if n.Kind = 3 then (n.L.length : Int) else n.N) = X := ⟨_, rfl⟩;rw [hX0];have hX1 : n.Kind = 3 -> ((n.L.length : Nat) : Int) = X := fun h => by rw [<- hX0, if_pos h]
 have hX2 : ¬ n.Kind = 3 -> n.N = X := fun h => by rw [<- hX0, if_neg h]
 clear hX0
 repeat' (first | refine wA ?_ | refine zF qR ?_ | exact qT | fail)
 (refine zAa qS qC qC ?_ ?_ <;> intro hb hc <;> try (simp at hc; done))
 ·have hX := hX1 hc
  repeat' (first | refine wA ?_ | exact qT | fail)
  refine zH [1, 2, 3, 4, 5, 6, 7, 9, 12, 21] (fun x : Nat × (Nat -> Bool) => [(22, .int .i64 x.1)]) (fun x => [(1, aB M x.2)]) (fun x => (1 <= x.1 /\ x.1 <= M) /\ ∀ z, z < M -> x.2 z = if z < x.1 then decide (0 < z) && decide (X <= be z) else false) (fun x => M - x.1) (1, fun _ => false) (fun x => qS) ?_ qL qL ?_
  ·refine ⟨⟨zyj _, hpos⟩, fun z _ => ?_⟩
   simp only;split
   ·have : z = 0 := by omega
    subst this; rfl
   ·rfl
  rintro ⟨set, T⟩ ⟨⟨g1, g2⟩, g3⟩;simp only at g1 g2 g3;have e2 : IntKind.i64.wrap ((set : Int) + 1) = ((set + 1 : Nat) : Int) := by rw [w64]; omega
  repeat' (first | refine wA ?_ | exact qT | fail)
  (refine zAa qS qC qC ?_ ?_ <;> intro hb hc <;> try (simp at hc; done))
  ·have hset : set < M := by assumption
   repeat' (first | refine wB ?_ | refine zC (by simp only [go_sem, e2]; rfl) qR ?_ ?_ | exact qT | exact qP | fail)
   refine zK (o' := aB M fun z => if z = set then decide (0 < z) && decide (X <= be z) else T z) 1 qR (OLe.accS rfl fun z _ => ?_) ?_
   ·unfold Sx.setF
    by_cases hz : z = set
    ·subst hz
     simp only [if_true, zyr (show 0 < z by omega), zyg, hX]
    ·simp only [if_neg hz]
   refine zL (set + 1, fun z => if z = set then decide (0 < z) && decide (X <= be z) else T z) ?_ ?_ ⟨rfl, qL, qL⟩
   ·refine ⟨⟨by simp only; omega, by simp only; omega⟩, fun z hz => ?_⟩
    simp only;by_cases hzs : z = set
    ·rw [if_pos hzs, if_pos (by omega)]
    ·rw [if_neg hzs, g3 z hz]
     by_cases hlt : z < set
     ·rw [if_pos hlt, if_pos (by omega)]
     ·rw [if_neg hlt, if_neg (by omega)]
   ·simp only; omega
  ·have hset : set = M := by omega
   repeat' (first | refine wA ?_ | refine zF qR ?_ | exact qT | fail)
   refine zK (o' := aB M fun z => decide (0 < z) && decide (X <= be z)) 1 qR (OLe.accS rfl fun z hz => ?_) ?_
   ·rw [g3 z hz, if_pos (by omega)]
   refine zV qR qS ?_ ?_
   ·exact SLe.refl _
   ·exact qO
 ·have hX := hX2 hc
  repeat' (first | refine wA ?_ | exact qT | fail)
  refine zH [1, 2, 3, 4, 5, 6, 7, 9, 12, 21] (fun x : Nat × (Nat -> Bool) => [(22, .int .i64 x.1)]) (fun x => [(1, aB M x.2)]) (fun x => (1 <= x.1 /\ x.1 <= M) /\ ∀ z, z < M -> x.2 z = if z < x.1 then decide (0 < z) && decide (X <= be z) else false) (fun x => M - x.1) (1, fun _ => false) (fun x => qS) ?_ qL qL ?_
  ·refine ⟨⟨zyj _, hpos⟩, fun z _ => ?_⟩
   simp only;split
   ·have : z = 0 := by omega
    subst this; rfl
   ·rfl
  rintro ⟨set, T⟩ ⟨⟨g1, g2⟩, g3⟩;simp only at g1 g2 g3;have e2 : IntKind.i64.wrap ((set : Int) + 1) = ((set + 1 : Nat) : Int) := by rw [w64]; omega
  repeat' (first | refine wA ?_ | exact qT | fail)
  (refine zAa qS qC qC ?_ ?_ <;> intro hb hc <;> try (simp at hc; done))
  ·have hset : set < M := by assumption
   repeat' (first | refine wB ?_ | refine zC (by simp only [go_sem, e2]; rfl) qR ?_ ?_ | exact qT | exact qP | fail)
   refine zK (o' := aB M fun z => if z = set then decide (0 < z) && decide (X <= be z) else T z) 1 qR (OLe.accS rfl fun z _ => ?_) ?_
   ·unfold Sx.setF
    by_cases hz : z = set
    ·subst hz
     simp only [if_true, zyr (show 0 < z by omega), zyg, hX]
    ·simp only [if_neg hz]
   refine zL (set + 1, fun z => if z = set then decide (0 < z) && decide (X <= be z) else T z) ?_ ?_ ⟨rfl, qL, qL⟩
   ·refine ⟨⟨by simp only; omega, by simp only; omega⟩, fun z hz => ?_⟩
    simp only;by_cases hzs : z = set
    ·rw [if_pos hzs, if_pos (by omega)]
    ·rw [if_neg hzs, g3 z hz]
     by_cases hlt : z < set
     ·rw [if_pos hlt, if_pos (by omega)]
     ·rw [if_neg hlt, if_neg (by omega)]
   ·simp only; omega
  ·have hset : set = M := by omega
   repeat' (first | refine wA ?_ | refine zF qR ?_ | exact qT | fail)
   refine zK (o' := aB M fun z => decide (0 < z) && decide (X <= be z)) 1 qR (OLe.accS rfl fun z hz => ?_) ?_
   ·rw [g3 z hz, if_pos (by omega)]
   refine zV qR qS ?_ ?_
   ·exact SLe.refl _
   ·exact qO
theorem K159 (d : Nat) : FnM prog 159 (fun ds os r os' => ∃ (n : Need) (s : Scale) (l : List Ach) (nx : Nat) (v : Option (List Int)), (VOk d n /\ l.length <= 10 /\ (zE2 s l (alV v) (foV v) d n nx).2 < 1000000 /\ vOk v) /\ ds = [zAh n, .fp [zAj 8 zCk l], .fp [.fn (faN v) (caV v)], .loc 1000 0, .fp (scC s), .loc 1001 0, .fp [.fn (ffN v) (caV v)]] /\ os = [.var [eInt (nx : Nat)], zVr v s l] /\ r = .acc 1 /\ os' = [(1000, .var [eInt ((zE2 s l (alV v) (foV v) d n nx).2 : Nat)]), (1001, zVr v s l), (1, aB (2 ^ l.length) (zE2 s l (alV v) (foV v) d n nx).1)]) := by
 induction d with
 | zero => exact ⟨yCk.call, fun ds os r os' ⟨n, s, l, nx, v, ⟨h1, h2, h3, h4⟩, e1, e2, e3, e4⟩ => yCk.ok ds os r os' ⟨n, s, l, nx, v, ⟨h1, h2, Nat.lt_of_succ_lt h3, h4⟩, e1, e2, e3, e4⟩⟩
 | succ d ih =>
  refine ⟨yCk.call, fun ds os r os' ⟨n, s, l, nx, v, ⟨h1, h2, h3, h4⟩, e1, e2, e3, e4⟩ => ?_⟩;cases hlf : zBo n
  ·exact (yKu d ih).ok ds os r os' ⟨n, s, l, nx, v, ⟨hlf, h1, h2, h3, h4⟩, e1, e2, e3, e4⟩
  ·have hv : zE2 s l (alV v) (foV v) (d + 1) n nx = (yFn s l (alV v) n nx, nx + 1) := by simp only [zE2, if_pos hlf]; rfl
   rw [hv] at h3 e4;exact yCk.ok ds os r os' ⟨n, s, l, nx, v, ⟨hlf, h2, Nat.lt_of_succ_lt h3, h4⟩, e1, e2, e3, e4⟩
theorem zO9 (a b : Course) : zD2 a b = zD2 b a := by
 simp only [zD2];rw [Bool.eq_iff_iff];simp only [zz3, beq_iff_eq];exact ⟨fun h => ⟨h.1.symm, h.2.symm⟩, fun h => ⟨h.1.symm, h.2.symm⟩⟩
theorem zYp {n : Need} (h : zBo n = true) (s : Scale) (a : Ach) : zRm n s a = zJo n s a := by
 simp only [zRm, zJo, h, zyg]
 congr 2
 funext y
 exact zO9 _ _
def zP1 (n : Need) (s : Scale) (p : Nat) : List Ach -> Nat -> Bool
 | [], _ => true
 | a :: r, k => (if p.testBit k then zRm n s a else true) && zP1 n s p r (k + 1)
theorem zM7 (n : Need) (s : Scale) (p : Nat) : ∀ (l : List Ach) (k m : Nat) (c : Int) (f : Bool), m + l.length <= 1000 -> zHm n s p.testBit l k ⟨(m : Nat), c, f⟩ = ⟨((m + mnF p l k : Nat) : Int), crF p l k c, f && zP1 n s p l k⟩
 | [], k, m, c, f, _ => by simp [zHm, mnF, crF, zP1]
 | a :: r, k, m, c, f, h => by
  have hl : (a :: r).length = r.length + 1 := rfl;rw [zHm, mnF, crF, zP1];cases hb : p.testBit k
  ·simp only [Bool.false_eq_true, if_false, Nat.zero_add, zyg]
   exact zM7 n s p r (k + 1) m c f (by omega)
  ·have e : IntKind.i64.wrap ((m : Int) + 1) = ((m + 1 : Nat) : Int) := by rw [w64]; omega
   simp only [if_true, e];rw [zM7 n s p r (k + 1) (m + 1) _ _ (by omega), Nat.add_assoc, Bool.and_assoc]
theorem zTs (n : Need) (s : Scale) (p : Nat) : ∀ (l : List Ach) (k : Nat), zP1 n s p l k = true ↔ ∀ j, j < l.length -> p.testBit (k + j) = true -> zRm n s (l.getD j default) = true
 | [], k => by simp [zP1]
 | a :: r, k => by
  rw [zP1, zz3, zTs n s p r (k + 1)]
  constructor
  ·rintro ⟨h1, h2⟩ j hj hb
   cases j with
   | zero =>
    rw [Nat.add_zero] at hb;rw [if_pos hb] at h1; exact h1
   | succ j => exact h2 j (by simpa using hj) (by rw [show k + 1 + j = k + (j + 1) by omega]; exact hb)
  ·intro h
   refine ⟨?_, fun j hj hb => h (j + 1) (by simpa using hj) (by rw [show k + (j + 1) = k + 1 + j by omega]; exact hb)⟩;split
   ·rename_i hb
    exact h 0 (by simp) hb
   ·rfl
theorem zS9 {n : Need} (hk : zBo n = true) (s : Scale) (l : List Ach) (hl : l.length <= 10) (p : Nat) (hp : p < 2 ^ l.length) : zVs n (zDu n s l p.testBit) = true ↔ (∀ j, p.testBit j = true -> Fits n s l j) /\ zJy n l p = true := by
 have hw := zM7 n s p l 0 0 0 true (by omega)
 have hf : zP1 n s p l 0 = true ↔ ∀ j, p.testBit j = true -> Fits n s l j := by
  rw [zTs]
  constructor
  ·intro h j hj
   have hjl := zFv hp hj;exact ⟨hjl, by rw [<- zYp hk]; exact h j hjl (by rw [Nat.zero_add]; exact hj)⟩
  ·intro h j hj hb
   rw [Nat.zero_add] at hb;rw [zYp hk];exact (h j hb).2
 rw [zDu, show (⟨0, 0, true⟩ : Load) = ⟨((0 : Nat) : Int), 0, true⟩ from rfl, hw, <- hf];simp only [zVs, zJy, zI0, Nat.zero_add, zyg];by_cases h1 : n.Kind = 1
 ·have h2 : (n.Kind == 1) = true := by rw [h1]; rfl
  simp only [if_pos h1, h2, if_true, zz3, beq_iff_eq];exact and_congr_right fun _ => by omega
 ·have h2 : (n.Kind == 1) = false := by rw [beq_eq_false_iff_ne]; exact h1
  simp only [if_neg h1, h2, Bool.false_eq_true, if_false, zz3, zyf, and_assoc];refine and_congr_right fun _ => and_congr_left fun _ => by omega
def Rz (len : Nat) (P : (Nat -> Bool) -> Prop) (S : Nat -> Bool) (z : Nat) : Prop := ∃ (y : Nat) (g : Nat -> Bool), y < 2 ^ len /\ S y = true /\ (∀ j, g j = true -> j < len) /\ P g /\ (∀ j, g j = true -> y.testBit j = false) /\ ∀ j, z.testBit j = (y.testBit j || g j)
theorem zYa {n : Need} (hk : zBo n = true) (s : Scale) (l : List Ach) (hl : l.length <= 10) (S : Nat -> Bool) (z : Nat) : zJ4 n s l (2 ^ l.length) S z = true ↔ Rz l.length (zX9 n s l) S z := by
 rw [zFl]
 constructor
 ·rintro ⟨p, h1, h2, h3, h4, y, h5, h6, h7, h8⟩
  refine ⟨y, p.testBit, h5, h6, fun j hj => zFv h1 hj, ⟨Nat.exists_testBit_of_ne_zero (by omega), (zS9 hk s l hl p h1).2 ⟨h3, h4⟩⟩, h7, fun j => ?_⟩;rw [<- h8, Nat.testBit_or]
 ·rintro ⟨y, g, h1, h2, h3, ⟨⟨j0, hj0⟩, h5⟩, h6, h7⟩
  obtain ⟨p, hp, rfl⟩ := bitsOf l.length g h3;obtain ⟨h8, h9⟩ := (zS9 hk s l hl p hp).1 h5;refine ⟨p, hp, Nat.pos_of_ne_zero (fun hc => by rw [hc, Nat.zero_testBit] at hj0; cases hj0), h8, h9, y, h1, h2, h6, Nat.eq_of_testBit_eq fun j => ?_⟩;rw [Nat.testBit_or, h7]
theorem yH5 {sem : Need -> (Nat -> Bool) -> Prop} {q q' : Bool} (hq : q = true -> q' = true) : ∀ (L : List Need) (B B' : Nat -> (Nat -> Bool) -> Prop), (∀ i g, B i g -> B' i g) -> ∀ i g, zFm sem q L B i g -> zFm sem q' L B' i g
 | [], _, _, h, i, g, hk => h i g hk
 | c :: r, B, B', h, i, g, hk => by
  refine yH5 hq r (zHx sem q c B) (zHx sem q' c B') (fun i g hs => ?_) i g hk
  rcases hs with ⟨h1, h2⟩ | ⟨i', a, h1, h2, h3, h4, h5⟩
  ·exact .inl ⟨hq h1, h i g h2⟩
  ·exact .inr ⟨i', a, h1, h2, h3, h4, h _ _ h5⟩
theorem yH7 {sem : Need -> (Nat -> Bool) -> Prop} {q : Bool} : ∀ (L : List Need) (B : Nat -> (Nat -> Bool) -> Prop) (b : Nat), (∀ i g, B i g -> i <= b) -> ∀ i g, zFm sem q L B i g -> i <= b + L.length
 | [], _, b, h, i, g, hk => h i g hk
 | c :: r, B, b, h, i, g, hk => by
  have := yH7 r (zHx sem q c B) (b + 1) (fun i g hs => by
   rcases hs with ⟨_, h2⟩ | ⟨i', a, h1, _, _, _, h5⟩
   ·have := h i g h2; omega
   ·have := h _ _ h5; omega) i g hk
  simp only [List.length_cons]; omega
theorem yC7 {sem : Need -> (Nat -> Bool) -> Prop} : ∀ (L : List Need) (B B' : Nat -> (Nat -> Bool) -> Prop) (b : Nat), (∀ i g, B i g -> i <= b) -> (∀ g, B b g -> B' b g) -> ∀ g, zFm sem true L B (b + L.length) g -> zFm sem false L B' (b + L.length) g
 | [], _, _, b, _, h, g, hk => h g hk
 | c :: r, B, B', b, hb, h, g, hk => by
  have e : b + (c :: r).length = b + 1 + r.length := by simp only [List.length_cons]; omega
  rw [e] at hk |-;refine yC7 r (zHx sem true c B) (zHx sem false c B') (b + 1) (fun i g hs => ?_) (fun g hs => ?_) g hk
  ·rcases hs with ⟨_, h2⟩ | ⟨i', a, h1, _, _, _, h5⟩
   ·have := hb i g h2; omega
   ·have := hb _ _ h5; omega
  ·rcases hs with ⟨_, h2⟩ | ⟨i', a, h1, h2, h3, h4, h5⟩
   ·have := hb _ _ h2; omega
   ·obtain rfl : i' = b := by omega
    exact .inr ⟨i', a, h1, h2, h3, h4, h _ h5⟩
theorem yH6 {sem : Need -> (Nat -> Bool) -> Prop} {q : Bool} : ∀ (L : List Need) (B : Nat -> (Nat -> Bool) -> Prop), (∀ i g, B i g -> 0 < i -> ∃ j, g j = true) -> ∀ i g, zFm sem q L B i g -> 0 < i -> ∃ j, g j = true
 | [], _, h, i, g, hk => h i g hk
 | c :: r, B, h, i, g, hk => yH6 r (zHx sem q c B) (fun i g hs hi => by
   rcases hs with ⟨_, h2⟩ | ⟨i', a, _, ⟨j, hj⟩, h3, _, _⟩
   ·exact h i g h2 hi
   ·exact ⟨j, h3 j hj⟩) i g hk
theorem yKd {sem : Need -> (Nat -> Bool) -> Prop} (L : List Need) (i : Nat) (g : Nat -> Bool) : (zFm sem false L B0 i g /\ L.length <= i) ↔ (zFm sem true L B0 i g /\ L.length <= i) := by
 have hb : ∀ i g, B0 i g -> i <= 0 := fun i g h => by rw [h.1]; exact zyj 0
 constructor
 ·rintro ⟨h1, h2⟩
  exact ⟨yH5 (fun h => by cases h) L B0 B0 (fun _ _ h => h) i g h1, h2⟩
 ·rintro ⟨h1, h2⟩
  have h3 := yH7 L B0 0 hb i g h1;obtain rfl : i = 0 + L.length := by omega
  exact ⟨yC7 L B0 B0 0 hb (fun _ h => h) g h1, h2⟩
def Inv (len : Nat) (met : List (Nat -> Bool)) (B : Nat -> (Nat -> Bool) -> Prop) (S : Nat -> Bool) : Prop := (∀ i z, met.getD i noneS z = true ↔ Rz len (B i) S z) /\ ∀ i g, B i g -> i < met.length
theorem zTn {α : Type} {l : List α} {i : Nat} {d : α} (h : l.length <= i) : l.getD i d = d := by
 rw [zz2, List.getElem?_eq_none h]; rfl
theorem yJ2 {len : Nat} {P : (Nat -> Bool) -> Prop} {S : Nat -> Bool} {z : Nat} (h : Rz len P S z) : z < 2 ^ len := by
 obtain ⟨y, g, h1, _, h3, _, _, h6⟩ := h;refine zMx fun j hj => ?_;rw [h6] at hj
 rcases Bool.or_eq_true_iff.1 hj with h | h
 ·exact zFv h1 h
 ·exact h3 j h
theorem yBn {len : Nat} {met : List (Nat -> Bool)} {B : Nat -> (Nat -> Bool) -> Prop} {S : Nat -> Bool} {sem : Need -> (Nat -> Bool) -> Prop} {c : Need} {A : (Nat -> Bool) -> Nat -> Bool} (hA : ∀ S, (∀ y, S y = true -> y < 2 ^ len) -> ∀ z, A S z = true ↔ Rz len (sem c) S z) (hne : ∀ g, sem c g -> ∃ j, g j = true) (I : Inv len met B S) : Inv len (stepM A met) (zHx sem true c B) S := by
 have hlen : ∀ i g, zHx sem true c B i g -> i < (stepM A met).length := fun i g hs => by
  rw [zEi]
  rcases hs with ⟨_, h2⟩ | ⟨i', a, h1, _, _, _, h5⟩
  ·have := I.2 i g h2; omega
  ·have := I.2 _ _ h5; omega
 refine ⟨fun i z => ?_, hlen⟩
 rcases Nat.lt_or_ge i (met.length + 1) with hi | hi
 ·rw [zIk A met i hi]
  cases i with
  | zero =>
   rw [if_pos rfl, I.1 0 z]
   constructor
   ·rintro ⟨y, g, h1, h2, h3, h4, h5⟩
    exact ⟨y, g, h1, h2, h3, .inl ⟨rfl, h4⟩, h5⟩
   ·rintro ⟨y, g, h1, h2, h3, h4, h5⟩
    rcases h4 with ⟨_, h4⟩ | ⟨i', a, h6, _⟩
    ·exact ⟨y, g, h1, h2, h3, h4, h5⟩
    ·omega
  | succ i =>
   rw [if_neg (by omega), orS, Bool.or_eq_true, I.1 (i + 1) z, Nat.add_sub_cancel, hA _ (fun y hy => yJ2 ((I.1 i y).1 hy))]
   constructor
   ·rintro (⟨y, g, h1, h2, h3, h4, h5⟩ | ⟨y', a, h1, h2, h3, h4, h5, h6⟩)
    ·exact ⟨y, g, h1, h2, h3, .inl ⟨rfl, h4⟩, h5⟩
    ·obtain ⟨y, g, g1, g2, g3, g4, g5, g6⟩ := (I.1 i y').1 h2
     have hd : ∀ j, a j = true -> g j = false := fun j hj => by
      have := h5 j hj;rw [g6, Bool.or_eq_false_iff] at this;exact this.2
     refine ⟨y, fun j => g j || a j, g1, g2, fun j hj => ?_, .inr ⟨i, a, rfl, hne a h4, fun j hj => by simp only; rw [hj, Bool.or_true], h4, ?_⟩, fun j hj => ?_, fun j => ?_⟩
     ·rcases Bool.or_eq_true_iff.1 hj with h | h
      ·exact g3 j h
      ·exact h3 j h
     ·have e : (fun j => (g j || a j) && !a j) = g := funext fun j => by
       cases ha : a j
       ·simp
       ·simp [hd j ha]
      rw [e]; exact g4
     ·rcases Bool.or_eq_true_iff.1 hj with h | h
      ·exact g5 j h
      ·have := h5 j h
       rw [g6, Bool.or_eq_false_iff] at this;exact this.1
     ·simp only; rw [h6, g6, Bool.or_assoc]
   ·rintro ⟨y, g, h1, h2, h3, h4, h5, h6⟩
    rcases h4 with ⟨_, h4⟩ | ⟨i', a, e1, a1, a2, a3, a4⟩
    ·exact .inl ⟨y, g, h1, h2, h3, h4, h5, h6⟩
    ·obtain rfl : i = i' := by omega
     obtain ⟨y', hy', ey⟩ := bitsOf len (fun j => y.testBit j || (g j && !a j)) (fun j hj => by
      rcases Bool.or_eq_true_iff.1 hj with h | h
      ·exact zFv h1 h
      ·exact h3 j (by rw [zz3] at h; exact h.1))
     have ey2 : ∀ j, y'.testBit j = (y.testBit j || (g j && !a j)) := fun j => congrFun ey j;refine .inr ⟨y', a, hy', (I.1 i y').2 ⟨y, _, h1, h2, fun j hj => h3 j (by rw [zz3] at hj; exact hj.1), a4, fun j hj => h5 j (by rw [zz3] at hj; exact hj.1), ey2⟩, fun j hj => h3 j (a2 j hj), a3, fun j hj => ?_, fun j => ?_⟩
     ·rw [ey2, hj, h5 j (a2 j hj)]; simp
     ·rw [ey2, h6]
      cases ha : a j
      ·simp
      ·rw [a2 j ha]; simp
 ·rw [zTn (by rw [zEi]; exact hi)]
  constructor
  ·intro h; cases h
  ·rintro ⟨y, g, _, _, _, h4, _⟩
   have := hlen i g h4;rw [zEi] at this; omega
theorem zTq {len : Nat} {S : Nat -> Bool} {sem : Need -> (Nat -> Bool) -> Prop} {A : Need -> (Nat -> Bool) -> Nat -> Bool} (hne : ∀ c g, sem c g -> ∃ j, g j = true) : ∀ (L : List Need) (met : List (Nat -> Bool)) (B : Nat -> (Nat -> Bool) -> Prop), (∀ c ∈ L, ∀ S, (∀ y, S y = true -> y < 2 ^ len) -> ∀ z, A c S z = true ↔ Rz len (sem c) S z) -> Inv len met B S -> Inv len (zJq (L.map A) met) (zFm sem true L B) S
 | [], met, B, _, I => I
 | c :: r, met, B, hA, I => zTq hne r (stepM (A c) met) (zHx sem true c B) (fun x hx => hA x (zyc _ hx)) (yBn (hA c zym) (hne c) I)
theorem yAl (F : List (Nat -> Bool)) (least : Int) (h0 : 0 <= least) (z : Nat) : ((F.drop (if (F.length : Int) < least then (F.length : Int) else least).toNat).any fun m => m z) = true ↔ ∃ i : Nat, least <= (i : Int) /\ F.getD i noneS z = true := by
 rw [zyo]
 constructor
 ·rintro ⟨m, hm, hz⟩
  obtain ⟨k, hk⟩ := List.mem_iff_getElem?.1 hm;rw [List.getElem?_drop] at hk;have hlt := (List.getElem?_eq_some_iff.1 hk).1;refine ⟨_, ?_, by rw [zz2, hk]; exact hz⟩;split at hlt
  ·omega
  ·rename_i hc
   rw [if_neg hc]; omega
 ·rintro ⟨i, hi, hz⟩
  have hlt : i < F.length := by
   rcases Nat.lt_or_ge i F.length with h | h
   ·exact h
   ·rw [zTn h] at hz; cases hz
  rw [if_neg (by omega)];refine ⟨F.getD i noneS, List.mem_iff_getElem?.2 ⟨i - least.toNat, ?_⟩, hz⟩;rw [List.getElem?_drop, show least.toNat + (i - least.toNat) = i by omega, zz2, zz5 hlt];rfl
theorem yA2 (s : Scale) (l : List Ach) (hl : l.length <= 10) : ∀ (d : Nat) (n : Need) (S : Nat -> Bool) (z : Nat), VOk d n -> (∀ y, S y = true -> y < 2 ^ l.length) -> (zVn s l (2 ^ l.length) d n S z = true ↔ Rz l.length (zKw s l d n) S z) := by
 intro d
 induction d with
 | zero =>
  intro n S z hn _;have hk : zBo n = true := hn;have hk2 : n.Kind = 1 \/ n.Kind = 2 := by simpa [zBo] using hk
  rw [zVn, if_pos hk2];exact zYa hk s l hl S z
 | succ d ih =>
  intro n S z hn hS;cases hk : zBo n
  ·have hk2 : ¬(n.Kind = 1 \/ n.Kind = 2) := by simpa [zBo] using hk
   obtain ⟨h1, h2, h3, h4⟩ := hn;obtain ⟨h5, h6⟩ := h3 hk;have h0 : 0 <= (if n.Kind = 3 then (n.L.length : Int) else n.N) := by split <;> omega
   have h0p : 0 < (if n.Kind = 3 then (n.L.length : Int) else n.N) := by split <;> omega
   have hq : ∀ (i : Nat) g, (if n.Kind = 3 then (n.L.length : Int) else n.N) <= (i : Int) -> (zFm (zKw s l d) (n.Kind == 4) n.L B0 i g ↔ zFm (zKw s l d) true n.L B0 i g) := fun i g hi => by
    rcases h6 with h6 | h6
    ·have e : (n.Kind == 4) = false := by rw [h6]; rfl
     rw [if_pos h6] at hi;have := yKd (sem := zKw s l d) n.L i g;rw [e];exact ⟨fun h => (this.1 ⟨h, by omega⟩).1, fun h => (this.2 ⟨h, by omega⟩).1⟩
    ·have e : (n.Kind == 4) = true := by rw [h6.1]; rfl
     rw [e]
   have I00 : ∀ i z, [S].getD i noneS z = true ↔ Rz l.length (B0 i) S z := fun i z => by
    cases i with
    | zero =>
     constructor
     ·intro h
      exact ⟨z, fun _ => false, hS z h, h, (fun _ h => by cases h), ⟨rfl, fun _ => rfl⟩, (fun _ h => by cases h), fun j => by simp⟩
     ·rintro ⟨y, g, g1, g2, g3, g4, g5, g6⟩
      obtain rfl : z = y := Nat.eq_of_testBit_eq fun j => by rw [g6, g4.2 j, Bool.or_false]
      exact g2
    | succ i =>
     constructor
     ·intro h; cases h
     ·rintro ⟨y, g, _, _, _, g4, _⟩
      exact absurd g4.1 (Nat.succ_ne_zero i)
   have I0 : Inv l.length [S] B0 S := ⟨I00, fun i g hg => by rw [hg.1]; exact Nat.zero_lt_one⟩;have I := zTq (sem := zKw s l d) (A := zVn s l (2 ^ l.length) d) (fun c g h => yHk h) n.L [S] B0 (fun c hc S' hS' z => ih c S' z (h4 c hc) hS') I0;rw [zVn, if_neg hk2, zJz, yAl _ _ h0]
   constructor
   ·rintro ⟨i, hi, hz⟩
    obtain ⟨y, g, g1, g2, g3, g4, g5, g6⟩ := (I.1 i z).1 hz;refine ⟨y, g, g1, g2, g3, .inr ⟨hk, yH6 n.L B0 (fun i g h hi => by have := h.1; omega) i g g4 (by omega), i, hi, (hq i g hi).2 g4⟩, g5, g6⟩
   ·rintro ⟨y, g, g1, g2, g3, g4, g5, g6⟩
    rcases g4 with g4 | ⟨_, _, i, hi, g4⟩
    ·rw [hk] at g4; cases g4.1
    ·exact ⟨i, hi, (I.1 i z).2 ⟨y, g, g1, g2, g3, (hq i g hi).1 g4, g5, g6⟩⟩
  ·have hk2 : n.Kind = 1 \/ n.Kind = 2 := by simpa [zBo] using hk
   rw [zVn, if_pos hk2, zYa hk s l hl S z];simp only [zKw, hk, true_and, Bool.true_eq_false, false_and, or_false]
theorem K158 : FnOK prog 158 (fun ds d => ∃ (l : List Int) (x : Int), ds = [eInt x, .fp [ints l]] /\ d = .bool (l.any fun y => x == y)) := by
 refine zAb call158 func158 rfl ntmps158 ?_;rintro ds d ⟨l, x, rfl, rfl⟩;refine ⟨by simp, fun w0 => ?_⟩
 repeat' (first | refine wA ?_ | refine zG yKy qD ?_ ⟨_, _, rfl, rfl⟩ qS ?_ | refine zE qR ?_ | exact qT | exact zAc.bool rfl | fail)
 all_goals skip
theorem K117 : FnOK prog 117 (fun ds d => ∃ (a b : List Int), ds = [ints a, ints b] /\ d = .bool (a.any fun x => b.any fun y => x == y)) := by
 refine zAb call117 func117 rfl ntmps117 ?_;rintro ds d ⟨a, b, rfl, rfl⟩;refine ⟨by simp, fun w0 => ?_⟩
 repeat' (first | refine zBc 0 qS ?_ | refine wA ?_ | refine zG yJo qD ?_ ⟨a, 158, [.fp [ints b]], fun x => b.any fun y => x == y, fun i _ => ⟨_, K158, _, _, rfl, rfl⟩, rfl, rfl⟩ qS ?_ | refine zE qR ?_ | exact qT | exact zAc.bool rfl | fail)
 all_goals skip
theorem K56 : FnOK prog 56 (fun ds d => ∃ (a b : Ach), ds = [zCk a, zCk b] /\ d = .bool (pair a b)) := by
 refine zAb call56 func56 rfl ntmps56 ?_;rintro ds d ⟨a, b, rfl, rfl⟩;refine ⟨by simp, fun w0 => ?_⟩;rw [zHy]
 repeat' (first | refine wA ?_ | refine zC qS qR ?_ ?_ | refine zN 21 qR qS K114 qD (fun hg => ?_) (fun _ => ⟨_, _, rfl, rfl⟩) qS ?_ | refine zN 29 qR qS K117 qD (fun hg => ?_) (fun _ => ⟨_, _, rfl, rfl⟩) qS ?_ | (refine zAa qS qC qC ?_ ?_ <;> intro hb hc <;> try (simp at hc; done)) | refine zE qR ?_ | exact qT | refine zAc.bool ?_ | exact qP | fail)
 ·have : zD2 a.Course b.Course = true := hb
  rw [this]; rfl
 ·have : zD2 a.Course b.Course = false := hb
  rw [this, Bool.false_or];unfold shared;by_cases h : a.Bundle > 0 /\ a.Bundle = b.Bundle /\ a.Path = b.Path
  ·rw [if_pos h]
   have h1 : (decide (0 < a.Bundle) && a.Bundle == b.Bundle && a.Path == b.Path) = true := by
    simp only [zz3, zyf, beq_iff_eq];exact ⟨⟨h.1, h.2.1⟩, h.2.2⟩
   rw [h1]; rfl
  ·rw [if_neg h]
   have h1 : (decide (0 < a.Bundle) && a.Bundle == b.Bundle && a.Path == b.Path) = false := by
    rw [Bool.eq_false_iff];intro hc;simp only [zz3, zyf, beq_iff_eq] at hc;exact h ⟨hc.1.1, hc.1.2, hc.2⟩
   rw [h1]; rfl
theorem K57 : FnOK prog 57 (fun ds d => ∃ l f caps p, (∀ i, i < l.length -> FnV prog f caps [zCk (l.getD i default)] (.bool (p (l.getD i default)))) /\ ds = [zAj 8 zCk l, .fn f caps] /\ d = .bool (l.any p)) := by
 refine zAb call57 func57 rfl ntmps57 ?_;rintro ds d ⟨l, f, caps, p, hp, rfl, rfl⟩;refine ⟨by simp, fun w0 => ?_⟩
 repeat' (first | refine wA ?_ | refine zG yKz qD ?_ ⟨l, f, caps, p, hp, rfl, rfl⟩ qS ?_ | refine zE qR ?_ | exact qT | refine zAc.bool ?_ | fail)
 exact zDq _ _ _
theorem FnOK.slE {P : Program} {f : Nat} {R : List SD -> SD -> Prop} (hf : FnOK P f R) : FnOK P f (fun ds d => ∃ ds0, zCr ds ds0 /\ R ds0 d) :=
 ⟨hf.call, fun ds d ⟨ds0, h1, hr⟩ h e w vs gh sb hv => hf.ok ds0 d hr h e w vs gh sb (h1.repT hv)⟩
end Go.Sx
