/- Part of the proof that the laws of the judge return true for every input: A23, A18, J90. -/
import Derived.Test.YtmbocmonhcplhaaGreatA22
import Derived.Test.YtmbocmonhcplhaaGreatJ70
import Derived.Test.YtmbocmonhcplhaaGreatJ8a
set_option linter.all false
namespace Go.Sx
open Go.Proofs Go.RowKit
attribute [local irreducible] Run zAi zAy OpT zAc SLe OLe
set_option maxHeartbeats 2000000
set_option maxRecDepth 8000
set_option maxHeartbeats 40000000
attribute [go_sem] zC4 asA asS zIs
theorem yHc (d : Nat) (ih : FnM Tryz.prog 159 (fun ds os r os' => ∃ (n : Need) (s : Scale) (l : List Ach) (nx : Nat) (v : Option (List Int)), (VOk d n ∧ l.length ≤ 10 ∧ (zEj s l (alV v) (foV v) d n nx).2 < 1000000 ∧ vOk v) ∧ ds = [zAb n, .fp [zAo 8 zBp l], .fp [.fn (faN v) (caV v)], .loc 1000 0, .fp (scC s), .loc 1001 0, .fp [.fn (ffN v) (caV v)]] ∧ os = [.var [eInt (nx : Nat)], zTt v s l] ∧ r = .acc 1 ∧ os' = [(1000, .var [eInt ((zEj s l (alV v) (foV v) d n nx).2 : Nat)]), (1001, zTt v s l), (1, aB (2 ^ l.length) (zEj s l (alV v) (foV v) d n nx).1)])) :
  FnM Tryz.prog 159 (fun ds os r os' => ∃ (n : Need) (s : Scale) (l : List Ach) (nx : Nat) (v : Option (List Int)), (zBm n = false ∧ VOk (d + 1) n ∧ l.length ≤ 10 ∧ (zEj s l (alV v) (foV v) (d + 1) n nx).2 < 1000000 ∧ vOk v) ∧ ds = [zAb n, .fp [zAo 8 zBp l], .fp [.fn (faN v) (caV v)], .loc 1000 0, .fp (scC s), .loc 1001 0, .fp [.fn (ffN v) (caV v)]] ∧ os = [.var [eInt (nx : Nat)], zTt v s l] ∧ r = .acc 1 ∧ os' = [(1000, .var [eInt ((zEj s l (alV v) (foV v) (d + 1) n nx).2 : Nat)]), (1001, zTt v s l), (1, aB (2 ^ l.length) (zEj s l (alV v) (foV v) (d + 1) n nx).1)]) := by
 refine zBq Tryz.call159 Tryz.func159 rfl Tryz.ntmps159 ?_
 rintro ds os d os' ⟨n, s, l, nx, v, ⟨h0, ⟨hN, hL, hk, hV⟩, h2, h3, h4⟩, rfl, rfl, rfl, rfl⟩
 refine ⟨by simp, fun F w0 => ?_⟩
 have esh := yCu l.length (by omega)
 have h2k : (2 : Nat) ^ l.length ≤ 2 ^ 10 := Nat.pow_le_pow_right (by omega) h2
 have hpos := Nat.two_pow_pos l.length
 have hmt : ∀ (c : Need) (nx : Nat), VOk d c → (zEj s l (alV v) (foV v) d c nx).2 < 1000000 → FnM Tryz.prog 159 (fun ds os r os' => ds = [zAb c, .fp [zAo 8 zBp l], .fp [.fn (faN v) (caV v)], .loc 1000 0, .fp (scC s), .loc 1001 0, .fp [.fn (ffN v) (caV v)]] ∧ os = [.var [eInt (nx : Nat)], zTt v s l] ∧ r = .acc 1 ∧ os' = [(1000, .var [eInt ((zEj s l (alV v) (foV v) d c nx).2 : Nat)]), (1001, zTt v s l), (1, aB (2 ^ l.length) (zEj s l (alV v) (foV v) d c nx).1)]) := fun c nx hc hx => ⟨ih.call, fun ds os r os' ⟨e1, e2, e3, e4⟩ => ih.ok ds os r os' ⟨c, s, l, nx, v, ⟨hc, h2, hx, h4⟩, e1, e2, e3, e4⟩⟩
 clear ih
 simp only [zEj, h0, Bool.false_eq_true, if_false] at h3 ⊢
 have hge : ∀ c nx, nx ≤ (zEj s l (alV v) (foV v) d c nx).2 := zT2 s l _ _ d
 generalize zEj s l (alV v) (foV v) d = vis at h3 hmt hge ⊢
 generalize 2 ^ l.length = M at esh h2k hpos hmt ⊢
 have hMk : M ≤ 1024 := h2k
 repeat' (first | apply zC | apply zA | apply zB | refine zF (by simp only [go_sem, esh, h0]; rfl) qR ?_ ?_ | refine zM yHb (by simp only [go_sem, esh, h0]; first | done | rfl) ?_ ⟨n, rfl, rfl⟩ (by simp only [go_sem, esh, h0]; rfl) ?_ | exact zz0 | exact rfl | exact qP | fail)
 (refine zE qS ?_ ?_ <;> intro hb <;> have hc := hb <;> (try simp only [bF] at hc) <;> (try (exfalso; simp at hc; done)))
 repeat' (first | apply zC | apply zG | apply zD | apply zA | apply zB | refine zF qS qR ?_ ?_ | exact zz0 | exact rfl | exact qP | fail)
 refine zN [1, 2, 3, 4, 5, 6, 7, 9, 12] (fun x : Nat × (Nat → Int) => [(13, .int .i64 x.1)]) (fun x : Nat × (Nat → Int) => [(2, aI M x.2)]) (fun x : Nat × (Nat → Int) => (1 ≤ x.1 ∧ x.1 ≤ M) ∧ ∀ z, z < M → x.2 z = if z = 0 then 0 else if z < x.1 then -1 else 0) (fun x : Nat × (Nat → Int) => M - x.1) (1, fun _ => 0) (fun x => qS) ?_ qL qL ?_
 ·exact ⟨⟨Nat.le_refl _, hpos⟩, fun z _ => by simp⟩
 rintro ⟨set, T⟩ ⟨⟨g1, g2⟩, g3⟩
 simp only at g1 g2 g3
 have e2 : IntKind.i64.wrap ((set : Int) + 1) = ((set + 1 : Nat) : Int) := by rw [w64]; omega
 repeat' (first | apply zC | apply zA | apply zB | refine zF qS qR ?_ ?_ | exact zz0 | exact rfl | fail)
 (refine zE qS ?_ ?_ <;> intro hb <;> have hc := hb <;> (try simp only [bF] at hc) <;> (try (exfalso; simp at hc; done)))
 ·have hset : set < M := by assumption
  repeat' (first | apply zC | apply zG | apply zD | apply zL | apply zA | apply zB | refine zF (by simp only [go_sem, e2]; rfl) qR ?_ ?_ | exact zz0 | exact rfl | exact qP | fail)
  refine zR (o' := aI M fun z => if z = set then -1 else T z) 2 qR (OLe.accS rfl fun z _ => ?_) ?_
  ·unfold Sx.setF
   by_cases hz : z = set
   ·subst hz
    simp only [if_true]
   ·simp only [if_neg hz]
  refine zS (set + 1, fun z => if z = set then -1 else T z) ?_ ?_ ⟨rfl, qL, qL⟩
  ·refine ⟨⟨by simp only; omega, by simp only; omega⟩, fun z hz => ?_⟩
   simp only;by_cases hzs : z = set
   ·rw [if_pos hzs, if_neg (by omega), if_pos (by omega)]
   ·rw [if_neg hzs, g3 z hz]
    by_cases h0 : z = 0
    ·rw [if_pos h0, if_pos h0]
    ·rw [if_neg h0, if_neg h0]
     by_cases hlt : z < set
     ·rw [if_pos hlt, if_pos (by omega)]
     ·rw [if_neg hlt, if_neg (by omega)]
  ·simp only; omega
 have hset : set = M := by omega
 refine zR (o' := aI M fun z => if z = 0 then 0 else -1) 2 qR (OLe.accS rfl fun z hz => ?_) ?_
 ·rw [g3 z hz, hset, if_pos hz]
 refine zO 2 qS ?_
 clear hset g3 g2 g1 e2
 repeat' (first | apply zC | apply zD | apply zA | apply zB | refine zF qS qR ?_ ?_ | refine zK qR ?_ | exact zz0 | exact rfl | fail)
 refine zN [1, 2, 3, 4, 5, 6, 7, 9, 12, 72, 73] (fun x : Nat × (Nat → Int) × Nat => [(74, .int .i64 x.1)]) (fun x : Nat × (Nat → Int) × Nat => [(3, .var [eI M x.2.1]), (1000, .var [eInt (x.2.2 : Nat)])]) (fun x : Nat × (Nat → Int) × Nat => x.1 ≤ n.L.length ∧ zDy vis (n.Kind == 4) (foV v) n.L (fun z => if z = 0 then 0 else -1) nx = zDy vis (n.Kind == 4) (foV v) (n.L.drop x.1) x.2.1 x.2.2) (fun x : Nat × (Nat → Int) × Nat => n.L.length - x.1) (0, (fun z => if z = 0 then 0 else -1), nx) (fun x => qS) ?_ qL qL ?_
 ·exact ⟨Nat.zero_le _, rfl⟩
 rintro ⟨i, be, nx1⟩ ⟨g1, g2⟩
 simp only at g1 g2
 repeat' (first | apply zC | apply zA | apply zB | refine zF qS qR ?_ ?_ | exact zz0 | exact rfl | fail)
 (refine zE qS ?_ ?_ <;> intro hb <;> have hc := hb <;> (try simp only [bF] at hc) <;> (try (exfalso; simp at hc; done)))
 ·have hi : i < n.L.length := by assumption
  have en : zBc (zB9 n.L) i = zAb (n.L.getD i default) := by rw [zBs _ _ hi, zDz, zB5]; rfl
  rw [zAv _ _ hi, zDy] at g2
  have hb1 : (vis (n.L.getD i default) nx1).2 < 1000000 := by
   refine Nat.lt_of_le_of_lt ?_ h3;rw [g2];exact zP6 hge _ _ _
  have hm := hmt (n.L.getD i default) nx1 (hV _ (zAk hi)) hb1;generalize vis (n.L.getD i default) nx1 = r at g2 hb1 hm;obtain ⟨ow, nx2⟩ := r;simp only at g2 hb1 hm;have hfo := yGp v nx1 nx2;generalize foV v nx1 nx2 = q at g2 hfo;obtain ⟨A, hA⟩ : ∃ A : Nat → Int, (fun set => zEr ow be set (set + 1) set (if (n.Kind == 4 && !q) = true then be set else -1)) = A := ⟨_, rfl⟩;rw [hA] at g2;have hA2 : ∀ set, A set = zEr ow be set (set + 1) set (if (n.Kind == 4 && !q) = true then be set else -1) := fun set => (congrFun hA set).symm;clear hA
  repeat' (first | refine zO 6 qS ?_ | apply zC | apply zG | apply zD | apply zA | apply zB | refine zF (by simp only [go_sem, en]; rfl) qR ?_ ?_ | refine zD0 [1000, 1001] hm (by first | (simp only [go_sem, en]; done) | (simp only [go_sem, en]; rfl)) qR (by simp only [go_sem, en]; first | done | rfl) (by first | (simp only [go_sem, en]; done) | rfl) (by first | (simp only [go_sem, en]; done) | (simp only [go_sem, en]; rfl)) ?_ ⟨rfl, rfl, rfl, rfl⟩ (by simp only [go_sem, en]; rfl) ?_ | refine zSp 85 qR (by simp only [go_sem, en]; rfl) (hfo) (by simp only [go_sem, en]) (by simp only [go_sem, en]) (fun hg => ?_) (by simp only [go_sem, en]; rfl) ?_ | exact zz0 | exact rfl | exact qP | fail)
  refine zN [1, 2, 3, 4, 5, 6, 7, 9, 12, 17, 18, 19, 72, 73, 74, 96] (fun x : Nat × (Nat → Int) => [(97, .int .i64 x.1)]) (fun x : Nat × (Nat → Int) => [(8, aI M x.2)]) (fun x : Nat × (Nat → Int) => x.1 ≤ M ∧ ∀ z, z < x.1 → x.2 z = A z) (fun x : Nat × (Nat → Int) => M - x.1) (0, fun _ => 0) (fun x => qS) ?_ qL qL ?_
  ·exact ⟨Nat.zero_le _, fun z hz => absurd hz (Nat.not_lt_zero z)⟩
  rintro ⟨set, T⟩ ⟨g3, g4⟩;simp only at g3 g4
  repeat' (first | apply zC | apply zA | apply zB | refine zF qS qR ?_ ?_ | exact zz0 | exact rfl | fail)
  (refine zE qS ?_ ?_ <;> intro hb <;> have hc := hb <;> (try simp only [bF] at hc) <;> (try (exfalso; simp at hc; done)))
  ·have hset : set < M := by assumption
   have hstep : ∀ v0, (if (n.Kind == 4 && !q) = true then be set else -1) = v0 → ∀ z, z < set + 1 → zHc ow be set (set + 1) set (fun z => if z = set then v0 else T z) z = A z := fun v0 hv0 z hz => by
    rw [zR6];by_cases hzs : z = set
    ·rw [if_pos hzs, if_pos rfl, hzs, hA2, hv0]
    ·rw [if_neg hzs, if_neg hzs, g4 z (by omega)]
   repeat' (first | apply zC | apply zG | apply zD | apply zA | apply zB | refine zF qS qR ?_ ?_ | exact zz0 | exact rfl | exact qP | fail)
   (refine zE qS ?_ ?_ <;> intro hb <;> have hc := hb <;> (try simp only [bF] at hc) <;> (try (exfalso; simp at hc; done)))
   ·have hv0 := hstep _ (if_pos hb)
    repeat' (first | apply zA | apply zP | refine zF qS qR ?_ ?_ | refine zBj qS qR ?_ (by simp only [go_sem, zAw, zG5, zD7, zH2, zBf, keysA, zCz]; rfl) ?_ | refine zQ qK qK ?_ | refine zI6 qS qS ?_ | exact zz0 | exact rfl | exact qP | fail)
    refine zIq (o' := aI M fun z => if z = set then be set else T z) 8 qR (OLe.accS rfl fun z _ => ?_) ?_
    ·unfold Sx.setF
     by_cases hz : z = set
     ·subst hz
      simp only [if_true]
     ·simp only [if_neg hz]
    repeat' (first | apply zL | apply zA | apply zB | refine zF qS qR ?_ ?_ | refine zW [7, 3, 9, 10, 8] K164 qR qD qZ qF ?_ ⟨M, ow, be, _, set, ⟨hset, hMk⟩, rfl, rfl, rfl, rfl⟩ qS ?_ | exact zz0 | exact rfl | fail)
    refine zS (set + 1, zHc ow be set (set + 1) set fun z => if z = set then be set else T z) ?_ ?_ ⟨rfl, qL, qL⟩
    ·exact ⟨by simp only; omega, hv0⟩
    ·simp only; omega
   ·have hv0 := hstep _ (if_neg (by rw [hb]; simp))
    repeat' (first | apply zG | apply zA | refine zF qS qR ?_ ?_ | exact zz0 | exact rfl | fail)
    refine zIq (o' := aI M fun z => if z = set then -1 else T z) 8 qR (OLe.accS rfl fun z _ => ?_) ?_
    ·unfold Sx.setF
     by_cases hz : z = set
     ·subst hz
      simp only [if_true]
     ·simp only [if_neg hz]
    repeat' (first | apply zL | apply zA | apply zB | refine zF qS qR ?_ ?_ | refine zW [7, 3, 9, 10, 8] K164 qR qD qZ qF ?_ ⟨M, ow, be, _, set, ⟨hset, hMk⟩, rfl, rfl, rfl, rfl⟩ qS ?_ | exact zz0 | exact rfl | fail)
    refine zS (set + 1, zHc ow be set (set + 1) set fun z => if z = set then -1 else T z) ?_ ?_ ⟨rfl, qL, qL⟩
    ·exact ⟨by simp only; omega, hv0⟩
    ·simp only; omega
  ·have hset : set = M := by omega
   refine zR (o' := aI M A) 8 qR (OLe.accS rfl fun z hz => ?_) ?_
   ·rw [g4 z (by omega)]
   refine zO 8 qS ?_
   repeat' (first | apply zL | apply zA | apply zB | refine zF qS qR ?_ ?_ | refine zK qR ?_ | exact zz0 | exact rfl | fail)
   refine zS (i + 1, A, nx2) ?_ ?_ ⟨rfl, qL, qL⟩
   ·exact ⟨by simp only; omega, g2⟩
   ·simp only; omega
 have hi : i = n.L.length := by omega
 have hd : n.L.drop i = [] := List.drop_eq_nil_of_le (by omega)
 rw [hd, zDy] at g2
 rw [g2]
 clear hmt h3 g2 hge
 obtain ⟨X, hX0⟩ : ∃ X, (if n.Kind = 3 then (n.L.length : Int) else n.N) = X := ⟨_, rfl⟩
 rw [hX0]
 have hX1 : n.Kind = 3 → ((n.L.length : Nat) : Int) = X := fun h => by rw [← hX0, if_pos h]
 have hX2 : ¬ n.Kind = 3 → n.N = X := fun h => by rw [← hX0, if_neg h]
 clear hX0
 repeat' (first | apply zC | apply zA | apply zB | refine zF qS qR ?_ ?_ | refine zK qR ?_ | exact zz0 | exact rfl | fail)
 (refine zE qS ?_ ?_ <;> intro hb <;> have hc := hb <;> (try simp only [bF] at hc) <;> (try (exfalso; simp at hc; done)))
 ·have hX := hX1 hc
  repeat' (first | apply zC | apply zD | apply zA | apply zB | refine zF qS qR ?_ ?_ | exact zz0 | exact rfl | fail)
  refine zN [1, 2, 3, 4, 5, 6, 7, 9, 12, 21] (fun x : Nat × (Nat → Bool) => [(22, .int .i64 x.1)]) (fun x : Nat × (Nat → Bool) => [(1, aB M x.2)]) (fun x : Nat × (Nat → Bool) => (1 ≤ x.1 ∧ x.1 ≤ M) ∧ ∀ z, z < M → x.2 z = if z < x.1 then decide (0 < z) && decide (X ≤ be z) else false) (fun x : Nat × (Nat → Bool) => M - x.1) (1, fun _ => false) (fun x => qS) ?_ qL qL ?_
  ·refine ⟨⟨Nat.le_refl _, hpos⟩, fun z _ => ?_⟩
   simp only;split
   ·have : z = 0 := by omega
    subst this; rfl
   ·rfl
  rintro ⟨set, T⟩ ⟨⟨g1, g2⟩, g3⟩;simp only at g1 g2 g3;have e2 : IntKind.i64.wrap ((set : Int) + 1) = ((set + 1 : Nat) : Int) := by rw [w64]; omega
  repeat' (first | apply zC | apply zA | apply zB | refine zF qS qR ?_ ?_ | exact zz0 | exact rfl | fail)
  (refine zE qS ?_ ?_ <;> intro hb <;> have hc := hb <;> (try simp only [bF] at hc) <;> (try (exfalso; simp at hc; done)))
  ·have hset : set < M := by assumption
   repeat' (first | apply zC | apply zG | apply zD | apply zL | apply zA | apply zB | refine zF (by simp only [go_sem, e2]; rfl) qR ?_ ?_ | exact zz0 | exact rfl | exact qP | fail)
   refine zR (o' := aB M fun z => if z = set then decide (0 < z) && decide (X ≤ be z) else T z) 1 qR (OLe.accS rfl fun z _ => ?_) ?_
   ·unfold Sx.setF
    by_cases hz : z = set
    ·subst hz
     simp only [if_true, decide_eq_true (show 0 < z by omega), Bool.true_and, hX]
    ·simp only [if_neg hz]
   refine zS (set + 1, fun z => if z = set then decide (0 < z) && decide (X ≤ be z) else T z) ?_ ?_ ⟨rfl, qL, qL⟩
   ·refine ⟨⟨by simp only; omega, by simp only; omega⟩, fun z hz => ?_⟩
    simp only;by_cases hzs : z = set
    ·rw [if_pos hzs, if_pos (by omega)]
    ·rw [if_neg hzs, g3 z hz]
     by_cases hlt : z < set
     ·rw [if_pos hlt, if_pos (by omega)]
     ·rw [if_neg hlt, if_neg (by omega)]
   ·simp only; omega
  ·have hset : set = M := by omega
   repeat' (first | apply zC | apply zA | apply zB | refine zF qS qR ?_ ?_ | refine zK qR ?_ | exact zz0 | exact rfl | fail)
   refine zR (o' := aB M fun z => decide (0 < z) && decide (X ≤ be z)) 1 qR (OLe.accS rfl fun z hz => ?_) ?_
   ·rw [g3 z hz, if_pos (by omega)]
   refine yC qR qS ?_ ?_
   ·exact SLe.refl _
   ·(show zC2 _ _; simp only [go_sem]; repeat' (first | exact SLe.any1 | exact trivial | exact zz0 | exact SLe.refl _ | exact OLe.refl _ | exact ⟨_, rfl, OLe.refl _⟩ | refine ⟨_, rfl, ?_⟩ | refine OLe.var ?_ | (show zAh _ _; refine ⟨?_, ?_⟩) | (show zAh [] []; exact zz0) | (refine SLe.int ?_; rw [w64]; omega) | refine SLe.int ?_ | refine SLe.bool ?_ | apply And.intro))
 ·have hX := hX2 hc
  repeat' (first | apply zC | apply zG | apply zD | apply zA | apply zB | refine zF qS qR ?_ ?_ | exact zz0 | exact rfl | fail)
  refine zN [1, 2, 3, 4, 5, 6, 7, 9, 12, 21] (fun x : Nat × (Nat → Bool) => [(22, .int .i64 x.1)]) (fun x : Nat × (Nat → Bool) => [(1, aB M x.2)]) (fun x : Nat × (Nat → Bool) => (1 ≤ x.1 ∧ x.1 ≤ M) ∧ ∀ z, z < M → x.2 z = if z < x.1 then decide (0 < z) && decide (X ≤ be z) else false) (fun x : Nat × (Nat → Bool) => M - x.1) (1, fun _ => false) (fun x => qS) ?_ qL qL ?_
  ·refine ⟨⟨Nat.le_refl _, hpos⟩, fun z _ => ?_⟩
   simp only;split
   ·have : z = 0 := by omega
    subst this; rfl
   ·rfl
  rintro ⟨set, T⟩ ⟨⟨g1, g2⟩, g3⟩;simp only at g1 g2 g3;have e2 : IntKind.i64.wrap ((set : Int) + 1) = ((set + 1 : Nat) : Int) := by rw [w64]; omega
  repeat' (first | apply zC | apply zA | apply zB | refine zF qS qR ?_ ?_ | exact zz0 | exact rfl | fail)
  (refine zE qS ?_ ?_ <;> intro hb <;> have hc := hb <;> (try simp only [bF] at hc) <;> (try (exfalso; simp at hc; done)))
  ·have hset : set < M := by assumption
   repeat' (first | apply zC | apply zG | apply zD | apply zL | apply zA | apply zB | refine zF (by simp only [go_sem, e2]; rfl) qR ?_ ?_ | exact zz0 | exact rfl | exact qP | fail)
   refine zR (o' := aB M fun z => if z = set then decide (0 < z) && decide (X ≤ be z) else T z) 1 qR (OLe.accS rfl fun z _ => ?_) ?_
   ·unfold Sx.setF
    by_cases hz : z = set
    ·subst hz
     simp only [if_true, decide_eq_true (show 0 < z by omega), Bool.true_and, hX]
    ·simp only [if_neg hz]
   refine zS (set + 1, fun z => if z = set then decide (0 < z) && decide (X ≤ be z) else T z) ?_ ?_ ⟨rfl, qL, qL⟩
   ·refine ⟨⟨by simp only; omega, by simp only; omega⟩, fun z hz => ?_⟩
    simp only;by_cases hzs : z = set
    ·rw [if_pos hzs, if_pos (by omega)]
    ·rw [if_neg hzs, g3 z hz]
     by_cases hlt : z < set
     ·rw [if_pos hlt, if_pos (by omega)]
     ·rw [if_neg hlt, if_neg (by omega)]
   ·simp only; omega
  ·have hset : set = M := by omega
   repeat' (first | apply zC | apply zA | apply zB | refine zF qS qR ?_ ?_ | refine zK qR ?_ | exact zz0 | exact rfl | fail)
   refine zR (o' := aB M fun z => decide (0 < z) && decide (X ≤ be z)) 1 qR (OLe.accS rfl fun z hz => ?_) ?_
   ·rw [g3 z hz, if_pos (by omega)]
   refine yC qR qS ?_ ?_
   ·exact SLe.refl _
   ·(show zC2 _ _; simp only [go_sem]; repeat' (first | exact SLe.any1 | exact trivial | exact zz0 | exact SLe.refl _ | exact OLe.refl _ | exact ⟨_, rfl, OLe.refl _⟩ | refine ⟨_, rfl, ?_⟩ | refine OLe.var ?_ | (show zAh _ _; refine ⟨?_, ?_⟩) | (show zAh [] []; exact zz0) | (refine SLe.int ?_; rw [w64]; omega) | refine SLe.int ?_ | refine SLe.bool ?_ | apply And.intro))
theorem K159 (d : Nat) : FnM Tryz.prog 159 (fun ds os r os' => ∃ (n : Need) (s : Scale) (l : List Ach) (nx : Nat) (v : Option (List Int)), (VOk d n ∧ l.length ≤ 10 ∧ (zEj s l (alV v) (foV v) d n nx).2 < 1000000 ∧ vOk v) ∧ ds = [zAb n, .fp [zAo 8 zBp l], .fp [.fn (faN v) (caV v)], .loc 1000 0, .fp (scC s), .loc 1001 0, .fp [.fn (ffN v) (caV v)]] ∧ os = [.var [eInt (nx : Nat)], zTt v s l] ∧ r = .acc 1 ∧ os' = [(1000, .var [eInt ((zEj s l (alV v) (foV v) d n nx).2 : Nat)]), (1001, zTt v s l), (1, aB (2 ^ l.length) (zEj s l (alV v) (foV v) d n nx).1)]) := by
 induction d with
 | zero => exact ⟨zZi.call, fun ds os r os' ⟨n, s, l, nx, v, ⟨h1, h2, h3, h4⟩, e1, e2, e3, e4⟩ => zZi.ok ds os r os' ⟨n, s, l, nx, v, ⟨h1, h2, Nat.lt_of_succ_lt h3, h4⟩, e1, e2, e3, e4⟩⟩
 | succ d ih =>
  refine ⟨zZi.call, fun ds os r os' ⟨n, s, l, nx, v, ⟨h1, h2, h3, h4⟩, e1, e2, e3, e4⟩ => ?_⟩;cases hlf : zBm n
  ·exact (yHc d ih).ok ds os r os' ⟨n, s, l, nx, v, ⟨hlf, h1, h2, h3, h4⟩, e1, e2, e3, e4⟩
  ·have hv : zEj s l (alV v) (foV v) (d + 1) n nx = (yB8 s l (alV v) n nx, nx + 1) := by simp only [zEj, if_pos hlf]; rfl
   rw [hv] at h3 e4;exact zZi.ok ds os r os' ⟨n, s, l, nx, v, ⟨hlf, h2, Nat.lt_of_succ_lt h3, h4⟩, e1, e2, e3, e4⟩
end Go.Sx
namespace Go.Sx
open Go.Proofs Go.RowKit
theorem zN1 (a b : Course) : zEk a b = zEk b a := by
 simp only [zEk]
 rw [Bool.eq_iff_iff]
 simp only [zz3, beq_iff_eq]
 exact ⟨fun h => ⟨h.1.symm, h.2.symm⟩, fun h => ⟨h.1.symm, h.2.symm⟩⟩
theorem zWg {n : Need} (h : zBm n = true) (s : Scale) (a : Ach) : zQb n s a = zIz n s a := by
 simp only [zQb, zIz, h, Bool.true_and]
 congr 2
 funext y
 exact zN1 _ _
def zOu (n : Need) (s : Scale) (p : Nat) : List Ach → Nat → Bool
 | [], _ => true
 | a :: r, k => (if p.testBit k then zQb n s a else true) && zOu n s p r (k + 1)
theorem zL6 (n : Need) (s : Scale) (p : Nat) : ∀ (l : List Ach) (k m : Nat) (c : Int) (f : Bool), m + l.length ≤ 1000 → zGv n s p.testBit l k ⟨(m : Nat), c, f⟩ = ⟨((m + mnF p l k : Nat) : Int), crF p l k c, f && zOu n s p l k⟩
 | [], k, m, c, f, _ => by simp [zGv, mnF, crF, zOu]
 | a :: r, k, m, c, f, h => by
  have hl : (a :: r).length = r.length + 1 := rfl;rw [zGv, mnF, crF, zOu];cases hb : p.testBit k
  ·simp only [Bool.false_eq_true, if_false, Nat.zero_add, Bool.true_and]
   exact zL6 n s p r (k + 1) m c f (by omega)
  ·have e : IntKind.i64.wrap ((m : Int) + 1) = ((m + 1 : Nat) : Int) := by rw [w64]; omega
   simp only [if_true, e];rw [zL6 n s p r (k + 1) (m + 1) _ _ (by omega), Nat.add_assoc, Bool.and_assoc]
theorem zR3 (n : Need) (s : Scale) (p : Nat) : ∀ (l : List Ach) (k : Nat), zOu n s p l k = true ↔ ∀ j, j < l.length → p.testBit (k + j) = true → zQb n s (l.getD j default) = true
 | [], k => by simp [zOu]
 | a :: r, k => by
  rw [zOu, zz3, zR3 n s p r (k + 1)]
  constructor
  ·rintro ⟨h1, h2⟩ j hj hb
   cases j with
   | zero =>
    rw [Nat.add_zero] at hb;rw [if_pos hb] at h1; exact h1
   | succ j => exact h2 j (by simpa using hj) (by rw [show k + 1 + j = k + (j + 1) by omega]; exact hb)
  ·intro h
   refine ⟨?_, fun j hj hb => h (j + 1) (by simpa using hj) (by rw [show k + (j + 1) = k + 1 + j by omega]; exact hb)⟩;split
   ·rename_i hb
    exact h 0 (by simp) hb
   ·rfl
theorem zRp {n : Need} (hk : zBm n = true) (s : Scale) (l : List Ach) (hl : l.length ≤ 10) (p : Nat) (hp : p < 2 ^ l.length) : zTu n (zD2 n s l p.testBit) = true ↔ (∀ j, p.testBit j = true → Fits n s l j) ∧ zJc n l p = true := by
 have hw := zL6 n s p l 0 0 0 true (by omega)
 have hf : zOu n s p l 0 = true ↔ ∀ j, p.testBit j = true → Fits n s l j := by
  rw [zR3]
  constructor
  ·intro h j hj
   have hjl := zFp hp hj;exact ⟨hjl, by rw [← zWg hk]; exact h j hjl (by rw [Nat.zero_add]; exact hj)⟩
  ·intro h j hj hb
   rw [Nat.zero_add] at hb;rw [zWg hk];exact (h j hb).2
 rw [zD2, show (⟨0, 0, true⟩ : Load) = ⟨((0 : Nat) : Int), 0, true⟩ from rfl, hw, ← hf]
 simp only [zTu, zJc, zIb, Nat.zero_add, Bool.true_and]
 by_cases h1 : n.Kind = 1
 ·have h2 : (n.Kind == 1) = true := by rw [h1]; rfl
  simp only [if_pos h1, h2, if_true, zz3, beq_iff_eq];exact and_congr_right fun _ => by omega
 ·have h2 : (n.Kind == 1) = false := by rw [beq_eq_false_iff_ne]; exact h1
  simp only [if_neg h1, h2, Bool.false_eq_true, if_false, zz3, decide_eq_true_eq, and_assoc];refine and_congr_right fun _ => and_congr_left fun _ => by omega
def Rz (len : Nat) (P : (Nat → Bool) → Prop) (S : Nat → Bool) (z : Nat) : Prop := ∃ (y : Nat) (g : Nat → Bool), y < 2 ^ len ∧ S y = true ∧ (∀ j, g j = true → j < len) ∧ P g ∧ (∀ j, g j = true → y.testBit j = false) ∧ ∀ j, z.testBit j = (y.testBit j || g j)
theorem zV4 {n : Need} (hk : zBm n = true) (s : Scale) (l : List Ach) (hl : l.length ≤ 10) (S : Nat → Bool) (z : Nat) : zJg n s l (2 ^ l.length) S z = true ↔ Rz l.length (yB7 n s l) S z := by
 rw [zE2]
 constructor
 ·rintro ⟨p, h1, h2, h3, h4, y, h5, h6, h7, h8⟩
  refine ⟨y, p.testBit, h5, h6, fun j hj => zFp h1 hj, ⟨Nat.exists_testBit_of_ne_zero (by omega), (zRp hk s l hl p h1).2 ⟨h3, h4⟩⟩, h7, fun j => ?_⟩;rw [← h8, Nat.testBit_or]
 ·rintro ⟨y, g, h1, h2, h3, ⟨⟨j0, hj0⟩, h5⟩, h6, h7⟩
  obtain ⟨p, hp, rfl⟩ := bitsOf l.length g h3;obtain ⟨h8, h9⟩ := (zRp hk s l hl p hp).1 h5;refine ⟨p, hp, Nat.pos_of_ne_zero (fun hc => by rw [hc, Nat.zero_testBit] at hj0; cases hj0), h8, h9, y, h1, h2, h6, Nat.eq_of_testBit_eq fun j => ?_⟩;rw [Nat.testBit_or, h7]
theorem yEn {sem : Need → (Nat → Bool) → Prop} {q q' : Bool} (hq : q = true → q' = true) : ∀ (L : List Need) (B B' : Nat → (Nat → Bool) → Prop), (∀ i g, B i g → B' i g) → ∀ i g, zFq sem q L B i g → zFq sem q' L B' i g
 | [], _, _, h, i, g, hk => h i g hk
 | c :: r, B, B', h, i, g, hk => by
  refine yEn hq r (zIp sem q c B) (zIp sem q' c B') (fun i g hs => ?_) i g hk
  rcases hs with ⟨h1, h2⟩ | ⟨i', a, h1, h2, h3, h4, h5⟩
  ·exact .inl ⟨hq h1, h i g h2⟩
  ·exact .inr ⟨i', a, h1, h2, h3, h4, h _ _ h5⟩
theorem yEp {sem : Need → (Nat → Bool) → Prop} {q : Bool} : ∀ (L : List Need) (B : Nat → (Nat → Bool) → Prop) (b : Nat), (∀ i g, B i g → i ≤ b) → ∀ i g, zFq sem q L B i g → i ≤ b + L.length
 | [], _, b, h, i, g, hk => h i g hk
 | c :: r, B, b, h, i, g, hk => by
  have := yEp r (zIp sem q c B) (b + 1) (fun i g hs => by
   rcases hs with ⟨_, h2⟩ | ⟨i', a, h1, _, _, _, h5⟩
   ·have := h i g h2; omega
   ·have := h _ _ h5; omega) i g hk
  simp only [List.length_cons]; omega
theorem zZ3 {sem : Need → (Nat → Bool) → Prop} : ∀ (L : List Need) (B B' : Nat → (Nat → Bool) → Prop) (b : Nat), (∀ i g, B i g → i ≤ b) → (∀ g, B b g → B' b g) → ∀ g, zFq sem true L B (b + L.length) g → zFq sem false L B' (b + L.length) g
 | [], _, _, b, _, h, g, hk => h g hk
 | c :: r, B, B', b, hb, h, g, hk => by
  have e : b + (c :: r).length = b + 1 + r.length := by simp only [List.length_cons]; omega
  rw [e] at hk ⊢;refine zZ3 r (zIp sem true c B) (zIp sem false c B') (b + 1) (fun i g hs => ?_) (fun g hs => ?_) g hk
  ·rcases hs with ⟨_, h2⟩ | ⟨i', a, h1, _, _, _, h5⟩
   ·have := hb i g h2; omega
   ·have := hb _ _ h5; omega
  ·rcases hs with ⟨_, h2⟩ | ⟨i', a, h1, h2, h3, h4, h5⟩
   ·have := hb _ _ h2; omega
   ·obtain rfl : i' = b := by omega
    exact .inr ⟨i', a, h1, h2, h3, h4, h _ h5⟩
theorem yEo {sem : Need → (Nat → Bool) → Prop} {q : Bool} : ∀ (L : List Need) (B : Nat → (Nat → Bool) → Prop), (∀ i g, B i g → 0 < i → ∃ j, g j = true) → ∀ i g, zFq sem q L B i g → 0 < i → ∃ j, g j = true
 | [], _, h, i, g, hk => h i g hk
 | c :: r, B, h, i, g, hk => yEo r (zIp sem q c B) (fun i g hs hi => by
   rcases hs with ⟨_, h2⟩ | ⟨i', a, _, ⟨j, hj⟩, h3, _, _⟩
   ·exact h i g h2 hi
   ·exact ⟨j, h3 j hj⟩) i g hk
theorem yGo {sem : Need → (Nat → Bool) → Prop} (L : List Need) (i : Nat) (g : Nat → Bool) : (zFq sem false L B0 i g ∧ L.length ≤ i) ↔ (zFq sem true L B0 i g ∧ L.length ≤ i) := by
 have hb : ∀ i g, B0 i g → i ≤ 0 := fun i g h => by rw [h.1]; exact Nat.le_refl 0
 constructor
 ·rintro ⟨h1, h2⟩
  exact ⟨yEn (fun h => by cases h) L B0 B0 (fun _ _ h => h) i g h1, h2⟩
 ·rintro ⟨h1, h2⟩
  have h3 := yEp L B0 0 hb i g h1;obtain rfl : i = 0 + L.length := by omega
  exact ⟨zZ3 L B0 B0 0 hb (fun _ h => h) g h1, h2⟩
def Inv (len : Nat) (met : List (Nat → Bool)) (B : Nat → (Nat → Bool) → Prop) (S : Nat → Bool) : Prop := (∀ i z, met.getD i noneS z = true ↔ Rz len (B i) S z) ∧ ∀ i g, B i g → i < met.length
theorem zRz {α : Type} {l : List α} {i : Nat} {d : α} (h : l.length ≤ i) : l.getD i d = d := by
 rw [zz2, List.getElem?_eq_none h]; rfl
theorem yGb {len : Nat} {P : (Nat → Bool) → Prop} {S : Nat → Bool} {z : Nat} (h : Rz len P S z) : z < 2 ^ len := by
 obtain ⟨y, g, h1, _, h3, _, _, h6⟩ := h
 refine zLu fun j hj => ?_
 rw [h6] at hj
 rcases Bool.or_eq_true_iff.1 hj with h | h
 ·exact zFp h1 h
 ·exact h3 j h
theorem zYp {len : Nat} {met : List (Nat → Bool)} {B : Nat → (Nat → Bool) → Prop} {S : Nat → Bool} {sem : Need → (Nat → Bool) → Prop} {c : Need} {A : (Nat → Bool) → Nat → Bool} (hA : ∀ S, (∀ y, S y = true → y < 2 ^ len) → ∀ z, A S z = true ↔ Rz len (sem c) S z) (hne : ∀ g, sem c g → ∃ j, g j = true) (I : Inv len met B S) : Inv len (stepM A met) (zIp sem true c B) S := by
 have hlen : ∀ i g, zIp sem true c B i g → i < (stepM A met).length := fun i g hs => by
  rw [zD5]
  rcases hs with ⟨_, h2⟩ | ⟨i', a, h1, _, _, _, h5⟩
  ·have := I.2 i g h2; omega
  ·have := I.2 _ _ h5; omega
 refine ⟨fun i z => ?_, hlen⟩
 rcases Nat.lt_or_ge i (met.length + 1) with hi | hi
 ·rw [zHr A met i hi]
  cases i with
  | zero =>
   rw [if_pos rfl, I.1 0 z]
   constructor
   ·rintro ⟨y, g, h1, h2, h3, h4, h5⟩
    exact ⟨y, g, h1, h2, h3, .inl ⟨rfl, h4⟩, h5⟩
   ·rintro ⟨y, g, h1, h2, h3, h4, h5⟩
    rcases h4 with ⟨_, h4⟩ | ⟨i', a, h6, _⟩
    ·exact ⟨y, g, h1, h2, h3, h4, h5⟩
    ·omega
  | succ i =>
   rw [if_neg (by omega), orS, Bool.or_eq_true, I.1 (i + 1) z, Nat.add_sub_cancel, hA _ (fun y hy => yGb ((I.1 i y).1 hy))]
   constructor
   ·rintro (⟨y, g, h1, h2, h3, h4, h5⟩ | ⟨y', a, h1, h2, h3, h4, h5, h6⟩)
    ·exact ⟨y, g, h1, h2, h3, .inl ⟨rfl, h4⟩, h5⟩
    ·obtain ⟨y, g, g1, g2, g3, g4, g5, g6⟩ := (I.1 i y').1 h2
     have hd : ∀ j, a j = true → g j = false := fun j hj => by
      have := h5 j hj;rw [g6, Bool.or_eq_false_iff] at this;exact this.2
     refine ⟨y, fun j => g j || a j, g1, g2, fun j hj => ?_, .inr ⟨i, a, rfl, hne a h4, fun j hj => by simp only; rw [hj, Bool.or_true], h4, ?_⟩, fun j hj => ?_, fun j => ?_⟩
     ·rcases Bool.or_eq_true_iff.1 hj with h | h
      ·exact g3 j h
      ·exact h3 j h
     ·have e : (fun j => (g j || a j) && !a j) = g := funext fun j => by
       cases ha : a j
       ·simp
       ·simp [hd j ha]
      rw [e]; exact g4
     ·rcases Bool.or_eq_true_iff.1 hj with h | h
      ·exact g5 j h
      ·have := h5 j h
       rw [g6, Bool.or_eq_false_iff] at this;exact this.1
     ·simp only; rw [h6, g6, Bool.or_assoc]
   ·rintro ⟨y, g, h1, h2, h3, h4, h5, h6⟩
    rcases h4 with ⟨_, h4⟩ | ⟨i', a, e1, a1, a2, a3, a4⟩
    ·exact .inl ⟨y, g, h1, h2, h3, h4, h5, h6⟩
    ·obtain rfl : i = i' := by omega
     obtain ⟨y', hy', ey⟩ := bitsOf len (fun j => y.testBit j || (g j && !a j)) (fun j hj => by
      rcases Bool.or_eq_true_iff.1 hj with h | h
      ·exact zFp h1 h
      ·exact h3 j (by rw [zz3] at h; exact h.1))
     have ey2 : ∀ j, y'.testBit j = (y.testBit j || (g j && !a j)) := fun j => congrFun ey j;refine .inr ⟨y', a, hy', (I.1 i y').2 ⟨y, _, h1, h2, fun j hj => h3 j (by rw [zz3] at hj; exact hj.1), a4, fun j hj => h5 j (by rw [zz3] at hj; exact hj.1), ey2⟩, fun j hj => h3 j (a2 j hj), a3, fun j hj => ?_, fun j => ?_⟩
     ·rw [ey2, hj, h5 j (a2 j hj)]; simp
     ·rw [ey2, h6]
      cases ha : a j
      ·simp
      ·rw [a2 j ha]; simp
 ·rw [zRz (by rw [zD5]; exact hi)]
  constructor
  ·intro h; cases h
  ·rintro ⟨y, g, _, _, _, h4, _⟩
   have := hlen i g h4;rw [zD5] at this; omega
theorem zR1 {len : Nat} {S : Nat → Bool} {sem : Need → (Nat → Bool) → Prop} {A : Need → (Nat → Bool) → Nat → Bool} (hne : ∀ c g, sem c g → ∃ j, g j = true) : ∀ (L : List Need) (met : List (Nat → Bool)) (B : Nat → (Nat → Bool) → Prop), (∀ c ∈ L, ∀ S, (∀ y, S y = true → y < 2 ^ len) → ∀ z, A c S z = true ↔ Rz len (sem c) S z) → Inv len met B S → Inv len (zI0 (L.map A) met) (zFq sem true L B) S
 | [], met, B, _, I => I
 | c :: r, met, B, hA, I => zR1 hne r (stepM (A c) met) (zIp sem true c B) (fun x hx => hA x (List.mem_cons_of_mem _ hx)) (zYp (hA c List.mem_cons_self) (hne c) I)
theorem zXs (F : List (Nat → Bool)) (least : Int) (h0 : 0 ≤ least) (z : Nat) : ((F.drop (if (F.length : Int) < least then (F.length : Int) else least).toNat).any fun m => m z) = true ↔ ∃ i : Nat, least ≤ (i : Int) ∧ F.getD i noneS z = true := by
 rw [List.any_eq_true]
 constructor
 ·rintro ⟨m, hm, hz⟩
  obtain ⟨k, hk⟩ := List.mem_iff_getElem?.1 hm;rw [List.getElem?_drop] at hk;have hlt := (List.getElem?_eq_some_iff.1 hk).1;refine ⟨_, ?_, by rw [zz2, hk]; exact hz⟩;split at hlt
  ·omega
  ·rename_i hc
   rw [if_neg hc]; omega
 ·rintro ⟨i, hi, hz⟩
  have hlt : i < F.length := by
   rcases Nat.lt_or_ge i F.length with h | h
   ·exact h
   ·rw [zRz h] at hz; cases hz
  rw [if_neg (by omega)];refine ⟨F.getD i noneS, List.mem_iff_getElem?.2 ⟨i - least.toNat, ?_⟩, hz⟩;rw [List.getElem?_drop, show least.toNat + (i - least.toNat) = i by omega, zz2, List.getElem?_eq_getElem hlt];rfl
theorem zX8 (s : Scale) (l : List Ach) (hl : l.length ≤ 10) : ∀ (d : Nat) (n : Need) (S : Nat → Bool) (z : Nat), VOk d n → (∀ y, S y = true → y < 2 ^ l.length) → (zTs s l (2 ^ l.length) d n S z = true ↔ Rz l.length (zQl s l d n) S z) := by
 intro d
 induction d with
 | zero =>
  intro n S z hn _;have hk : zBm n = true := hn;have hk2 : n.Kind = 1 ∨ n.Kind = 2 := by simpa [zBm] using hk
  rw [zTs, if_pos hk2];exact zV4 hk s l hl S z
 | succ d ih =>
  intro n S z hn hS;cases hk : zBm n
  ·have hk2 : ¬(n.Kind = 1 ∨ n.Kind = 2) := by simpa [zBm] using hk
   obtain ⟨h1, h2, h3, h4⟩ := hn;obtain ⟨h5, h6⟩ := h3 hk;have h0 : 0 ≤ (if n.Kind = 3 then (n.L.length : Int) else n.N) := by split <;> omega
   have h0p : 0 < (if n.Kind = 3 then (n.L.length : Int) else n.N) := by split <;> omega
   have hq : ∀ (i : Nat) g, (if n.Kind = 3 then (n.L.length : Int) else n.N) ≤ (i : Int) → (zFq (zQl s l d) (n.Kind == 4) n.L B0 i g ↔ zFq (zQl s l d) true n.L B0 i g) := fun i g hi => by
    rcases h6 with h6 | h6
    ·have e : (n.Kind == 4) = false := by rw [h6]; rfl
     rw [if_pos h6] at hi;have := yGo (sem := zQl s l d) n.L i g;rw [e];exact ⟨fun h => (this.1 ⟨h, by omega⟩).1, fun h => (this.2 ⟨h, by omega⟩).1⟩
    ·have e : (n.Kind == 4) = true := by rw [h6.1]; rfl
     rw [e]
   have I00 : ∀ i z, [S].getD i noneS z = true ↔ Rz l.length (B0 i) S z := fun i z => by
    cases i with
    | zero =>
     constructor
     ·intro h
      exact ⟨z, fun _ => false, hS z h, h, (fun _ h => by cases h), ⟨rfl, fun _ => rfl⟩, (fun _ h => by cases h), fun j => by simp⟩
     ·rintro ⟨y, g, g1, g2, g3, g4, g5, g6⟩
      obtain rfl : z = y := Nat.eq_of_testBit_eq fun j => by rw [g6, g4.2 j, Bool.or_false]
      exact g2
    | succ i =>
     constructor
     ·intro h; cases h
     ·rintro ⟨y, g, _, _, _, g4, _⟩
      exact absurd g4.1 (Nat.succ_ne_zero i)
   have I0 : Inv l.length [S] B0 S := ⟨I00, fun i g hg => by rw [hg.1]; exact Nat.zero_lt_one⟩;have I := zR1 (sem := zQl s l d) (A := zTs s l (2 ^ l.length) d) (fun c g h => yDx h) n.L [S] B0 (fun c hc S' hS' z => ih c S' z (h4 c hc) hS') I0;rw [zTs, if_neg hk2, zJe, zXs _ _ h0]
   constructor
   ·rintro ⟨i, hi, hz⟩
    obtain ⟨y, g, g1, g2, g3, g4, g5, g6⟩ := (I.1 i z).1 hz;refine ⟨y, g, g1, g2, g3, .inr ⟨hk, yEo n.L B0 (fun i g h hi => by have := h.1; omega) i g g4 (by omega), i, hi, (hq i g hi).2 g4⟩, g5, g6⟩
   ·rintro ⟨y, g, g1, g2, g3, g4, g5, g6⟩
    rcases g4 with g4 | ⟨_, _, i, hi, g4⟩
    ·rw [hk] at g4; cases g4.1
    ·exact ⟨i, hi, (I.1 i z).2 ⟨y, g, g1, g2, g3, (hq i g hi).1 g4, g5, g6⟩⟩
  ·have hk2 : n.Kind = 1 ∨ n.Kind = 2 := by simpa [zBm] using hk
   rw [zTs, if_pos hk2, zV4 hk s l hl S z];simp only [zQl, hk, true_and, Bool.true_eq_false, false_and, or_false]
end Go.Sx
namespace Go.Sx
open Go.Proofs Go.RowKit
attribute [local irreducible] Run zAi zAy zAc SLe OLe
set_option maxHeartbeats 2000000
set_option maxRecDepth 8000
theorem K158 : FnOK Tryz.prog 158 (fun ds d => ∃ (l : List Int) (x : Int), ds = [eInt x, .fp [ints l]] ∧ d = .bool (l.any fun y => x == y)) := by
 refine zAa Tryz.call158 Tryz.func158 rfl Tryz.ntmps158 ?_
 rintro ds d ⟨l, x, rfl, rfl⟩
 refine ⟨by simp, fun w0 => ?_⟩
 repeat' (first | apply zC | apply zA | apply zB | refine zF qS qR ?_ ?_ | refine zM yHh qD ?_ ⟨_, _, rfl, rfl⟩ qS ?_ | refine zI qR ?_ | exact zz0 | exact rfl | exact zAc.bool rfl | fail)
 all_goals skip
theorem K117 : FnOK Tryz.prog 117 (fun ds d => ∃ (a b : List Int), ds = [ints a, ints b] ∧ d = .bool (a.any fun x => b.any fun y => x == y)) := by
 refine zAa Tryz.call117 Tryz.func117 rfl Tryz.ntmps117 ?_
 rintro ds d ⟨a, b, rfl, rfl⟩
 refine ⟨by simp, fun w0 => ?_⟩
 repeat' (first | refine zDv 0 qS ?_ | apply zC | apply zA | apply zB | refine zF qS qR ?_ ?_ | refine zM yHf qD ?_ ⟨a, 158, [.fp [ints b]], fun x => b.any fun y => x == y, fun i _ => ⟨_, K158, _, _, rfl, rfl⟩, rfl, rfl⟩ qS ?_ | refine zI qR ?_ | exact zz0 | exact rfl | exact zAc.bool rfl | fail)
 all_goals skip
theorem K56 : FnOK Tryz.prog 56 (fun ds d => ∃ (a b : Ach), ds = [zBp a, zBp b] ∧ d = .bool (pair a b)) := by
 refine zAa Tryz.call56 Tryz.func56 rfl Tryz.ntmps56 ?_
 rintro ds d ⟨a, b, rfl, rfl⟩
 refine ⟨by simp, fun w0 => ?_⟩
 rw [zG2]
 repeat' (first | apply zC | apply zG | apply zA | apply zB | refine zF qS qR ?_ ?_ | refine zV 21 qR qS K114 qD (fun hg => ?_) (fun _ => ⟨_, _, rfl, rfl⟩) qS ?_ | refine zV 29 qR qS K117 qD (fun hg => ?_) (fun _ => ⟨_, _, rfl, rfl⟩) qS ?_ | (refine zE qS ?_ ?_ <;> intro hb <;> have hc := hb <;> (try simp only [bF] at hc) <;> (try (exfalso; simp at hc; done))) | refine zI qR ?_ | exact zz0 | exact rfl | refine zAc.bool ?_ | exact qP | fail)
 ·have : zEk a.Course b.Course = true := hb
  rw [this]; rfl
 ·have : zEk a.Course b.Course = false := hb
  rw [this, Bool.false_or];unfold shared;by_cases h : a.Bundle > 0 ∧ a.Bundle = b.Bundle ∧ a.Path = b.Path
  ·rw [if_pos h]
   have h1 : (decide (0 < a.Bundle) && a.Bundle == b.Bundle && a.Path == b.Path) = true := by
    simp only [zz3, decide_eq_true_eq, beq_iff_eq];exact ⟨⟨h.1, h.2.1⟩, h.2.2⟩
   rw [h1]; rfl
  ·rw [if_neg h]
   have h1 : (decide (0 < a.Bundle) && a.Bundle == b.Bundle && a.Path == b.Path) = false := by
    rw [Bool.eq_false_iff];intro hc;simp only [zz3, decide_eq_true_eq, beq_iff_eq] at hc;exact h ⟨hc.1.1, hc.1.2, hc.2⟩
   rw [h1]; rfl
theorem FnOK.slE {P : Program} {f : Nat} {R : List SD → SD → Prop} (hf : FnOK P f R) : FnOK P f (fun ds d => ∃ ds0, zAh ds ds0 ∧ R ds0 d) :=
 ⟨hf.call, fun ds d ⟨ds0, h1, hr⟩ h e w vs gh sb hv => hf.ok ds0 d hr h e w vs gh sb (h1.repT hv)⟩
end Go.Sx
