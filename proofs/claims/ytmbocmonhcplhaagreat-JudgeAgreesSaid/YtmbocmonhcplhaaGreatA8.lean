/- Part of the proof that the laws of the judge return true for every input: A4, A5, A16, A27, A28, A1, A6, A8. -/
import Derived.Test.YtmbocmonhcplhaaGreatA3
import Derived.Test.YtmbocmonhcplhaaGreatJ21
import Derived.Sort.Statements
import Derived.Test.YtmbocmonhcplhaaGreatS4
import Derived.Shelf.SlSortCmp.Kit1
import Derived.Sort.AssemblyPlain
import Derived.Lib.QuietBelow
import Derived.Shelf.SlSortCmp.Whole1
import Derived.Shelf.SlGeneric
import Derived.Ground.SlsfProg
import Derived.Test.YtmbocmonhcplhaaGreatProg
import Derived.Test.YtmbocmonhcplhaaGreatJ35
set_option linter.all false
namespace Go.Sx
open Go.Proofs Go.RowKit
attribute [local irreducible] Run zAi zAy OpT zAc SLe OLe
set_option maxHeartbeats 2000000
set_option maxRecDepth 8000
set_option maxHeartbeats 8000000
def pc1 (x : Int) : Int := IntKind.u64.wrap (zO8 .u64 (zMa .u64 x 1) 6148914691236517205 + zO8 .u64 x 6148914691236517205)
def pc2 (x : Int) : Int := IntKind.u64.wrap (zO8 .u64 (zMa .u64 x 2) 3689348814741910323 + zO8 .u64 x 3689348814741910323)
def pc3 (x : Int) : Int := zO8 .u64 (IntKind.u64.wrap (zMa .u64 x 4 + x)) 1085102592571150095
def pc4 (x : Int) : Int := IntKind.u64.wrap (x + zMa .u64 x 8)
def pc5 (x : Int) : Int := IntKind.u64.wrap (x + zMa .u64 x 16)
def pc6 (x : Int) : Int := IntKind.u64.wrap (x + zMa .u64 x 32)
def pcF (x : Int) : Int := zO8 .i64 (IntKind.i64.wrap (pc6 (pc5 (pc4 (pc3 (pc2 (pc1 x))))))) 127
theorem K170 : FnOK Tryz.prog 170 (fun ds d => ∃ x : Int, ds = [.int .u64 x] ∧ d = eInt (pcF x)) := by
 refine zAa Tryz.call170 Tryz.func170 rfl Tryz.ntmps170 ?_
 rintro ds d ⟨x, rfl, rfl⟩
 refine ⟨by simp, fun w0 => ?_⟩
 obtain ⟨y1, h1⟩ : ∃ y, IntKind.u64.wrap (zO8 .u64 (zMa .u64 x 1) 6148914691236517205 + zO8 .u64 x 6148914691236517205) = y := ⟨_, rfl⟩
 obtain ⟨y2, h2⟩ : ∃ y, IntKind.u64.wrap (zO8 .u64 (zMa .u64 y1 2) 3689348814741910323 + zO8 .u64 y1 3689348814741910323) = y := ⟨_, rfl⟩
 obtain ⟨y3, h3⟩ : ∃ y, zO8 .u64 (IntKind.u64.wrap (zMa .u64 y2 4 + y2)) 1085102592571150095 = y := ⟨_, rfl⟩
 obtain ⟨y4, h4⟩ : ∃ y, IntKind.u64.wrap (y3 + zMa .u64 y3 8) = y := ⟨_, rfl⟩
 obtain ⟨y5, h5⟩ : ∃ y, IntKind.u64.wrap (y4 + zMa .u64 y4 16) = y := ⟨_, rfl⟩
 obtain ⟨y6, h6⟩ : ∃ y, IntKind.u64.wrap (y5 + zMa .u64 y5 32) = y := ⟨_, rfl⟩
 have hp : pcF x = zO8 .i64 (IntKind.i64.wrap y6) 127 := by
  unfold pcF;rw [show pc1 x = y1 from h1, show pc2 y1 = y2 from h2, show pc3 y2 = y3 from h3, show pc4 y3 = y4 from h4, show pc5 y4 = y5 from h5, show pc6 y5 = y6 from h6]
 rw [hp]
 repeat' (first | apply zC | apply zA | apply zB | refine zF (by simp only [go_sem, h1, h2, h3, h4, h5, h6]; rfl) qR ?_ ?_ | refine zI qR ?_ | exact zz0 | exact rfl | refine zAc.int ?_ | exact qP | fail)
attribute [local irreducible] pcF
theorem K126 : FnOK Tryz.prog 126 (fun ds d => ∃ x : Int, ds = [.int .u64 x] ∧ d = eInt (pcF x)) := by
 refine zAa Tryz.call126 Tryz.func126 rfl Tryz.ntmps126 ?_
 rintro ds d ⟨x, rfl, rfl⟩
 refine ⟨by simp, fun w0 => ?_⟩
 repeat' (first | apply zC | apply zG | apply zA | apply zB | refine zF qS qR ?_ ?_ | refine zM K170 qD ?_ ⟨_, rfl, rfl⟩ qS ?_ | (refine zE qS ?_ ?_ <;> intro hb <;> have hc := hb <;> (try simp only [bF] at hc) <;> (try (exfalso; simp at hc; done))) | refine zI qR ?_ | exact zz0 | exact rfl | refine zAc.int ?_ | fail)
def cmpL : List Int → List Int → Int
 | [], [] => 0
 | [], _ :: _ => -1
 | _ :: _, [] => 1
 | x :: l, y :: r => if zO1 x y = 0 then cmpL l r else zO1 x y
theorem K127 : FnOK Tryz.prog 127 (fun ds d => ∃ l r : List Int, (l.length ≤ 1000 ∧ r.length ≤ 1000) ∧ ds = [ints l, ints r] ∧ d = eInt (cmpL l r)) := by
 refine zAa Tryz.call127 Tryz.func127 rfl Tryz.ntmps127 ?_
 rintro ds d ⟨l, r, ⟨hl, hr⟩, rfl, rfl⟩
 refine ⟨by simp, fun w0 => ?_⟩
 repeat' (first | apply zC | apply zD | apply zA | apply zB | refine zF qS qR ?_ ?_ | exact zz0 | exact rfl | fail)
 refine zN [0, 1, 9, 10] (fun x : Nat × Unit => [(11, .int .i64 x.1)]) (fun x : Nat × Unit => []) (fun x : Nat × Unit => (x.1 ≤ l.length ∧ x.1 ≤ r.length) ∧ cmpL l r = cmpL (l.drop x.1) (r.drop x.1)) (fun x : Nat × Unit => l.length - x.1) (0, ()) (fun x => qS) ?_ qL qL ?_
 ·exact ⟨⟨Nat.zero_le _, Nat.zero_le _⟩, rfl⟩
 rintro ⟨i, _⟩ ⟨⟨h1, h2⟩, h3⟩
 simp only at h1 h2 h3
 repeat' (first | apply zC | apply zA | apply zB | refine zF qS qR ?_ ?_ | exact zz0 | exact rfl | fail)
 (refine zE qS ?_ ?_ <;> intro hb <;> have hc := hb <;> (try simp only [bF] at hc) <;> (try (exfalso; simp at hc; done)))
 ·have hi : i < l.length := by omega
  rw [zAv _ _ hi] at h3
  repeat' (first | apply zC | apply zG | apply zD | apply zA | apply zB | refine zF qS qR ?_ ?_ | exact zz0 | exact rfl | exact qP | fail)
  (refine zE qS ?_ ?_ <;> intro hb <;> have hc := hb <;> (try simp only [bF] at hc) <;> (try (exfalso; simp at hc; done)))
  ·have hr2 : r.drop i = [] := List.drop_eq_nil_of_le (by omega)
   rw [hr2] at h3
   repeat' (first | apply zC | apply zA | apply zB | refine zF qS qR ?_ ?_ | refine zI qR ?_ | exact zz0 | exact rfl | refine zAc.int ?_ | fail)
   rw [h3]; rfl
  ·have hi2 : i < r.length := by omega
   rw [zAv _ _ hi2] at h3;simp only [cmpL] at h3
   repeat' (first | apply zC | apply zG | apply zA | apply zB | refine zF qS qR ?_ ?_ | refine zM yHg qD ?_ ⟨_, _, rfl, rfl⟩ qS ?_ | exact zz0 | exact rfl | exact qP | fail)
   (refine zE qS ?_ ?_ <;> intro hb <;> have hc := hb <;> (try simp only [bF] at hc) <;> (try (exfalso; simp at hc; done)))
   ·repeat' (first | apply zC | apply zA | apply zB | refine zF qS qR ?_ ?_ | refine zI qR ?_ | exact zz0 | exact rfl | omega | refine zAc.int ?_ | fail)
   ·rw [if_pos hc] at h3
    repeat' (first | apply zG | apply zL | apply zA | apply zB | refine zF qS qR ?_ ?_ | refine zS (i+1,()) ?_ ?_ ⟨rfl, qL, qL⟩ | exact zz0 | exact rfl | omega)
    exact ⟨⟨by simp only; omega, by simp only; omega⟩, h3⟩
 ·have hi : l.drop i = [] := List.drop_eq_nil_of_le (by omega)
  rw [hi] at h3
  repeat' (first | apply zC | apply zA | apply zB | refine zF qS qR ?_ ?_ | refine zK qR ?_ | exact zz0 | exact rfl | fail)
  (refine zE qS ?_ ?_ <;> intro hb <;> have hc := hb <;> (try simp only [bF] at hc) <;> (try (exfalso; simp at hc; done)))
  ·have hi2 : i < r.length := by omega
   rw [zAv _ _ hi2] at h3
   repeat' (first | apply zC | apply zA | apply zB | refine zF qS qR ?_ ?_ | refine zI qR ?_ | exact zz0 | exact rfl | refine zAc.int ?_ | fail)
   rw [h3]; rfl
  ·have hr2 : r.drop i = [] := List.drop_eq_nil_of_le (by omega)
   rw [hr2] at h3
   repeat' (first | apply zC | apply zG | apply zA | apply zB | refine zF qS qR ?_ ?_ | refine zI qR ?_ | exact zz0 | exact rfl | refine zAc.int ?_ | fail)
   rw [h3]; rfl
end Go.Sx
namespace Go.Sx
open Go.Proofs Go.RowKit
attribute [local irreducible] Run zAi zAy OpT zAc SLe OLe
set_option maxHeartbeats 2000000
set_option maxRecDepth 8000
set_option maxHeartbeats 8000000
attribute [local irreducible] pcF
def yDl (a b : Nat) : Int := if zO1 (pcF (IntKind.u64.wrap a)) (pcF (IntKind.u64.wrap b)) = 0 then cmpL (zCu a) (zCu b) else zO1 (pcF (IntKind.u64.wrap a)) (pcF (IntKind.u64.wrap b))
theorem K123 : FnOK Tryz.prog 123 (fun ds d => ∃ a b : Nat, (a < 1024 ∧ b < 1024) ∧ ds = [eInt (a : Nat), eInt (b : Nat)] ∧ d = eInt (yDl a b)) := by
 refine zAa Tryz.call123 Tryz.func123 rfl Tryz.ntmps123 ?_
 rintro ds d ⟨a, b, ⟨ha, hb0⟩, rfl, rfl⟩
 refine ⟨by simp, fun w0 => ?_⟩
 have l1 : ∀ m, (zCu m).length ≤ 1000 := fun m => Nat.le_trans (zMn m 10) (by omega)
 unfold yDl
 repeat' (first | apply zC | apply zA | apply zB | refine zF qS qR ?_ ?_ | refine zM K126 qD ?_ ⟨_, rfl, rfl⟩ qS ?_ | refine zM yHg qD ?_ ⟨_, _, rfl, rfl⟩ qS ?_ | refine zM K63 qD ?_ ⟨_, (by assumption), rfl, rfl⟩ qS ?_ | refine zM K127 qD ?_ ⟨_, _, ⟨l1 _, l1 _⟩, rfl, rfl⟩ qS ?_ | refine zM K124 qD ?_ ⟨_, _, rfl, rfl⟩ qS ?_ | refine zI qR ?_ | exact zz0 | exact rfl | refine zAc.int ?_ | fail)
end Go.Sx
namespace Go.Sx
open Go.Proofs Go.RowKit
structure zTr {α : Type} (c : α → α → Int) : Prop where
 refl : ∀ x, c x x = 0
 anti : ∀ x y, c x y ≤ 0 ↔ 0 ≤ c y x
 trans : ∀ x y z, c x y ≤ 0 → c y z ≤ 0 → c x z ≤ 0
theorem zTr.swo {α : Type} {c : α → α → Int} (h : zTr c) : Go.Sort.SWO fun x y => decide (c x y < 0) where
 irrefl x := by simp [h.refl]
 trans x y z h1 h2 := by
  simp only [decide_eq_true_eq] at h1 h2 ⊢
  rcases Int.lt_or_le (c x z) 0 with h3 | h3
  ·exact h3
  ·have h4 := (h.anti z x).2 h3
   have h5 := h.trans z x y h4 (by omega);have h6 := (h.anti z y).1 h5;omega
 ntrans x y z h1 h2 := by
  simp only [decide_eq_false_iff_not, Int.not_lt] at h1 h2 ⊢;exact (h.anti z x).1 (h.trans z y x ((h.anti z y).2 h2) ((h.anti y x).2 h1))
theorem zHe (a b : Int) : zO1 a b ≤ 0 ↔ a ≤ b := by
 unfold zO1
 split
 ·omega
 ·split <;> omega
theorem zWw (a b : Int) : 0 ≤ zO1 a b ↔ b ≤ a := by
 unfold zO1
 split
 ·omega
 ·split <;> omega
theorem zDa (a b : Int) : zO1 a b = 0 ↔ a = b := by
 unfold zO1
 split
 ·omega
 ·split <;> omega
theorem zTr.key {α : Type} (f : α → Int) : zTr fun x y => zO1 (f x) (f y) where
 refl x := (zDa _ _).2 rfl
 anti x y := by rw [zHe, zWw]
 trans x y z h1 h2 := by rw [zHe] at h1 h2 ⊢; omega
theorem zTr.both {α : Type} {c1 c2 : α → α → Int} (h1 : zTr c1) (h2 : zTr c2) : zTr fun x y => if c1 x y = 0 then c2 x y else c1 x y where
 refl x := by simp only [h1.refl, if_pos, h2.refl]
 anti x y := by
  have a1 := h1.anti x y;have a2 := h1.anti y x;have a3 := h2.anti x y;by_cases e : c1 x y = 0
  ·have e2 : c1 y x = 0 := by omega
   simp only [e, e2, if_pos]; exact a3
  ·have e2 : ¬ c1 y x = 0 := by omega
   simp only [e, e2, if_false]; exact a1
 trans x y z g1 g2 := by
  have a1 := h1.anti x y;have a2 := h1.anti y x;have a3 := h1.anti y z;have a4 := h1.anti z y;have a5 := h1.anti x z;have a6 := h1.anti z x;have t1 := h1.trans x y z;have t2 := h1.trans y z x;have t3 := h1.trans z x y;have t4 := h2.trans x y z;by_cases e1 : c1 x y = 0 <;> by_cases e2 : c1 y z = 0 <;> by_cases e3 : c1 x z = 0 <;> simp only [e1, e2, e3, if_pos, if_false] at g1 g2 ⊢ <;> first | exact t4 g1 g2 | omega
theorem zWv : zTr cmpL where
 refl x := by
  induction x with
  | nil => rfl
  | cons a r ih => simp only [cmpL, (zDa a a).2 rfl, if_pos, ih]
 anti x := by
  induction x with
  | nil => intro y; cases y <;> simp [cmpL]
  | cons a r ih =>
   intro y;cases y with
   | nil => simp [cmpL]
   | cons b t =>
    simp only [cmpL];by_cases e : a = b
    ·rw [if_pos ((zDa a b).2 e), if_pos ((zDa b a).2 e.symm)]; exact ih t
    ·rw [if_neg (fun h => e ((zDa a b).1 h)), if_neg (fun h => e ((zDa b a).1 h).symm), zHe, zWw]
 trans x := by
  induction x with
  | nil => intro y z _ _; cases z <;> simp [cmpL]
  | cons a r ih =>
   intro y z;cases y with
   | nil => intro h; simp [cmpL] at h
   | cons b t =>
    cases z with
    | nil => intro _ h; simp [cmpL] at h
    | cons c u =>
     intro g1 g2;simp only [cmpL] at g1 g2 ⊢;by_cases e1 : a = b
     ·subst e1
      rw [if_pos ((zDa a a).2 rfl)] at g1;by_cases e2 : a = c
      ·subst e2
       rw [if_pos ((zDa a a).2 rfl)] at g2 ⊢;exact ih t u g1 g2
      ·rw [if_neg (fun h => e2 ((zDa a c).1 h))] at g2 ⊢
       exact g2
     ·rw [if_neg (fun h => e1 ((zDa a b).1 h)), zHe] at g1
      by_cases e2 : b = c
      ·subst e2
       rw [if_neg (fun h => e1 ((zDa a b).1 h)), zHe]; exact g1
      ·rw [if_neg (fun h => e2 ((zDa b c).1 h)), zHe] at g2
       rw [if_neg (fun h => by have := (zDa a c).1 h; omega), zHe]; omega
theorem zNa : Go.Sort.SWO fun a b : Nat => decide (yDl a b < 0) := by
 have h1 : zTr fun a b : Nat => zO1 (pcF (IntKind.u64.wrap (a : Int))) (pcF (IntKind.u64.wrap (b : Int))) := zTr.key fun a : Nat => pcF (IntKind.u64.wrap (a : Int))
 have h2 : zTr fun a b : Nat => cmpL (zCu a) (zCu b) := ⟨fun x => zWv.refl _, fun x y => zWv.anti _ _, fun x y z => zWv.trans _ _ _⟩
 exact (zTr.both h1 h2).swo
end Go.Sx
namespace Go.Sx
open Go.Proofs Go.RowKit Go.Sort
abbrev F10 := _root_.Fin 1024
def zKq (x : F10) : Value := .int .i64 (x.val : Int)
def zZ9 (x y : F10) : Int := yDl x.val y.val
theorem swoF : SWO (ltOf zZ9) := ⟨fun x => zNa.irrefl x.val, fun x y z => zNa.trans x.val y.val z.val, fun x y z => zNa.ntrans x.val y.val z.val⟩
def toF (l : List Nat) : Array F10 := (l.map fun x => (⟨x % 1024, Nat.mod_lt _ (by decide)⟩ : F10)).toArray
theorem zQo (l : List Nat) : (toF l).size = l.length := by simp [toF]
def zNm (l : List Nat) : Array F10 := pdq (ltOf zZ9) (toF l) 0 (toF l).size (Lib.bitLen (toF l).size) true true
def zNl (l : List Nat) : List Nat := (zNm l).toList.map _root_.Fin.val
theorem zNz (l : List Nat) : (zNm l).toList.Perm (toF l).toList := by
 have h := (pdq_sorts (ltOf zZ9) swoF (toF l) 0 (toF l).size (Lib.bitLen (toF l).size) true true (Nat.zero_le _) (Nat.le_refl _) (Or.inl rfl)).1
 obtain ⟨h1, _, h3⟩ := h
 have e1 : ((toF l).extract 0 (toF l).size) = toF l := by simp
 have e2 : ((zNm l).extract 0 (toF l).size) = zNm l := by
  have h1' : (zNm l).size = (toF l).size := h1;rw [← h1']; simp
 rw [show pdq (ltOf zZ9) (toF l) 0 (toF l).size (Lib.bitLen (toF l).size) true true = zNm l from rfl, e1, e2] at h3
 exact h3
theorem yAu {l : List Nat} (h : ∀ x ∈ l, x < 1024) : (toF l).toList.map _root_.Fin.val = l := by
 simp only [toF, List.map_map]
 conv => rhs; rw [← List.map_id l]
 exact List.map_congr_left fun x hx => by simp [Nat.mod_eq_of_lt (h x hx)]
theorem zQx {l : List Nat} (h : ∀ x ∈ l, x < 1024) : (zNl l).Perm l := by
 have := (zNz l).map _root_.Fin.val
 rw [yAu h] at this
 exact this
theorem zNy (l : List Nat) : (zNm l).size = l.length := by
 have := (zNz l).length_eq
 rw [Array.length_toList, Array.length_toList, zQo] at this
 exact this
theorem zUe (l : List Nat) : (zNl l).length = l.length := by rw [zNl, List.length_map, Array.length_toList, zNy]
@[go_sem] def oMs (l : List Nat) : OB := .acc 3 1 l.length fun i => .int .i64 (l.getD i 0 : Nat)
def SortSaid : Prop := ∀ (b cap : Nat) (d : Array F10) (w : World), CmpLays1 Tryz.prog 123 #[] zKq zZ9 b 0 d.size w → Holds zKq w b 0 d → b < w.heap.size → d.size < 4611686018427387904 →
 Calls Tryz.prog 122 #[.slice (some ⟨b, 0, none⟩) d.size cap, .func (.func 123) #[] #[]] w fun e w' => e = .returned (.tuple #[]) ∧ ∃ n os, w' = sortWorld zKq w b 0 n (pdq (ltOf zZ9) d 0 d.size (Lib.bitLen d.size) true true) os
theorem zY5 (b n : Nat) (w : World) : CmpLays1 Tryz.prog 123 #[] zKq zZ9 b 0 n w := fun m os dk _ x y => by
 generalize sortWorld zKq w b 0 m dk os = W
 have hr : repT (fun _ => none) [eInt (x.val : Nat), eInt (y.val : Nat)] ⟨fun _ => 0, fun _ => .tuple #[]⟩ [zKq x, zKq y] := by
  exact ⟨_, _, rfl, rfl, _, _, rfl, rfl, rfl⟩
 refine (K123.ok _ (eInt (yDl x.val y.val)) ⟨x.val, y.val, ⟨x.isLt, y.isLt⟩, rfl, rfl⟩ (fun _ => none) ⟨fun _ => 0, fun _ => .tuple #[]⟩ W [zKq x, zKq y] trivial (fun b o h => by cases h) hr).mono fun en w' hq => ?_
 obtain ⟨v, h', rfl, _, _, g3, _, g5⟩ := hq
 have hv : v = .int .i64 (yDl x.val y.val) := g5 ⟨fun _ => 0, fun _ => .tuple #[]⟩
 subst hv
 obtain ⟨p, hp⟩ := regrown_of_below g3.toBelow
 have hd : W.drawn ≤ p.d := by
  have := g3.dr;rw [hp] at this;exact this
 refine ⟨rfl, p.d - W.drawn, p.os, ?_⟩
 rw [hp]
 congr 1
 show redrawn W p.d = W.drewN (p.d - W.drawn)
 unfold redrawn World.drewN
 rw [show W.drawn + (p.d - W.drawn) = p.d by omega]
theorem zUf (hS : SortSaid) {h : Hp} {e : Nm} {w : World} {k : Nat} {l : List Nat} (h0 : 0 < l.length) (h2 : ∀ x ∈ l, x < 1024) (ho : zDp h e w k (oMs l)) :
  ∃ b, (oMs l).blk e k = some b ∧ Calls Tryz.prog 122 #[e.hd k, .func (.func 123) #[] #[]] w fun en w' => en = .returned (.tuple #[]) ∧ ∃ w1, zDp h e w1 k (oMs (zNl l)) ∧ (∀ b', b' ≠ b → w1.heap[b']? = w.heap[b']?) ∧ w1.os = w.os ∧ w1.tape = w.tape ∧ w1.output = w.output ∧ w1.heap.size = w.heap.size ∧ w.drawn ≤ w1.drawn ∧ Below w1.heap.size w1 w' := by
 obtain ⟨xs, ⟨x1, x2⟩, x3, x4⟩ := ho
 rcases x2 with ⟨_, hn⟩ | ⟨b, cap, cur, e1, _, e3, e4, e5, e6, e7⟩
 ·omega
 have hblt : b < w.heap.size := (Array.getElem?_eq_some_iff.1 e3).1
 have hmx : l.length ≤ maxN := x3
 have hcur : ∀ j, j < l.length → cur[j]? = some (.int .i64 (l.getD j 0 : Nat)) := fun j hj => by
  obtain ⟨u, u1, u2, u3, u4⟩ := x4 j hj;have hu := u1 e;simp only [rep] at hu;subst hu;have h3 : cut xs (j * 1) 1 = [Value.int .i64 (l.getD j 0 : Nat)] := u2.symm;have h4 : (cut xs (j * 1) 1)[0]? = some (Value.int .i64 (l.getD j 0 : Nat)) := by rw [h3]; rfl
  rw [← e7] at h4;simp only [cut, Nat.mul_one, List.getElem?_take, List.getElem?_drop] at h4;simp only [Nat.zero_lt_one, if_true, Nat.add_zero] at h4;rw [if_pos hj] at h4;rw [← Array.getElem?_toList];exact h4
 have hds := zQo l
 have hH : Holds zKq w b 0 (toF l) := fun j hj => by
  have hj2 : j < l.length := by omega
  refine ⟨?_, ?_⟩
  ·unfold World.cell?
   simp only [e3, Option.isSome_none, Bool.false_eq_true, if_false, Nat.zero_add];rw [hcur j hj2]
   congr 1
   unfold zKq;rw [getElem!_pos (toF l) j hj];simp only [toF, List.getElem_toArray, List.getElem_map];have hl : l[j] < 1024 := h2 _ (List.getElem_mem _);rw [Nat.mod_eq_of_lt hl, zz2, List.getElem?_eq_getElem hj2];rfl
  ·unfold World.frozen?
   simp only [e3];simp
 refine ⟨b, by simp [OB.blk, oMs, e1, Value.ownBlock], ?_⟩
 rw [show #[e.hd k, Value.func (.func 123) #[] #[]] = #[.slice (some ⟨b, 0, none⟩) (toF l).size cap, .func (.func 123) #[] #[]] by rw [hds, ← e1]]
 refine (hS b cap (toF l) w (zY5 b _ w) hH hblt (by rw [hds]; have : maxN = 68719476736 := rfl; omega)).mono fun en w' hq => ?_
 obtain ⟨rfl, n, os, hw⟩ := hq
 change w' = sortWorld zKq w b 0 n (zNm l) os at hw
 have hsz := zNy l
 have hput : ∀ j, j < l.length → (putCells zKq 0 (zNm l) cur)[j]? = some (.int .i64 ((zNl l).getD j 0 : Nat)) := fun j hj => by
  have hjc : j < cur.size := by omega
  unfold putCells;rw [Array.getElem?_mapIdx, hcur j hj];simp only [Option.map_some];rw [if_pos ⟨Nat.zero_le _, by omega⟩, Nat.sub_zero]
  congr 1
  unfold zKq;rw [getElem!_pos (zNm l) j (by omega)]
  congr 1
  simp [zNl, zz2, hsz, hj]
 have hlen := zUe l
 have hps : (putCells zKq 0 (zNm l) cur).size = cur.size := by simp [putCells]
 have hmine : (putRow zKq (Sort.ahead w n) b 0 (zNm l)).heap[b]? = some (.cells (putCells zKq 0 (zNm l) cur) 3 (0, 0)) := by
  simp only [putRow, mapBlock, Sort.ahead];rw [Array.getElem?_modify, if_pos rfl, e3];rfl
 refine ⟨rfl, putRow zKq (Sort.ahead w n) b 0 (zNm l), ?_, fun b' hb' => ?_, rfl, rfl, rfl, by simp [putRow, mapBlock, Sort.ahead], Nat.le_add_right _ _, ?_⟩
 ·refine ⟨(putCells zKq 0 (zNm l) cur).toList.take ((zNl l).length * 1), ⟨?_, .inr ⟨b, cap, _, by rw [hlen]; exact e1, Nat.zero_le _, hmine, by omega, e5, by rw [hps]; exact e6, rfl⟩⟩, by rw [hlen]; exact x3, fun i hi => ?_⟩
  ·have hpl : (putCells zKq 0 (zNm l) cur).toList.length = cur.size := by rw [Array.length_toList, hps]
   rw [List.length_take, hpl]; omega
  ·have hi2 : i < l.length := by omega
   refine ⟨.int .i64 ((zNl l).getD i 0 : Nat), fun e' => rfl, ?_, rfl, fun c hc => ?_⟩
   ·show [Value.int .i64 ((zNl l).getD i 0 : Nat)] = cut _ (i * 1) 1
    have h5 : (putCells zKq 0 (zNm l) cur).toList[i]? = some (.int .i64 ((zNl l).getD i 0 : Nat)) := by rw [Array.getElem?_toList]; exact hput i hi2
    apply List.ext_getElem?;intro j;simp only [cut, Nat.mul_one, List.getElem?_take, List.getElem?_drop];cases j with
    | zero => simp only [Nat.zero_lt_one, if_true, Nat.add_zero]; rw [if_pos (by omega), h5]; rfl
    | succ j => rw [if_neg (by omega)]; rfl
   ·have : c = .int .i64 ((zNl l).getD i 0 : Nat) := by simpa [Value.cells] using hc
    rw [this]; rfl
 ·simp only [putRow, mapBlock, Sort.ahead]
  rw [Array.getElem?_modify, if_neg (fun hc => hb' hc.symm)]
 ·rw [hw]
  refine ⟨⟨rfl, rfl, rfl, by simp [sortWorld, grow], fun k hk => ?_⟩, Nat.le_refl _⟩;show ((putRow zKq (Sort.ahead w n) b 0 (zNm l)).heap ++ os)[k]? = _;rw [Array.getElem?_append_left hk]
section
variable {F : List Nat} {w0 : Base} {s : St} {Q : Exit → Act → World → Prop} {ops : Array Oper} {rest : List Oper}
set_option maxRecDepth 8000 in
theorem zXi (hS : SortSaid) (k : Nat) (l : List Nat) {t : Nat} {x : Operand} {tys : Array Nat} {ty : Nat} {pos : String} {af : Array Edge} {s' : St} (ho : lkO s.ow k = some (oMs l)) (h0 : 0 < l.length) (h2 : ∀ y ∈ l, y < 1024) (hx : ev s x = .acc k)
  (hs : zC0 ⟨s.n, s.nx, s.sl, upd s.ow k (oMs (zNl l))⟩ t (.tup []) = some s') (hn : zAi Tryz.prog F w0 ops Q rest s') : zAi Tryz.prog F w0 ops Q (⟨some t, .call ⟨.value (.func 122), #[x, .func 123], tys⟩, ty, pos, af, none⟩ :: rest) s := fun h e a w D => by
 obtain ⟨ht, rfl⟩ := zA0 hs
 refine zAf rfl fun K hK => ?_
 have hv := D.ev x
 rw [hx] at hv
 simp only [rep] at hv
 obtain ⟨b, hb, hc⟩ := zUf hS h0 h2 (D.own k _ ho)
 unfold Oper.wp
 have hrun : (execOp a.eval ⟨some t, .call ⟨.value (.func 122), #[x, .func 123], tys⟩, ty, pos, af, none⟩).run Tryz.prog w = .ok (.enter 122 #[e.hd k, .func (.func 123) #[] #[]]) w := by
  have h1 : a.eval (.func 123) = .func (.func 123) #[] #[] := rfl;simp [execOp, resolve, Deferred.ofValue, Act.eval, invoke, Tryz.call122, ← hv.1]
 rw [hrun]
 refine hc.mono fun en w' hq => ?_
 obtain ⟨rfl, w1, q1, q2, q3, q4, q5, q6, q7, q8⟩ := hq
 have D1 := D.setOwn (o' := oMs (zNl l)) (w' := w1) ho rfl q1 (fun b' hb' => q2 b' (fun hc => hb' (by rw [hc]; exact hb))) q3 q4 q5 q6 q7
 exact hK _ _ (hn _ _ _ _ ((D1.lent q8).put (i := t) (d := .tup []) (v := .tuple #[]) ht ⟨[], rfl, rfl⟩))
end
end Go.Sx
namespace Go.Proofs
open Go.Shelf
def Tryz.sortM_ren : Go.Shelf.Ren := ⟨fun | 6 => 122 | 15 => 167 | 14 => 166 | 28 => 209 | 29 => 210 | 20 => 201 | 21 => 202 | 22 => 203 | 23 => 204 | 24 => 205 | 25 => 206 | 26 => 207 | 27 => 208 | 46 => 229 | 47 => 230 | 48 => 231 | 49 => 232 | 50 => 233 | 57 => 239 | n => n, fun | 22 => 22 | 24 => 3 | 25 => 80 | 3 => 3 | 39 => 191 | 0 => 0 | 53 => 237 | 55 => 239 | 4 => 4 | 46 => 258 | 45 => 257 | 50 => 262 | 5 => 5 | 9 => 9 | 66 => 279 | 70 => 283 | 76 => 287 | 77 => 288 | n => n, fun | n => n⟩
theorem Tryz.sortM : Go.Proofs.SlLaysF.n6 Tryz.prog Tryz.sortM_ren := {
 mixed := by kernel_rfl
 f6 := ⟨Tryz.f122.name, by decide, Tryz.func122.trans (congrArg some (by kernel_rfl))⟩
 f14 := ⟨Tryz.f166.name, by decide, Tryz.func166.trans (congrArg some (by kernel_rfl))⟩
 f15 := Tryz.func167.trans (congrArg some (by kernel_rfl))
 f20 := ⟨Tryz.f201.name, by decide, Tryz.func201.trans (congrArg some (by kernel_rfl))⟩
 f21 := ⟨Tryz.f202.name, by decide, Tryz.func202.trans (congrArg some (by kernel_rfl))⟩
 f22 := ⟨Tryz.f203.name, by decide, Tryz.func203.trans (congrArg some (by kernel_rfl))⟩
 f23 := ⟨Tryz.f204.name, by decide, Tryz.func204.trans (congrArg some (by kernel_rfl))⟩
 f24 := ⟨Tryz.f205.name, by decide, Tryz.func205.trans (congrArg some (by kernel_rfl))⟩
 f25 := ⟨Tryz.f206.name, by decide, Tryz.func206.trans (congrArg some (by kernel_rfl))⟩
 f26 := ⟨Tryz.f207.name, by decide, Tryz.func207.trans (congrArg some (by kernel_rfl))⟩
 f27 := ⟨Tryz.f208.name, by decide, Tryz.func208.trans (congrArg some (by kernel_rfl))⟩
 f28 := Tryz.func209.trans (congrArg some (by kernel_rfl))
 f29 := Tryz.func210.trans (congrArg some (by kernel_rfl))
 f46 := ⟨Tryz.f229.name, by decide, Tryz.func229.trans (congrArg some (by kernel_rfl))⟩
 f47 := Tryz.func230.trans (congrArg some (by kernel_rfl))
 f48 := Tryz.func231.trans (congrArg some (by kernel_rfl))
 f49 := ⟨Tryz.f232.name, by decide, Tryz.func232.trans (congrArg some (by kernel_rfl))⟩
 f50 := ⟨Tryz.f233.name, by decide, Tryz.func233.trans (congrArg some (by kernel_rfl))⟩
 f57 := ⟨Tryz.f239.name, by decide, Tryz.func239.trans (congrArg some (by kernel_rfl))⟩
 t0 := Tryz.underlying0
 a0 := Tryz.isAgg0
 z0 := Tryz.sizeOf0
 v0 := Tryz.zeroValue0
 t3 := Tryz.underlying3
 a3 := Tryz.isAgg3
 z3 := Tryz.sizeOf3
 v3 := Tryz.zeroValue3
 t4 := Tryz.underlying4
 a4 := Tryz.isAgg4
 z4 := Tryz.sizeOf4
 v4 := Tryz.zeroValue4
 t5 := Tryz.underlying5
 a5 := Tryz.isAgg5
 z5 := Tryz.sizeOf5
 v5 := Tryz.zeroValue5
 t9 := Tryz.underlying9
 a9 := Tryz.isAgg9
 z9 := Tryz.sizeOf9
 v9 := Tryz.zeroValue9
 t22 := Tryz.underlying22
 a22 := Tryz.isAgg22
 z22 := Tryz.sizeOf22
 v22 := Tryz.zeroValue22
 a24 := Tryz.isAgg3
 z24 := Tryz.sizeOf3
 t25 := Tryz.underlying80
 a25 := Tryz.isAgg80
 z25 := Tryz.sizeOf80
 v25 := Tryz.zeroValue80
 t39 := Tryz.underlying191
 a39 := Tryz.isAgg191
 z39 := Tryz.sizeOf191
 v39 := Tryz.zeroValue191
 t45 := Tryz.underlying257
 a45 := Tryz.isAgg257
 z45 := Tryz.sizeOf257
 v45 := Tryz.zeroValue257
 t46 := Tryz.underlying258
 a46 := Tryz.isAgg258
 z46 := Tryz.sizeOf258
 v46 := Tryz.zeroValue258
 t50 := Tryz.underlying262
 a50 := Tryz.isAgg262
 z50 := Tryz.sizeOf262
 v50 := Tryz.zeroValue262
 t53 := Tryz.underlying237
 a53 := Tryz.isAgg237
 z53 := Tryz.sizeOf237
 v53 := Tryz.zeroValue237
 t55 := Tryz.underlying239
 a55 := Tryz.isAgg239
 z55 := Tryz.sizeOf239
 v55 := Tryz.zeroValue239
 t66 := Tryz.underlying279
 a66 := Tryz.isAgg279
 z66 := Tryz.sizeOf279
 v66 := Tryz.zeroValue279
 t70 := Tryz.underlying283
 a70 := Tryz.isAgg283
 z70 := Tryz.sizeOf283
 v70 := Tryz.zeroValue283
 t76 := Tryz.underlying287
 a76 := Tryz.isAgg287
 z76 := Tryz.sizeOf287
 v76 := Tryz.zeroValue287
 t77 := Tryz.underlying288
 a77 := Tryz.isAgg288
 z77 := Tryz.sizeOf288
 v77 := Tryz.zeroValue288 }
end Go.Proofs
namespace Go.Sx
open Go.Proofs Go.RowKit Go.Sort
theorem zXr : SortSaid := fun b cap d w hc hH hb hs => Any.slices_SortFunc_eq Tryz.sortM zKq (fun _ => rfl) zZ9 swoF 123 #[] b 0 cap d w Tryz.call123 hc hH hb hs
end Go.Sx
namespace Go.Sx
open Go.Proofs Go.RowKit
attribute [local irreducible] Run zAi zAy OpT zAc SLe OLe
set_option maxHeartbeats 2000000
set_option maxRecDepth 8000
set_option maxHeartbeats 8000000
def zBm (n : Need) : Bool := n.Kind == 1 || n.Kind == 2
structure Load where (many credits : Int) (fine : Bool)
@[go_sem] def zYz (x : Load) : SD := .agg [.int .i64 x.many, .int .i64 x.credits, .bool x.fine]
theorem yHb : FnOK Tryz.prog 160 (fun ds d => ∃ n : Need, ds = [zAb n] ∧ d = .bool (zBm n)) := by
 refine zAa Tryz.call160 Tryz.func160 rfl Tryz.ntmps160 ?_
 rintro ds d ⟨n, rfl, rfl⟩
 refine ⟨by simp, fun w0 => ?_⟩
 repeat' (first | apply zC | apply zA | apply zB | refine zF qS qR ?_ ?_ | refine zI qR ?_ | exact zz0 | exact rfl | exact zAc.bool rfl | exact qP | fail)
theorem K198 : FnOK Tryz.prog 198 (fun ds d => ∃ (x : Load) (n : Need), ds = [zYz x, zAb n] ∧ d = .bool (x.fine && x.many == 1)) := by
 refine zAa Tryz.call198 Tryz.func198 rfl Tryz.ntmps198 ?_
 rintro ds d ⟨x, n, rfl, rfl⟩
 refine ⟨by simp, fun w0 => ?_⟩
 repeat' (first | apply zC | apply zA | apply zB | refine zF qS qR ?_ ?_ | refine zI qR ?_ | exact zz0 | exact rfl | exact zAc.bool rfl | exact qP | fail)
theorem K199 : FnOK Tryz.prog 199 (fun ds d => ∃ (x : Load) (n : Need), ds = [zYz x, zAb n] ∧ d = .bool (x.fine && decide (0 < x.many) && decide (n.N ≤ x.credits))) := by
 refine zAa Tryz.call199 Tryz.func199 rfl Tryz.ntmps199 ?_
 rintro ds d ⟨x, n, rfl, rfl⟩
 refine ⟨by simp, fun w0 => ?_⟩
 repeat' (first | apply zC | apply zA | apply zB | refine zF qS qR ?_ ?_ | refine zI qR ?_ | exact zz0 | exact rfl | exact zAc.bool rfl | exact qP | fail)
theorem K161 : FnOK Tryz.prog 161 (fun ds d => ∃ k : Int, ds = [eInt k] ∧ d = .fn (if k = 1 then 198 else 199) []) := by
 refine zAa Tryz.call161 Tryz.func161 rfl Tryz.ntmps161 ?_
 rintro ds d ⟨k, rfl, rfl⟩
 refine ⟨by simp, fun w0 => ?_⟩
 repeat' (first | apply zC | apply zG | apply zA | apply zB | refine zF qS qR ?_ ?_ | (refine zE qS ?_ ?_ <;> intro hb <;> have hc := hb <;> (try simp only [bF] at hc) <;> (try (exfalso; simp at hc; done))) | refine zI qR ?_ | exact zz0 | exact rfl | fail)
 ·rw [if_pos hc]
  exact zAc.pure rfl
 ·rw [if_neg hc]
  exact zAc.pure rfl
def zQb (n : Need) (s : Scale) (a : Ach) : Bool := zBm n && (n.Set.any fun y => zEk a.Course y) && reaches s a.Grade n.Min
theorem K200 : FnOK Tryz.prog 200 (fun ds d => ∃ (n : Need) (s : Scale) (a : Ach), ds = [zAb n, zDm s, zBp a] ∧ d = .bool (zQb n s a)) := by
 refine zAa Tryz.call200 Tryz.func200 rfl Tryz.ntmps200 ?_
 rintro ds d ⟨n, s, a, rfl, rfl⟩
 refine ⟨by simp, fun w0 => ?_⟩
 repeat' (first | apply zC | apply zA | apply zB | refine zF qS qR ?_ ?_ | refine zM yHb qD ?_ ⟨n, rfl, rfl⟩ qS ?_ | refine zV 9 qR qS yFn qD (fun hg => ?_) (fun _ => ⟨n.Set, a.Course, rfl, rfl⟩) qS ?_ | refine zV 16 qR qS yFm qD (fun hg => ?_) (fun _ => ⟨s, a.Grade, n.Min, rfl, rfl⟩) qS ?_ | refine zI qR ?_ | exact zz0 | exact rfl | exact zAc.bool rfl | exact qP | fail)
theorem K58 (d : Nat) (hd : 1 + d ≤ 100) : FnOK Tryz.prog 58 (fun ds v => ∃ (p : Programme) (s : Scale), POk d p ∧ ds = [zEs p, zDm s] ∧ v = eInt (if zHf d p != 0 then zHf d p else if zBh s then 0 else 10)) := by
 have K40x := K40 d hd
 refine zAa Tryz.call58 Tryz.func58 rfl Tryz.ntmps58 ?_
 rintro ds d ⟨p, s, hp, rfl, rfl⟩
 refine ⟨by simp, fun w0 => ?_⟩
 repeat' (first | apply zC | apply zG | apply zA | apply zB | refine zF qS qR ?_ ?_ | refine zM K40x qD ?_ ⟨p, hp, rfl, rfl⟩ qS ?_ | refine zM K41 qD ?_ ⟨s, rfl, rfl⟩ qS ?_ | (refine zE qS ?_ ?_ <;> intro hb <;> have hc := hb <;> (try simp only [bF] at hc) <;> (try (exfalso; simp at hc; done))) | refine zI qR ?_ | exact zz0 | exact rfl | refine zAc.int ?_ | fail)
 ·rw [if_pos hb]
 ·simp only [hb, Bool.false_eq_true, if_false]
theorem K59 : FnOK Tryz.prog 59 (fun ds d => ∃ (p : Programme) (a : Ach) (day : Int), ds = [zEs p, zBp a, eInt day] ∧ d = .bool (zA9 p day a)) := by
 refine zAa Tryz.call59 Tryz.func59 rfl Tryz.ntmps59 ?_
 rintro ds d ⟨p, a, day, rfl, rfl⟩
 refine ⟨by simp, fun w0 => ?_⟩
 repeat' (first | apply zC | apply zA | apply zP | apply zB | refine zF qS qR ?_ ?_ | refine zU qS qR ?_ ?_ | refine zQ qK qK ?_ | refine zBx 10 qR qS K44 qD (fun hg => ?_) (fun _ => ⟨_, rfl, rfl⟩) qS ?_ | refine zI qR ?_ | exact zz0 | exact rfl | exact zAc.bool rfl | exact qP | fail)
end Go.Sx
namespace Go.Sx
open Go.Proofs Go.RowKit
attribute [local irreducible] Run zAi zAy OpT zAc SLe OLe
set_option maxHeartbeats 2000000
set_option maxRecDepth 8000
set_option maxHeartbeats 8000000
theorem K163 : FnOK Tryz.prog 163 (fun ds d => ∃ set k : Nat, (set < 1024 ∧ k < 60) ∧ ds = [eInt (k : Nat), .fp [.int .i64 (set : Nat)]] ∧ d = .bool (set.testBit k)) := by
 refine zAa Tryz.call163 Tryz.func163 rfl Tryz.ntmps163 ?_
 rintro ds d ⟨set, k, ⟨h1, h2⟩, rfl, rfl⟩
 refine ⟨by simp, fun w0 => ?_⟩
 have e := zZc set k (by omega) (by omega)
 cases hb : set.testBit k
 ·rw [hb, if_neg (by simp)] at e
  repeat' (first | apply zC | apply zA | apply zB | refine zF (by simp only [go_sem, e]; rfl) qR ?_ ?_ | refine zI qR ?_ | exact zz0 | exact rfl | exact zAc.bool rfl | exact qP | fail)
 ·rw [hb, if_pos rfl] at e
  repeat' (first | apply zC | apply zA | apply zB | refine zF (by simp only [go_sem, e]; rfl) qR ?_ ?_ | refine zI qR ?_ | exact zz0 | exact rfl | exact zAc.bool rfl | exact qP | fail)
theorem K118 : FnOK Tryz.prog 118 (fun ds d => ∃ a b : Int, ds = [eInt a, eInt b] ∧ d = .bool true) := by
 refine zAa Tryz.call118 Tryz.func118 rfl Tryz.ntmps118 ?_
 rintro ds d ⟨a, b, rfl, rfl⟩
 refine ⟨by simp, fun w0 => ?_⟩
 repeat' (first | apply zC | apply zA | apply zB | refine zF qS qR ?_ ?_ | refine zI qR ?_ | exact zz0 | exact rfl | exact zAc.bool rfl | fail)
theorem K119 : FnOK Tryz.prog 119 (fun ds d => ∃ a b : Int, ds = [eInt a, eInt b] ∧ d = .bool false) := by
 refine zAa Tryz.call119 Tryz.func119 rfl Tryz.ntmps119 ?_
 rintro ds d ⟨a, b, rfl, rfl⟩
 refine ⟨by simp, fun w0 => ?_⟩
 repeat' (first | apply zC | apply zA | apply zB | refine zF qS qR ?_ ?_ | refine zI qR ?_ | exact zz0 | exact rfl | exact zAc.bool rfl | fail)
def zGv (n : Need) (s : Scale) (g : Nat → Bool) : List Ach → Nat → Load → Load
 | [], _, x => x
 | a :: r, k, x => zGv n s g r (k + 1) (if g k then ⟨IntKind.i64.wrap (x.many + 1), IntKind.i64.wrap (x.credits + a.Credits), x.fine && zQb n s a⟩ else x)
def zD2 (n : Need) (s : Scale) (l : List Ach) (g : Nat → Bool) : Load := zGv n s g l 0 ⟨0, 0, true⟩
theorem K162 : FnOK Tryz.prog 162 (fun ds d => ∃ (n : Need) (s : Scale) (l : List Ach) (set : Nat), (l.length ≤ 10 ∧ set < 1024) ∧ ds = [zAb n, zDm s, zAo 8 zBp l, .fn 163 [.fp [.int .i64 (set : Nat)]]] ∧ d = zYz (zD2 n s l set.testBit)) := by
 refine zAa Tryz.call162 Tryz.func162 rfl Tryz.ntmps162 ?_
 rintro ds d ⟨n, s, l, set, ⟨hl, hset⟩, rfl, rfl⟩
 refine ⟨by simp, fun w0 => ?_⟩
 repeat' (first | apply zC | apply zD | apply zA | apply zB | refine zF qS qR ?_ ?_ | exact zz0 | exact rfl | fail)
 refine zN [3, 4, 5, 8, 9, 13, 14] (fun x : Nat × Load => [(15, .int .i64 x.1)]) (fun x : Nat × Load => [(3, .var [.int .i64 x.2.many, .int .i64 x.2.credits, .bool x.2.fine])]) (fun x : Nat × Load => x.1 ≤ l.length ∧ zD2 n s l set.testBit = zGv n s set.testBit (l.drop x.1) x.1 x.2) (fun x : Nat × Load => l.length - x.1) (0, ⟨0, 0, true⟩) (fun x => qS) ?_ qL qL ?_
 ·exact ⟨Nat.zero_le _, rfl⟩
 rintro ⟨k, x⟩ ⟨h1, h2⟩
 simp only at h1 h2
 repeat' (first | apply zC | apply zA | apply zB | refine zF qS qR ?_ ?_ | exact zz0 | exact rfl | fail)
 (refine zE qS ?_ ?_ <;> intro hb <;> have hc := hb <;> (try simp only [bF] at hc) <;> (try (exfalso; simp at hc; done)))
 ·have hk : k < l.length := by omega
  rw [zAv _ _ hk, zGv] at h2;have hv : FnV Tryz.prog 163 [.fp [.int .i64 (set : Nat)]] [eInt (k : Nat)] (.bool (set.testBit k)) := ⟨_, K163, set, k, ⟨hset, by omega⟩, rfl, rfl⟩
  repeat' (first | apply zC | apply zG | apply zD | apply zA | apply zB | refine zF qS qR ?_ ?_ | refine yD (hv) qZ qZ ?_ qS ?_ | exact zz0 | exact rfl | exact qP | fail)
  (refine zE qS ?_ ?_ <;> intro hb <;> have hc := hb <;> (try simp only [bF] at hc) <;> (try (exfalso; simp at hc; done)))
  ·rw [if_pos hb] at h2
   repeat' (first | apply zC | apply zL | apply zA | apply zB | refine zF qS qR ?_ ?_ | refine zV 35 qR qS K200 qD (fun hg => ?_) (fun _ => ⟨n, s, _, rfl, rfl⟩) qS ?_ | exact zz0 | exact rfl | exact qP | fail)
   refine zS (k + 1, ⟨_, _, _⟩) ?_ ?_ ⟨rfl, qL, qL⟩
   ·exact ⟨by simp only; omega, h2⟩
   ·simp only; omega
  ·rw [if_neg (by rw [hb]; simp)] at h2
   repeat' (first | apply zG | apply zL | apply zA | apply zB | refine zF qS qR ?_ ?_ | refine zS (k+1,x) ?_ ?_ ⟨rfl, qL, qL⟩ | exact zz0 | exact rfl | omega)
   exact ⟨by simp only; omega, h2⟩
 ·have hk : l.drop k = [] := List.drop_eq_nil_of_le (by omega)
  rw [hk, zGv] at h2;rw [h2]
  repeat' (first | apply zC | apply zA | apply zB | refine zF qS qR ?_ ?_ | refine yA qR qS ?_ | refine zK qR ?_ | exact zz0 | exact rfl | exact zAc.pure rfl | fail)
end Go.Sx
namespace Go.Sx
open Go.Proofs Go.RowKit
attribute [local irreducible] Run zAi zAy OpT zAc SLe OLe
set_option maxHeartbeats 2000000
set_option maxRecDepth 8000
set_option maxHeartbeats 20000000
attribute [go_sem] zC4 asA asS zIs
@[go_sem] def eI (M : Nat) (f : Nat → Int) : SD := .list 1 M fun i => .int .i64 (f i)
@[go_sem] def aI (M : Nat) (f : Nat → Int) : OB := .acc 3 1 M fun i => .int .i64 (f i)
def zK5 (ow : Nat → Bool) (be : Nat → Int) (set sub rest : Nat) (su : Nat → Int) : Nat → Int := fun z => if ow sub = true ∧ 0 ≤ be rest ∧ z = set then (if su set < IntKind.i64.wrap (be rest + 1) then IntKind.i64.wrap (be rest + 1) else su set) else su z
theorem K165 : FnM Tryz.prog 165 (fun ds os v os' => ∃ (M : Nat) (ow : Nat → Bool) (be su : Nat → Int) (set sub rest : Nat), (sub < M ∧ rest < M ∧ set < M ∧ M ≤ 1024) ∧ ds = [eInt (sub : Nat), eInt (rest : Nat), .loc 1000 0, .loc 1001 0, .loc 1002 0, .loc 1003 0] ∧ os = [.var [eB M ow], .var [eI M be], .var [.acc 1004], .var [eInt (set : Nat)], aI M su] ∧ v = .tup [] ∧ os' = zB6 1000 [.var [eB M ow], .var [eI M be], .var [.acc 1004], .var [eInt (set : Nat)], aI M (zK5 ow be set sub rest su)]) := by
 refine zBq Tryz.call165 Tryz.func165 rfl Tryz.ntmps165 ?_
 rintro ds os d os' ⟨M, ow, be, su, set, sub, rest, ⟨h1, h2, h3, h4⟩, rfl, rfl, rfl, rfl⟩
 refine ⟨by simp, fun F w0 => ?_⟩
 repeat' (first | apply zC | apply zA | apply zB | refine zF qS qR ?_ ?_ | exact rfl | exact qP | fail)
 (refine zE qS ?_ ?_ <;> intro hb <;> have hc := hb <;> (try simp only [bF] at hc) <;> (try (exfalso; simp at hc; done)))
 ·repeat' (first | apply zP | refine zBj qS qR ?_ (by simp only [go_sem, zAw, zG5, zD7, zH2, zBf, keysA, zCz]; rfl) ?_ | refine zQ qK qK ?_ | refine zI6 qS qS ?_ | exact qP | fail)
  have hb2 : ow sub = true ∧ 0 ≤ be rest := by simpa using hb
  refine zR (o' := aI M (zK5 ow be set sub rest su)) 1004 qR (OLe.accS rfl fun z _ => ?_) ?_
  ·unfold zK5 Sx.setF
   by_cases hz : z = set
   ·subst hz
    rw [if_pos rfl, if_pos (show ow sub = true ∧ 0 ≤ be rest ∧ z = z from ⟨hb2.1, hb2.2, rfl⟩)]
   ·rw [if_neg hz, if_neg (fun h => hz h.2.2)]
  refine zEd qR ?_ ?_
  ·exact SLe.refl _
  ·(show zC2 _ _; simp only [go_sem]; repeat' (first | exact SLe.any1 | exact trivial | exact zz0 | exact SLe.refl _ | exact OLe.refl _ | exact ⟨_, rfl, OLe.refl _⟩ | refine ⟨_, rfl, ?_⟩ | refine OLe.var ?_ | (show zAh _ _; refine ⟨?_, ?_⟩) | (show zAh [] []; exact zz0) | (refine SLe.int ?_; rw [w64]; omega) | refine SLe.int ?_ | refine SLe.bool ?_ | apply And.intro))
 ·refine zR (o' := aI M (zK5 ow be set sub rest su)) 1004 qR (OLe.accS rfl fun z _ => ?_) ?_
  ·unfold zK5
   rw [if_neg];intro h;rw [h.1, Bool.true_and, decide_eq_false_iff_not] at hb;exact hb h.2.1
  repeat' (first | apply zG | fail)
  refine zEd qR ?_ ?_
  ·exact SLe.refl _
  ·(show zC2 _ _; simp only [go_sem]; repeat' (first | exact SLe.any1 | exact trivial | exact zz0 | exact SLe.refl _ | exact OLe.refl _ | exact ⟨_, rfl, OLe.refl _⟩ | refine ⟨_, rfl, ?_⟩ | refine OLe.var ?_ | (show zAh _ _; refine ⟨?_, ?_⟩) | (show zAh [] []; exact zz0) | (refine SLe.int ?_; rw [w64]; omega) | refine SLe.int ?_ | refine SLe.bool ?_ | apply And.intro))
def zBo (a b : Nat) : Nat := (BitVec.ofNat 64 a &&& ~~~BitVec.ofNat 64 b).toNat
theorem zHz {a b : Nat} (ha : a < 9223372036854775808) : zBo a b ≤ a := by
 unfold zBo
 rw [BitVec.toNat_and, BitVec.toNat_ofNat, Nat.mod_eq_of_lt (by omega)]
 exact Nat.and_le_left
theorem bbic (a b : Nat) (ha : a < 9223372036854775808) : yGy .i64 (a : Int) (b : Int) = ((zBo a b : Nat) : Int) := by
 show IntKind.i64.wrap ((BitVec.ofInt 64 (a : Int) &&& ~~~BitVec.ofInt 64 (b : Int)).toNat : Int) = _
 rw [zEz, zEz]
 have := zHz (b := b) ha
 unfold zBo at this ⊢
 rw [zXd] <;> omega
def zHc (ow : Nat → Bool) (be : Nat → Int) (set : Nat) : Nat → Nat → (Nat → Int) → (Nat → Int)
 | 0, _, su => su
 | f + 1, sub, su => if sub = 0 then su else zHc ow be set f ((sub - 1) &&& set) (zK5 ow be set sub (zBo set sub) su)
theorem zTj (ow : Nat → Bool) (be : Nat → Int) (set f sub : Nat) (su : Nat → Int) (h : 0 < sub) : zHc ow be set (f + 1) sub su = zHc ow be set f ((sub - 1) &&& set) (zK5 ow be set sub (zBo set sub) su) := by
 rw [zHc, if_neg (by omega)]
theorem yCj (ow : Nat → Bool) (be : Nat → Int) (set f : Nat) (su : Nat → Int) : zHc ow be set f 0 su = su := by cases f <;> rfl
theorem K164 : FnM Tryz.prog 164 (fun ds os v os' => ∃ (M : Nat) (ow : Nat → Bool) (be su : Nat → Int) (set : Nat), (set < M ∧ M ≤ 1024) ∧ ds = [eI M be, eInt (set : Nat), .fn 165 [.loc 1000 0, .loc 1001 0, .loc 1002 0, .loc 1003 0]] ∧ os = [.var [eB M ow], .var [eI M be], .var [.acc 1004], .var [eInt (set : Nat)], aI M su] ∧ v = .tup [] ∧ os' = zB6 1000 [.var [eB M ow], .var [eI M be], .var [.acc 1004], .var [eInt (set : Nat)], aI M (zHc ow be set (set + 1) set su)]) := by
 have K := K165
 refine zBq Tryz.call164 Tryz.func164 rfl Tryz.ntmps164 ?_
 rintro ds os d os' ⟨M, ow, be, su, set, ⟨h1, h2⟩, rfl, rfl, rfl, rfl⟩
 refine ⟨by simp, fun F w0 => ?_⟩
 repeat' (first | apply zC | apply zD | apply zA | apply zB | refine zF qS qR ?_ ?_ | exact zz0 | exact rfl | fail)
 refine zN [0, 1, 2] (fun x : Nat × Nat × (Nat → Int) => [(6, .int .i64 x.1)]) (fun x : Nat × Nat × (Nat → Int) => [(1004, aI M x.2.2)]) (fun x : Nat × Nat × (Nat → Int) => (x.1 ≤ set ∧ x.1 < x.2.1) ∧ zHc ow be set (set + 1) set su = zHc ow be set x.2.1 x.1 x.2.2) (fun x : Nat × Nat × (Nat → Int) => x.1) (set, set + 1, su) (fun x => qS) ?_ qL qL ?_
 ·exact ⟨⟨Nat.le_refl _, Nat.lt_succ_self _⟩, rfl⟩
 rintro ⟨sub, f, sv⟩ ⟨⟨h3, h4⟩, h5⟩
 simp only at h3 h4 h5
 repeat' (first | apply zC | apply zA | apply zB | refine zF qS qR ?_ ?_ | exact zz0 | exact rfl | fail)
 (refine zE qS ?_ ?_ <;> intro hb <;> have hc := hb <;> (try simp only [bF] at hc) <;> (try (exfalso; simp at hc; done)))
 ·have hp : 0 < sub := by omega
  obtain ⟨f, rfl⟩ : ∃ g, f = g + 1 := ⟨f - 1, by omega⟩;rw [zTj ow be set f sub sv hp] at h5;have e1 := bbic set sub (by omega);have e2 : IntKind.i64.wrap ((sub : Int) - 1) = ((sub - 1 : Nat) : Int) := by rw [w64]; omega
  have e3 := band (sub - 1) set (by omega) (by omega);have hr := zHz (a := set) (b := sub) (by omega);have hle : (sub - 1) &&& set ≤ sub - 1 := Nat.and_le_left;have hle2 : (sub - 1) &&& set ≤ set := Nat.and_le_right
  repeat' (first | apply zC | apply zG | apply zD | apply zL | apply zA | apply zB | refine zF (by simp only [go_sem, e1, e2, e3]; rfl) qR ?_ ?_ | refine zD0 [1000, 1001, 1002, 1003, 1004] K (by first | (simp only [go_sem, e1, e2, e3]; done) | (simp only [go_sem, e1, e2, e3]; rfl)) qR (by simp only [go_sem, e1, e2, e3]; first | done | rfl) (by first | (simp only [go_sem, e1, e2, e3]; done) | rfl) (by first | (simp only [go_sem, e1, e2, e3]; done) | (simp only [go_sem, e1, e2, e3]; rfl)) ?_ ⟨M, ow, be, sv, set, sub, zBo set sub, ⟨by omega, by omega, h1, h2⟩, rfl, rfl, rfl, rfl⟩ (by simp only [go_sem, e1, e2, e3]; rfl) ?_ | exact zz0 | exact rfl | fail)
  repeat' (first | refine zS ((sub-1)&&&set,f,zK5 ow be set sub (zBo set sub) sv) ?_ ?_ ⟨rfl, qL, qL⟩ | omega)
  exact ⟨⟨hle2, by simp only; omega⟩, h5⟩
 ·have hp : sub = 0 := by omega
  subst hp;rw [yCj] at h5;rw [h5]
  repeat' (first | refine zK qR ?_ | fail)
  refine zEd qR ?_ ?_
  ·exact SLe.refl _
  ·(show zC2 _ _; simp only [go_sem]; repeat' (first | exact SLe.any1 | exact trivial | exact zz0 | exact SLe.refl _ | exact OLe.refl _ | exact ⟨_, rfl, OLe.refl _⟩ | refine ⟨_, rfl, ?_⟩ | refine OLe.var ?_ | (show zAh _ _; refine ⟨?_, ?_⟩) | (show zAh [] []; exact zz0) | (refine SLe.int ?_; rw [w64]; omega) | refine SLe.int ?_ | refine SLe.bool ?_ | apply And.intro))
end Go.Sx
