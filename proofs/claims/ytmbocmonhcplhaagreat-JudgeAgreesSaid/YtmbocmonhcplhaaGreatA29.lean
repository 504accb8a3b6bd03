/- Part of the proof that the laws of the judge return true for every input: A25, A26, A29. -/
import Derived.Test.YtmbocmonhcplhaaGreatA15
import Derived.Test.YtmbocmonhcplhaaGreatA8
import Derived.Test.YtmbocmonhcplhaaGreatJ25
set_option linter.all false
namespace Go.Sx
open Go.Proofs Go.RowKit
attribute [local irreducible] Run zAi zAy OpT zAc SLe OLe
set_option maxHeartbeats 2000000
set_option maxRecDepth 8000
set_option maxHeartbeats 20000000
attribute [go_sem] zC4 asA asS zIs
theorem zYk {P : Nat → Bool} (h : ∃ x, P x = true) : ∃ x, P x = true ∧ ∀ y, y < x → P y = false := by
 obtain ⟨x, hx⟩ := h
 induction x using Nat.strongRecOn with
 | _ x ih =>
  by_cases hy : ∃ y, y < x ∧ P y = true
  ·obtain ⟨y, h1, h2⟩ := hy
   exact ih y h1 h2
  ·refine ⟨x, hx, fun y hyx => ?_⟩
   cases hp : P y
   ·rfl
   ·exact absurd ⟨y, hyx, hp⟩ hy
open Classical in
noncomputable def zI9 (P : Nat → Bool) : Nat := if h : ∃ x, P x = true ∧ ∀ y, y < x → P y = false then h.choose else 0
theorem zTc {P : Nat → Bool} (h : ∃ x, P x = true) : P (zI9 P) = true ∧ ∀ y, y < zI9 P → P y = false := by
 have h2 := zYk h
 rw [zI9, dif_pos h2]
 exact h2.choose_spec
noncomputable def zPf (n : Need) (s : Scale) (l : List Ach) (set : Nat) : Nat → List Int × List Int
 | 0 => ([], [])
 | k + 1 => if set.testBit k then ((zPf n s l set k).1 ++ [((zI9 fun x => zSr s l (some ((zPf n s l set k).1 ++ [(x : Int)])) n set : Nat) : Int)], (zPf n s l set k).2 ++ [((zI9 fun x => zSr s l (some ((zPf n s l set k).1 ++ [(x : Int)])) n set : Nat) : Int)]) else ((zPf n s l set k).1 ++ [-1], (zPf n s l set k).2)
theorem VOk.nv : ∀ {d : Nat} {n : Need}, VOk d n → NV d n
 | 0, _, _ => trivial
 | _ + 1, _, h => ⟨h.1, h.2.1, fun c hc => (h.2.2.2 c hc).nv⟩
theorem zMt (dec : List Int) (y : Int) (i : Nat) (hi : i < dec.length + 1) : eInt ((dec ++ [y]).getD i default) = if i = dec.length then eInt y else eInt (dec.getD i default) := by
 split
 ·rename_i h; subst h
  simp [zz2]
 ·rename_i h
  simp [zz2, List.getElem?_append_left (show i < dec.length by omega)]
theorem K128 : FnOK Tryz.prog 128 (fun ds d => ∃ (n : Need) (s : Scale) (l : List Ach) (set : Nat), (QOk n ∧ l.length ≤ 10 ∧ set < 2 ^ l.length ∧ zPh s l 4 n set = true) ∧ ds = [zAb n, zDm s, zAo 8 zBp l, eInt (set : Nat)] ∧ d = .tup [ints (zPf n s l set l.length).2, .bool true]) := by
 refine zAa Tryz.call128 Tryz.func128 rfl Tryz.ntmps128 ?_
 rintro ds d ⟨n, s, l, set, ⟨h1, h2, h3, h4⟩, rfl, rfl⟩
 refine ⟨by simp, fun w0 => ?_⟩
 have f1 : decide (((set : Nat) : Int) < 0) = false := decide_eq_false (by omega)
 have f2 : decide (((2 ^ l.length : Nat) : Int) ≤ ((set : Nat) : Int)) = false := decide_eq_false (by omega)
 have f0 : ((0 : Int) != 0) = false := rfl
 repeat' (first | apply zC | apply zA | apply zB | refine zF (by simp only [go_sem, f0, f1, f2, h4]; rfl) qR ?_ ?_ | refine zM K61 (by simp only [go_sem, f0, f1, f2, h4]; first | done | rfl) ?_ ⟨n, s, l, ⟨h1, h2⟩, rfl, rfl⟩ (by simp only [go_sem, f0, f1, f2, h4]; rfl) ?_ | exact zz0 | exact rfl | exact qP | fail)
 (refine zE qS ?_ ?_ <;> intro hb <;> have hc := hb <;> (try simp only [bF] at hc) <;> (try (exfalso; simp at hc; done)))
 repeat' (first | apply zC | apply zG | apply zD | apply zA | apply zB | refine zF qS qR ?_ ?_ | exact zz0 | exact rfl | exact qP | fail)
 refine yF 15 3 1 (fun i => eInt (([] : List Int).getD i default)) rfl rfl rfl ?_
 refine zN [2, 3, 4, 5, 12, 13, 14, 15, 49] (fun x : Nat × List Int × List Int => [(50, .int .i64 x.1)]) (fun x : Nat × List Int × List Int => [(2, .acc 3 1 x.2.1.length (fun i => eInt (x.2.1.getD i default))), (4, .acc 3 1 x.2.2.length (fun i => eInt (x.2.2.getD i default)))]) (fun x : Nat × List Int × List Int => (x.1 ≤ l.length ∧ x.2.1.length = x.1 ∧ x.2.2.length ≤ x.1) ∧ zPf n s l set x.1 = (x.2.1, x.2.2) ∧ zSr s l (some x.2.1) n set = true) (fun x : Nat × List Int × List Int => l.length - x.1) (0, [], []) (fun x => qS) ?_ qL qL ?_
 ·refine ⟨⟨Nat.zero_le _, rfl, Nat.le_refl _⟩, rfl, ?_⟩
  show (zSn s l [] 4 n 0).1 set = true;rw [yAs]; exact h4
 rintro ⟨k, dec, out⟩ ⟨⟨g1, g2, g3⟩, g4, g5⟩
 simp only at g1 g2 g3 g4 g5
 have h2k : (2 : Nat) ^ l.length ≤ 2 ^ 10 := Nat.pow_le_pow_right (by omega) h2
 repeat' (first | apply zC | apply zA | apply zB | refine zF qS qR ?_ ?_ | exact zz0 | exact rfl | fail)
 (refine zE qS ?_ ?_ <;> intro hb <;> have hc := hb <;> (try simp only [bF] at hc) <;> (try (exfalso; simp at hc; done)))
 ·have hk : k < l.length := by assumption
  have e := zZc set k (by omega) (by omega);have hs : zPf n s l set (k + 1) = if set.testBit k then (dec ++ [((zI9 fun x => zSr s l (some (dec ++ [(x : Int)])) n set : Nat) : Int)], out ++ [((zI9 fun x => zSr s l (some (dec ++ [(x : Int)])) n set : Nat) : Int)]) else (dec ++ [-1], out) := by rw [zPf, g4]
  have hlen : ∀ x : Int, (dec ++ [x]).length = k + 1 := fun x => by simp [g2]
  cases hbit : set.testBit k
  ·rw [hbit, if_neg (by simp)] at e hs
   repeat' (first | apply zC | apply zG | apply zD | apply zA | apply zB | refine zF (by simp only [go_sem, e]; rfl) qR ?_ ?_ | exact zz0 | exact rfl | exact qP | fail)
   (refine zE qS ?_ ?_ <;> intro hb <;> have hc := hb <;> (try simp only [bF] at hc) <;> (try (exfalso; simp at hc; done)))
   repeat' (first | apply zA | apply zB | refine zF qS qR ?_ ?_ | refine zK qR ?_ | exact zz0 | exact rfl | fail)
   refine zR (o' := .acc 3 1 (dec ++ [-1]).length fun i => eInt ((dec ++ [-1]).getD i default)) 2 qR (zA4 eInt dec _ rfl) ?_;refine zS (k + 1, dec ++ [-1], out) ?_ ?_ ⟨rfl, qL, qL⟩
   ·refine ⟨⟨by simp only; omega, hlen _, by simp only; omega⟩, hs, ?_⟩
    exact yCz (by omega) h1.v.nv g5 (by rw [g2]; exact hbit)
   ·simp only; omega
  ·rw [hbit, if_pos rfl] at e hs
   repeat' (first | apply zC | apply zG | apply zD | apply zA | apply zB | refine zF (by simp only [go_sem, e]; rfl) qR ?_ ?_ | exact zz0 | exact rfl | exact qP | fail)
   (refine zE qS ?_ ?_ <;> intro hb <;> have hc := hb <;> (try simp only [bF] at hc) <;> (try (exfalso; simp at hc; done)))
   repeat' (first | apply zC | apply zG | apply zD | apply zA | apply zB | refine zF qS qR ?_ ?_ | exact rfl | exact qP | fail)
   refine zR (o' := .acc 3 1 (dec ++ [((0 : Nat) : Int)]).length fun i => eInt ((dec ++ [((0 : Nat) : Int)]).getD i default)) 2 qR (OLe.accS (by simp) fun i hi => ?_) ?_
   ·rw [zMt _ _ _ hi]
    unfold Sx.setF;by_cases hik : i = k
    ·rw [if_pos hik, if_pos (by omega)]; rfl
    ·rw [if_neg hik, if_neg (by omega)]
     simp only [zA3];rw [if_pos (by omega)];rfl
   obtain ⟨x9, _, hx8, hx9⟩ := (zT3 s l dec (by omega) 4 n 0 set h1.v.nv g5).2 (by rw [g2]; exact hbit);have hx7 : x9 < 1000000 := Nat.lt_trans hx8 (h1.lt s l _ _);obtain ⟨hx1, hx2⟩ := zTc (P := fun x : Nat => zSr s l (some (dec ++ [(x : Int)])) n set) ⟨x9, hx9⟩;generalize (zI9 fun x => zSr s l (some (dec ++ [(x : Int)])) n set) = x0 at hs hx1 hx2
   have hx0 : x0 ≤ x9 := by
    rcases Nat.lt_or_ge x9 x0 with h | h
    ·have := hx2 x9 h
     rw [show zSr s l (some (dec ++ [(x9 : Int)])) n set = true from hx9] at this;cases this
    ·exact h
   clear hx9;refine zN [2, 3, 4, 5, 12, 13, 14, 15, 16, 49, 50] (fun x : Nat => []) (fun x : Nat => [(2, .acc 3 1 (dec ++ [(x : Int)]).length fun i => eInt ((dec ++ [(x : Int)]).getD i default))]) (fun x : Nat => x ≤ x0) (fun x : Nat => x0 - x) 0 (fun x => qS) ?_ qL qL ?_
   ·exact Nat.zero_le _
   rintro x g6
   repeat' (first | apply zC | apply zA | apply zB | refine zF qS qR ?_ ?_ | refine zSq [2, 3] A120 qS qD ?_ ⟨n, s, l, some (dec ++ [(x:Int)]), ⟨h1, h2, by show (dec ++ [(x:Int)]).length ≤ 10; rw [hlen]; omega⟩, rfl, rfl, rfl, rfl, rfl⟩ (fun _ => rfl) qS ?_ | exact zz0 | exact rfl | exact qP | fail)
   have eg : (dec ++ [(x : Int)]).getD k default = (x : Int) := by
    subst g2;simp [zz2]
   have e2 : IntKind.i64.wrap ((x : Int) + 1) = ((x + 1 : Nat) : Int) := by rw [w64]; omega
   (refine zE qS ?_ ?_ <;> intro hb <;> have hc := hb <;> (try simp only [bF] at hc) <;> (try (exfalso; simp at hc; done)))
   ·have hne : x ≠ x0 := fun hc => by
     subst hc;have h5 : zSr s l (some (dec ++ [(x : Int)])) n set = true := hx1;rw [h5] at hb; cases hb
    repeat' (first | apply zC | apply zG | apply zD | apply zL | apply zA | apply zB | refine zF (by simp only [go_sem, eg, e2]; rfl) qR ?_ ?_ | exact rfl | exact qP | fail)
    refine zR (o' := .acc 3 1 (dec ++ [((x + 1 : Nat) : Int)]).length fun i => eInt ((dec ++ [((x + 1 : Nat) : Int)]).getD i default)) 2 qR (OLe.accS (by simp) fun i hi => ?_) ?_
    ·have hi2 : i < dec.length + 1 := by simpa using hi
     rw [zMt _ _ _ hi2];unfold Sx.setF;by_cases hik : i = k
     ·rw [if_pos hik, if_pos (by omega)]; rfl
     ·rw [if_neg hik, if_neg (by omega)]
      show eInt ((dec ++ [(x : Int)]).getD i default) = _;rw [zMt _ _ _ hi2, if_neg (by omega)]
    refine zS (x + 1) ?_ ?_ ⟨rfl, qL, qL⟩
    ·show x + 1 ≤ x0
     omega
    ·show x0 - (x + 1) < x0 - x
     omega
   ·have hP : zSr s l (some (dec ++ [(x : Int)])) n set = true := by simpa using hb
    have hxx : x = x0 := by
     rcases Nat.lt_or_ge x x0 with h | h
     ·have := hx2 x h
      rw [hP] at this; cases this
     ·omega
    subst hxx
    repeat' (first | apply zL | apply zA | apply zB | refine zF (by simp only [go_sem, eg]; rfl) qR ?_ ?_ | refine zK qR ?_ | exact zz0 | exact rfl | exact qP | fail)
    refine zR (o' := .acc 3 1 (out ++ [(x : Int)]).length fun i => eInt ((out ++ [(x : Int)]).getD i default)) 4 qR (zA4 eInt out _ rfl) ?_;refine zS (k + 1, dec ++ [(x : Int)], out ++ [(x : Int)]) ?_ ?_ ⟨rfl, qL, qL⟩
    ·exact ⟨⟨by simp only; omega, hlen _, by simp; omega⟩, hs, hP⟩
    ·simp only; omega
 ·have hk : k = l.length := by omega
  subst hk;rw [g4]
  repeat' (first | refine zO 4 qS ?_ | apply zC | apply zA | apply zB | refine zF qS qR ?_ ?_ | refine yA qR qS ?_ | refine zK qR ?_ | exact zz0 | exact rfl | exact zAc.pure rfl | fail)
end Go.Sx
namespace Go.Sx
open Go.Proofs Go.RowKit
attribute [local irreducible] Run zAi zAy OpT zAc SLe OLe
set_option maxHeartbeats 2000000
set_option maxRecDepth 8000
set_option maxHeartbeats 20000000
attribute [local irreducible] cmpL
def zP5 (sub : Nat) : List Int → List Int → List Int
 | [], _ => []
 | k :: ms, rest => if sub.testBit k.toNat then rest.headD 0 :: zP5 sub ms rest.tail else -1 :: zP5 sub ms rest
noncomputable def zV6 (n : Need) (s : Scale) (l : List Ach) (mask sub : Nat) : List Int := zP5 sub (zCu mask) (zPf n s l sub l.length).2
noncomputable def lvS (n : Need) (s : Scale) (l : List Ach) (mask sub : Nat) (b : List Int × Bool) : List Int × Bool :=
 if zBo sub mask ≠ 0 ∨ zPh s l 4 n sub = false then b else if b.2 = false ∨ cmpL (zV6 n s l mask sub) b.1 < 0 then (zV6 n s l mask sub, true) else b
noncomputable def lvF (n : Need) (s : Scale) (l : List Ach) (mask : Nat) : Nat → List Int × Bool → List Int × Bool
 | 0, b => b
 | k + 1, b => lvF n s l mask k (lvS n s l mask k b)
theorem zQi (n : Need) (s : Scale) (l : List Ach) (sub : Nat) : ∀ k, (zPf n s l sub k).2.length = ((List.range k).filter fun j => sub.testBit j).length
 | 0 => rfl
 | k + 1 => by
  rw [zPf, List.range_succ, List.filter_append];cases h : sub.testBit k
  ·simp [h, zQi n s l sub k]
  ·simp [h, zQi n s l sub k]
def yDk (sub : Nat) (ms : List Int) : Nat := (ms.filter fun k => sub.testBit k.toNat).length
theorem yCq {sub mask len : Nat} (hl : len ≤ 10) (hm : mask < 2 ^ len) (hs : sub &&& mask = sub) : yDk sub (zCu mask) = ((List.range len).filter fun j => sub.testBit j).length := by
 have hsub : ∀ j, sub.testBit j = true → mask.testBit j = true := fun j hj => by
  rw [← hs, Nat.testBit_and, zz3] at hj;exact hj.2
 have e : (zCu mask).filter (fun k => sub.testBit k.toNat) = (((List.range 10).filter fun j => sub.testBit j)).map fun k : Nat => (k : Int) := by
  unfold zCu;rw [List.filter_map, List.filter_filter]
  congr 1
  refine List.filter_congr fun j _ => ?_;simp only [Function.comp, Int.toNat_natCast];cases hj : sub.testBit j
  ·rfl
  ·rw [hsub j hj]; rfl
 rw [yDk, e, List.length_map, zF7 hl fun j hj => zFp hm (hsub j hj)]
theorem zKb {a b : Nat} (ha : a < 1024) : zBo a b = 0 ↔ a &&& b = a := by
 constructor
 ·intro h
  refine zHg fun j hj => ?_;have h2 : (zBo a b).testBit j = false := by rw [h, Nat.zero_testBit]
  rw [zJk ha] at h2;simp only [hj] at h2;cases hb : b.testBit j
  ·rw [hb] at h2; cases h2
  ·rfl
 ·intro h
  apply Nat.eq_of_testBit_eq;intro j;rw [zJk ha, Nat.zero_testBit];simp only;cases hj : a.testBit j
  ·rfl
  ·rw [← h, Nat.testBit_and, zz3] at hj
   rw [hj.2]; rfl
theorem yB4 {m i : Nat} (h : i < (zCu m).length) : ∃ k : Nat, (zCu m).getD i default = (k : Int) ∧ k < 10 := by
 have := zAk (l := zCu m) h
 unfold zCu at this
 obtain ⟨k, hk, e⟩ := List.mem_map.1 this
 exact ⟨k, e.symm, List.mem_range.1 (List.mem_filter.1 hk).1⟩
theorem zMo (m : Nat) : (zCu m).length ≤ 10 := by
 rw [zCu, List.length_map]
 exact zRk m
theorem zQr (rest : List Int) : SLe (.list 1 (rest.length - 1) fun i => .int .i64 (rest.getD (1 + i) default)) (.list 1 rest.tail.length fun i => .int .i64 (rest.tail.getD i default)) := SLe.list (by simp) fun i hi => by
 cases rest with
 | nil => simp
 | cons a r =>
  rw [Nat.add_comm];rfl
theorem K65 : FnOK Tryz.prog 65 (fun ds d => ∃ (p : Programme) (s : Scale) (l : List Ach) (mask : Nat), (POk 4 p ∧ zHf 4 p = 0 ∧ l.length ≤ 10 ∧ mask < 2 ^ l.length) ∧ ds = [zEs p, zDm s, zAo 8 zBp l, .list 1 (2 ^ l.length) fun i => .bool (zPh s l 4 p.Need i), eInt (mask : Nat)] ∧ d = .tup [ints (lvF p.Need s l mask (mask + 1) ([], false)).1, .bool (lvF p.Need s l mask (mask + 1) ([], false)).2]) := by
 refine zAa Tryz.call65 Tryz.func65 rfl Tryz.ntmps65 ?_
 rintro ds d ⟨p, s, l, mask, ⟨h1, h2, h3, h4⟩, rfl, rfl⟩
 refine ⟨by simp, fun w0 => ?_⟩
 have hq := QOk.of h1 h2
 have h2k : (2 : Nat) ^ l.length ≤ 2 ^ 10 := Nat.pow_le_pow_right (by omega) h3
 generalize hR : lvF p.Need s l mask (mask + 1) ([], false) = R
 repeat' (first | apply zC | apply zD | apply zA | apply zB | refine zF qS qR ?_ ?_ | exact zz0 | exact rfl | fail)
 refine zN [2, 3, 4, 5, 6] (fun x : Nat × (List Int × Bool) => [(12, .int .i64 (((x.1 : Nat) : Int) - 1)), (10, ints x.2.1), (11, .bool x.2.2)]) (fun x : Nat × (List Int × Bool) => []) (fun x : Nat × (List Int × Bool) => (x.1 ≤ mask + 1 ∧ x.2.1.length ≤ 10) ∧ R = lvF p.Need s l mask x.1 x.2) (fun x : Nat × (List Int × Bool) => x.1) (mask + 1, [], false) (fun x => qS) ?_ (by simp only [go_sem]; repeat' (first | exact trivial | exact zz0 | exact SLe.refl _ | exact OLe.refl _ | exact ⟨_, rfl, OLe.refl _⟩ | refine ⟨_, rfl, ?_⟩ | refine OLe.var ?_ | (show zAh _ _; refine ⟨?_, ?_⟩) | (show zAh [] []; exact zz0) | (refine SLe.int ?_; rw [w64]; omega) | refine SLe.int ?_ | refine SLe.bool ?_ | apply And.intro | (first | exact SLe.nils | omega))) (by simp only [go_sem]; repeat' (first | exact trivial | exact zz0 | exact SLe.refl _ | exact OLe.refl _ | exact ⟨_, rfl, OLe.refl _⟩ | refine ⟨_, rfl, ?_⟩ | refine OLe.var ?_ | (show zAh _ _; refine ⟨?_, ?_⟩) | (show zAh [] []; exact zz0) | (refine SLe.int ?_; rw [w64]; omega) | refine SLe.int ?_ | refine SLe.bool ?_ | apply And.intro | (first | exact SLe.nils | omega))) ?_
 ·exact ⟨⟨Nat.le_refl _, Nat.zero_le _⟩, hR.symm⟩
 clear hR
 rintro ⟨k, best, fnd⟩ ⟨⟨g1, g2⟩, g3⟩
 simp only at g1 g2 g3
 repeat' (first | apply zC | apply zA | apply zB | refine zF qS qR ?_ ?_ | exact zz0 | exact rfl | fail)
 (refine zE qS ?_ ?_ <;> intro hb <;> have hc := hb <;> (try simp only [bF] at hc) <;> (try (exfalso; simp at hc; done)))
 ·obtain ⟨k, rfl⟩ : ∃ j, k = j + 1 := ⟨k - 1, by omega⟩
  have e0 : (((k + 1 : Nat) : Int) - 1) = (k : Int) := by omega
  have e1 := bbic k mask (by omega);rw [lvF] at g3;by_cases hr : zBo k mask = 0
  ·have f1 : (((zBo k mask : Nat) : Int) != 0) = false := by rw [hr]; rfl
   cases hV : zPh s l 4 p.Need k
   ·have hs : lvS p.Need s l mask k (best, fnd) = (best, fnd) := by rw [lvS, if_pos (.inr hV)]
    rw [hs] at g3
    repeat' (first | apply zC | apply zG | apply zD | apply zA | apply zB | refine zF (by simp only [go_sem, e0, e1, f1, hV]; rfl) qR ?_ ?_ | exact rfl | exact qP | fail)
    (refine zE qS ?_ ?_ <;> intro hb <;> have hc := hb <;> (try simp only [bF] at hc) <;> (try (exfalso; simp at hc; done)))
    repeat' (first | apply zA | apply zB | refine zF (by simp only [go_sem, e0]; rfl) qR ?_ ?_ | refine zK qR ?_ | exact zz0 | exact rfl | fail)
    refine zS (k, best, fnd) ?_ ?_ ⟨rfl, qL, qL⟩
    ·exact ⟨⟨by simp only; omega, g2⟩, g3⟩
    ·simp only; omega
   ·repeat' (first | apply zC | apply zG | apply zD | apply zA | apply zB | refine zF (by simp only [go_sem, e0, e1, f1, hV]; rfl) qR ?_ ?_ | exact rfl | exact qP | fail)
    (refine zE qS ?_ ?_ <;> intro hb <;> have hc := hb <;> (try simp only [bF] at hc) <;> (try (exfalso; simp at hc; done)))
    repeat' (first | apply zC | apply zG | apply zA | apply zB | refine zF (by simp only [go_sem, e0, e1, f1, hV]; rfl) qR ?_ ?_ | refine zM K128 (by simp only [go_sem, e0, e1, f1, hV]; first | done | rfl) ?_ ⟨p.Need, s, l, k, ⟨hq, h3, by omega, hV⟩, rfl, rfl⟩ (by simp only [go_sem, e0, e1, f1, hV]; rfl) ?_ | exact zz0 | exact rfl | fail)
    (refine zE qS ?_ ?_ <;> intro hb <;> have hc := hb <;> (try simp only [bF] at hc) <;> (try (exfalso; simp at hc; done)))
    repeat' (first | apply zC | apply zG | apply zD | apply zA | apply zB | refine zF qS qR ?_ ?_ | refine zM K63 qD ?_ ⟨mask, by omega, rfl, rfl⟩ qS ?_ | exact zz0 | exact rfl | fail)
    refine yF 15 3 1 (fun i => eInt (([] : List Int).getD i default)) rfl rfl rfl ?_;have houts : (zPf p.Need s l k l.length).2.length = yDk k (zCu mask) := by rw [zQi, yCq h3 h4 ((zKb (by omega)).1 hr)]
    have hlf : zV6 p.Need s l mask k = zP5 k (zCu mask) (zPf p.Need s l k l.length).2 := rfl;generalize (zPf p.Need s l k l.length).2 = outs at houts hlf;have hml := zMo mask;refine zN [2, 3, 4, 5, 6, 10, 11, 12, 15, 46, 47] (fun x : Nat × List Int × List Int => [(48, .int .i64 x.1), (13, ints x.2.2)]) (fun x : Nat × List Int × List Int => [(2, .acc 3 1 x.2.1.length (fun i => eInt (x.2.1.getD i default)))]) (fun x : Nat × List Int × List Int => (x.1 ≤ (zCu mask).length ∧ x.2.1.length = x.1 ∧ x.2.2.length = yDk k ((zCu mask).drop x.1)) ∧ zV6 p.Need s l mask k = x.2.1 ++ zP5 k ((zCu mask).drop x.1) x.2.2) (fun x : Nat × List Int × List Int => (zCu mask).length - x.1) (0, [], outs) (fun x => qS) ?_ qL qL ?_
    ·exact ⟨⟨Nat.zero_le _, rfl, houts⟩, hlf⟩
    clear houts hlf;rintro ⟨j, lf, rest⟩ ⟨⟨q1, q2, q3⟩, q4⟩;simp only at q1 q2 q3 q4
    repeat' (first | apply zC | apply zA | apply zB | refine zF qS qR ?_ ?_ | exact zz0 | exact rfl | fail)
    (refine zE qS ?_ ?_ <;> intro hb <;> have hc := hb <;> (try simp only [bF] at hc) <;> (try (exfalso; simp at hc; done)))
    ·have hj : j < (zCu mask).length := by assumption
     obtain ⟨b, hb1, hb2⟩ := yB4 hj;rw [zAv _ _ hj, hb1] at q3 q4;rw [zP5, Int.toNat_natCast] at q4;rw [yDk, List.filter_cons, Int.toNat_natCast] at q3;have e2 := zZc k b (by omega) (by omega);cases hbit : k.testBit b
     ·rw [hbit, if_neg (by simp)] at e2 q3 q4
      repeat' (first | apply zC | apply zG | apply zD | apply zA | apply zB | refine zF (by simp only [go_sem, hb1, e2]; rfl) qR ?_ ?_ | exact rfl | exact qP | fail)
      (refine zE qS ?_ ?_ <;> intro hb <;> have hc := hb <;> (try simp only [bF] at hc) <;> (try (exfalso; simp at hc; done)))
      repeat' (first | apply zL | apply zA | apply zB | refine zF qS qR ?_ ?_ | exact zz0 | exact rfl | exact qP | fail)
      refine zR (o' := .acc 3 1 (lf ++ [-1]).length fun i => eInt ((lf ++ [-1]).getD i default)) 2 qR (zA4 eInt lf _ rfl) ?_;refine zS (j + 1, lf ++ [-1], rest) ?_ ?_ ⟨rfl, qL, qL⟩
      ·exact ⟨⟨by simp only; omega, by simp [q2], q3⟩, by rw [q4]; simp⟩
      ·simp only; omega
     ·rw [hbit, if_pos rfl] at e2 q3 q4
      obtain ⟨a, r, rfl⟩ : ∃ a r, rest = a :: r := by
       cases rest with
       | nil => simp at q3
       | cons a r => exact ⟨a, r, rfl⟩
      repeat' (first | apply zC | apply zG | apply zD | apply zA | apply zB | refine zF (by simp only [go_sem, hb1, e2]; rfl) qR ?_ ?_ | exact rfl | exact qP | fail)
      (refine zE qS ?_ ?_ <;> intro hb <;> have hc := hb <;> (try simp only [bF] at hc) <;> (try (exfalso; simp at hc; done)))
      repeat' (first | apply zL | apply zA | apply zP | apply zB | refine zF qS qR ?_ ?_ | refine zU qS qR ?_ ?_ | refine zQ qK qK ?_ | refine zF0 qS ?_ qS ?_ | exact zz0 | exact rfl | exact qP | fail)
      refine zFa 3 2 qS ?_;refine zR (o' := .acc 3 1 (lf ++ [a]).length fun i => eInt ((lf ++ [a]).getD i default)) 2 qR (zA4 eInt lf _ rfl) ?_;refine zS (j + 1, lf ++ [a], r) ?_ ?_ ⟨rfl, by simp only [go_sem]; repeat' (first | exact trivial | exact zz0 | exact SLe.refl _ | exact OLe.refl _ | exact ⟨_, rfl, OLe.refl _⟩ | refine ⟨_, rfl, ?_⟩ | refine OLe.var ?_ | (show zAh _ _; refine ⟨?_, ?_⟩) | (show zAh [] []; exact zz0) | (refine SLe.int ?_; rw [w64]; omega) | refine SLe.int ?_ | refine SLe.bool ?_ | apply And.intro | (exact zQr (_ :: _))), by simp only [go_sem]; repeat' (first | exact trivial | exact zz0 | exact SLe.refl _ | exact OLe.refl _ | exact ⟨_, rfl, OLe.refl _⟩ | refine ⟨_, rfl, ?_⟩ | refine OLe.var ?_ | (show zAh _ _; refine ⟨?_, ?_⟩) | (show zAh [] []; exact zz0) | (refine SLe.int ?_; rw [w64]; omega) | refine SLe.int ?_ | refine SLe.bool ?_ | apply And.intro | (exact zQr (_ :: _)))⟩
      ·exact ⟨⟨by simp only; omega, by simp [q2], by simpa [yDk] using q3⟩, by rw [q4]; simp⟩
      ·simp only; omega
    ·have hj : j = (zCu mask).length := by omega
     have hd : (zCu mask).drop j = [] := List.drop_eq_nil_of_le (by omega);rw [hd, zP5, List.append_nil] at q4;subst q4;have hns : ¬ (zBo k mask ≠ 0 ∨ zPh s l 4 p.Need k = false) := by rw [hV]; simp [hr]
     rw [lvS, if_neg hns] at g3;simp only at g3;generalize zV6 p.Need s l mask k = lf at g3 q2 ⊢;have hlf : lf.length ≤ 10 := by omega
     repeat' (first | refine zO 2 qS ?_ | apply zC | apply zA | apply zB | refine zF qS qR ?_ ?_ | refine zV 71 qR qS K127 qD (fun hg => ?_) (fun _ => ⟨lf, best, ⟨by omega, by omega⟩, rfl, rfl⟩) qS ?_ | refine zK qR ?_ | exact rfl | exact qP | fail)
     (refine zE qS ?_ ?_ <;> intro hb <;> have hc := hb <;> (try simp only [bF] at hc) <;> (try (exfalso; simp at hc; done)))
     ·rw [if_pos hc] at g3
      repeat' (first | apply zL | apply zA | apply zB | refine zF qS qR ?_ ?_ | exact zz0 | exact rfl | fail)
      refine zS (k, lf, true) ?_ ?_ ⟨rfl, qL, qL⟩
      ·exact ⟨⟨by simp only; omega, hlf⟩, g3⟩
      ·simp only; omega
     ·rw [if_neg (by rintro (h | h) <;> simp_all)] at g3
      repeat' (first | apply zG | apply zL | apply zA | apply zB | refine zF qS qR ?_ ?_ | exact zz0 | exact rfl | fail)
      refine zS (k, best, fnd) ?_ ?_ ⟨rfl, qL, qL⟩
      ·exact ⟨⟨by simp only; omega, g2⟩, g3⟩
      ·simp only; omega
  ·have f1 : (((zBo k mask : Nat) : Int) != 0) = true := by rw [bne_iff_ne]; omega
   have hs : lvS p.Need s l mask k (best, fnd) = (best, fnd) := by rw [lvS, if_pos (.inl hr)]
   rw [hs] at g3
   repeat' (first | apply zC | apply zG | apply zD | apply zA | apply zB | refine zF (by simp only [go_sem, e0, e1, f1]; rfl) qR ?_ ?_ | exact rfl | exact qP | fail)
   (refine zE qS ?_ ?_ <;> intro hb <;> have hc := hb <;> (try simp only [bF] at hc) <;> (try (exfalso; simp at hc; done)))
   repeat' (first | apply zA | apply zB | refine zF (by simp only [go_sem, e0]; rfl) qR ?_ ?_ | refine zK qR ?_ | exact zz0 | exact rfl | fail)
   refine zS (k, best, fnd) ?_ ?_ ⟨rfl, qL, qL⟩
   ·exact ⟨⟨by simp only; omega, g2⟩, g3⟩
   ·simp only; omega
 ·have hk : k = 0 := by omega
  subst hk;rw [g3, lvF]
  repeat' (first | apply zC | apply zA | apply zB | refine zF qS qR ?_ ?_ | refine yA qR qS ?_ | refine zK qR ?_ | exact zz0 | exact rfl | exact zAc.pure rfl | fail)
end Go.Sx
namespace Go.Sx
open Go.Proofs Go.RowKit
attribute [local irreducible] Run zAi zAy OpT zAc SLe OLe
set_option maxHeartbeats 2000000
set_option maxRecDepth 8000
set_option maxHeartbeats 20000000
attribute [go_sem] zC4 asA asS zIs
@[go_sem] def oEr : OB := .var [.int .i64 0]
@[go_sem] def oU0 : OB := .var [.nils, .nils]
@[go_sem] def oU (u : List Int × List Int) : OB := .var [ints u.1, ints u.2]
def outO (r : LR) : Option (List Int × List Int) → List OB
 | none => [oU0, oEr, zEu r .ready none]
 | some u => [oU u, oEr, zEu r .done (some .ret)]
def zZ5 (g : Nat → Option (List Int × List Int)) (n : Nat) : Option (List Int × List Int) := (zNl (List.range (2 ^ n))).findSome? g
abbrev YD (r : LR) (bl : List Nat) (h0 : Hp) (g : Nat → Option (List Int × List Int)) (M : Nat) : Prop := zTp Tryz.prog r.l h0 bl (fun ds os d os' => ∃ m : Nat, m < M ∧ ds = [eInt (m : Nat)] ∧ os = [oU0, oEr, zEu r .ready none] ∧ d = .bool (g m).isNone ∧ os' = zB6 1000 (outO r (g m)))
theorem zYd (m : Nat) {f : Nat → SD} (hf : f 0 = .int .i64 ((m : Nat) : Int)) : OLe (.acc 3 1 (m + 1) (zA3 m (fun i => .int .i64 ((List.range m).getD i 0 : Nat)) f)) (oMs (List.range (m + 1))) := OLe.accS (by simp) fun i hi => by
 simp only [zA3]
 by_cases h : i < m
 ·rw [if_pos h]
  simp [zz2, h, show i < m + 1 by omega]
 ·have : i = m := by omega
  subst this;rw [if_neg h, Nat.sub_self, hf];simp [zz2]
theorem zZr {n : Nat} (hn : n ≤ 10) : (∀ x ∈ List.range (2 ^ n), x < 1024) ∧ ∀ x ∈ zNl (List.range (2 ^ n)), x < 2 ^ n := by
 have hM : 2 ^ n ≤ 1024 := Nat.pow_le_pow_right (n := 2) (by omega) hn
 have h1 : ∀ x ∈ List.range (2 ^ n), x < 1024 := fun x hx => by have := List.mem_range.1 hx; omega
 exact ⟨h1, fun x hx => List.mem_range.1 ((zQx h1).mem_iff.1 hx)⟩
theorem K62 : FnOK Tryz.prog 62 (fun ds d => ∃ n : Int, ds = [eInt n] ∧ d = .fn 121 [.fp [.int .i64 n]]) := by
 refine zAa Tryz.call62 Tryz.func62 rfl Tryz.ntmps62 ?_
 rintro ds d ⟨n, rfl, rfl⟩
 refine ⟨by simp, fun w0 => ?_⟩
 repeat' (first | refine zO 0 qS ?_ | apply zC | apply zA | apply zB | refine zF qS qR ?_ ?_ | refine zI qR ?_ | exact zz0 | exact rfl | exact zAc.pure rfl | fail)
theorem K121 (r : LR) (h0 : Hp) (bl : List Nat) (hbl : bl.length = 3) (g : Nat → Option (List Int × List Int)) (n : Nat) (hn : n ≤ 10) (Y : YD r bl h0 g (2 ^ n)) : zZj Tryz.prog 121 h0 bl (fun ds os v os' => ∃ _ : Unit, ds = [.yld r.l, .fp [.int .i64 (n : Nat)]] ∧ os = [oU0, oEr, zEu r .ready none] ∧ v = .tup [] ∧ os' = zB6 1000 (outO r (zZ5 g n))) := by
 obtain ⟨b0, b1, b2, rfl⟩ : ∃ b0 b1 b2, bl = [b0, b1, b2] := by
  match bl, hbl with
  | [b0, b1, b2], _ => exact ⟨b0, b1, b2, rfl⟩
 refine zGo Tryz.call121 Tryz.func121 rfl Tryz.ntmps121 ?_
 rintro ds os d os' ⟨_, rfl, rfl, rfl, rfl⟩
 refine ⟨by simp, by simp, fun F w0 han => ?_⟩
 have esh := yCu n (by omega)
 have hM : 2 ^ n ≤ 1024 := Nat.pow_le_pow_right (n := 2) (by omega) hn
 have hpos := Nat.two_pow_pos n
 obtain ⟨hs1, hs2⟩ := zZr hn
 have hsl := zUe (List.range (2 ^ n))
 rw [List.length_range] at hsl
 have hfst : zZ5 g n = (zNl (List.range (2 ^ n))).findSome? g := rfl
 generalize 2 ^ n = M at esh hM hpos hs1 hs2 hsl hfst Y
 repeat' (first | apply zC | apply zD | apply zA | apply zB | refine zF (by simp only [go_sem, esh]; rfl) qR ?_ ?_ | exact zz0 | exact rfl | exact qP | fail)
 refine yF 3 3 1 (fun i => .int .i64 ((List.range 0).getD i 0 : Nat)) rfl rfl rfl ?_
 refine zN [0, 1, 3, 8] (fun x : Nat × Unit => [(9, .int .i64 x.1)]) (fun x : Nat × Unit => [(0, oMs (List.range x.1))]) (fun x : Nat × Unit => x.1 ≤ M) (fun x : Nat × Unit => M - x.1) (0, ()) (fun x => qS) ?_ qL qL ?_
 ·exact Nat.zero_le _
 rintro ⟨m, _⟩ g1
 simp only at g1
 have hlr : (List.range m).length = m := List.length_range
 repeat' (first | apply zC | apply zA | apply zB | refine zF qS qR ?_ ?_ | exact zz0 | exact rfl | fail)
 (refine zE qS ?_ ?_ <;> intro hb <;> have hc := hb <;> (try simp only [bF] at hc) <;> (try (exfalso; simp at hc; done)))
 ·repeat' (first | apply zC | apply zG | apply zD | apply zL | apply zA | apply zB | refine zF (by simp only [go_sem, hlr]; rfl) qR ?_ ?_ | exact zz0 | exact rfl | exact qP | fail)
  refine zR (o' := oMs (List.range (m + 1))) 0 qR (zYd m rfl) ?_;refine zS (m + 1, ()) ?_ ?_ ⟨rfl, qL, qL⟩
  ·show m + 1 ≤ M
   omega
  ·show M - (m + 1) < M - m
   omega
 have hm : m = M := by omega
 subst hm
 repeat' (first | apply zC | apply zA | refine zF qS qR ?_ ?_ | refine zK qR ?_ | exact zz0 | exact rfl | fail)
 refine zXi zXr 0 (List.range m) qR (by omega) hs1 qF qS ?_
 generalize zNl (List.range m) = L at hs2 hsl hfst
 repeat' (first | apply zC | apply zD | apply zA | apply zB | refine zF qS qR ?_ ?_ | exact zz0 | exact rfl | fail)
 refine zN [0, 19, 20] (fun x : Nat × Unit × Unit => [(21, .int .i64 x.1)]) (fun x : Nat × Unit × Unit => []) (fun x : Nat × Unit × Unit => x.1 ≤ L.length ∧ zZ5 g n = (L.drop x.1).findSome? g) (fun x : Nat × Unit × Unit => L.length - x.1) (0, (), ()) (fun x => qS) ?_ qL qL ?_
 ·exact ⟨Nat.zero_le _, hfst⟩
 clear hfst
 rintro ⟨i, _, _⟩ ⟨g2, g3⟩
 simp only at g2 g3
 repeat' (first | apply zC | apply zA | apply zB | refine zF qS qR ?_ ?_ | exact zz0 | exact rfl | fail)
 (refine zE qS ?_ ?_ <;> intro hb <;> have hc := hb <;> (try simp only [bF] at hc) <;> (try (exfalso; simp at hc; done)))
 ·have hi : i < L.length := by assumption
  have hmem := hs2 _ (zAk hi);rw [zAv _ _ hi, List.findSome?_cons] at g3;obtain ⟨q, hq⟩ : ∃ q, L.getD i 0 = q := ⟨_, rfl⟩;have hq2 : L.getD i default = q := hq;rw [hq2] at hmem g3;cases hg : g q with
  | none =>
   rw [hg] at g3;have hY : zTp Tryz.prog r.l h0 [b0, b1, b2] (fun ds os d os' => ds = [eInt (q : Nat)] ∧ os = [oU0, oEr, zEu r .ready none] ∧ d = .bool true ∧ os' = zB6 1000 [oU0, oEr, zEu r .ready none]) := ⟨fun ds os d os' ⟨e1, e2, e3, e4⟩ => Y.ok ds os d os' ⟨q, hmem, e1, e2, by rw [hg]; exact e3, by rw [hg]; exact e4⟩⟩
   repeat' (first | apply zC | apply zG | apply zD | apply zA | apply zB | refine zF (by simp only [go_sem, hq]; rfl) qR ?_ ?_ | refine zGd [1000, 1001, 1002] hY (by first | (simp only [go_sem, hq]; done) | (simp only [go_sem, hq]; rfl)) han qR qR (by simp only [go_sem, hq]; first | done | rfl) (by first | (simp only [go_sem, hq]; done) | rfl) (by first | (simp only [go_sem, hq]; done) | (simp only [go_sem, hq]; rfl)) ?_ ⟨rfl, rfl, rfl, rfl⟩ (by simp only [go_sem, hq]; rfl) ?_ | exact zz0 | exact rfl | exact qP | fail)
   (refine zE qS ?_ ?_ <;> intro hb <;> have hc := hb <;> (try simp only [bF] at hc) <;> (try (exfalso; simp at hc; done)))
   repeat' (first | apply zG | apply zL | apply zA | apply zB | refine zF qS qR ?_ ?_ | exact zz0 | exact rfl | fail)
   refine zS (i + 1, (), ()) ?_ ?_ ⟨rfl, qL, qL⟩
   ·exact ⟨by simp only; omega, g3⟩
   ·simp only; omega
  | some u =>
   rw [hg] at g3;rw [g3];have hY : zTp Tryz.prog r.l h0 [b0, b1, b2] (fun ds os d os' => ds = [eInt (q : Nat)] ∧ os = [oU0, oEr, zEu r .ready none] ∧ d = .bool false ∧ os' = zB6 1000 [oU u, oEr, zEu r .done (some .ret)]) := ⟨fun ds os d os' ⟨e1, e2, e3, e4⟩ => Y.ok ds os d os' ⟨q, hmem, e1, e2, by rw [hg]; exact e3, by rw [hg]; exact e4⟩⟩
   repeat' (first | apply zC | apply zG | apply zD | apply zA | apply zB | refine zF (by simp only [go_sem, hq]; rfl) qR ?_ ?_ | refine zGd [1000, 1001, 1002] hY (by first | (simp only [go_sem, hq]; done) | (simp only [go_sem, hq]; rfl)) han qR qR (by simp only [go_sem, hq]; first | done | rfl) (by first | (simp only [go_sem, hq]; done) | rfl) (by first | (simp only [go_sem, hq]; done) | (simp only [go_sem, hq]; rfl)) ?_ ⟨rfl, rfl, rfl, rfl⟩ (by simp only [go_sem, hq]; rfl) ?_ | exact zz0 | exact rfl | exact qP | fail)
   (refine zE qS ?_ ?_ <;> intro hb <;> have hc := hb <;> (try simp only [bF] at hc) <;> (try (exfalso; simp at hc; done)))
   repeat' (first | (show Run _ _ _ _ _ _; first | apply zC | apply zG | apply zD | apply zL | apply zA | apply zP | refine zK qR ?_) | (show zAi _ _ _ _ _ _ _; first | apply zB | refine zF qS qR ?_ ?_ | refine yG qS qZ qZ (fun bn hbn => ?_) | refine zFy qF qR qS ?_) | (show zAy _ _ _ _ _ _ _ _ _ _; first | refine zU qS qR ?_ ?_ | refine zQ qK qK ?_) | exact zz0 | exact rfl | exact SLe.refl _ | omega | exact zAc.bool rfl | refine zAc.bool ?_ | refine zAc.int ?_ | refine zAc.str ?_ | exact zAc.pure rfl | (show SLe _ _; simp only [go_sem]; repeat' (first | exact trivial | exact zz0 | exact SLe.refl _ | exact OLe.refl _ | exact ⟨_, rfl, OLe.refl _⟩ | refine ⟨_, rfl, ?_⟩ | refine OLe.var ?_ | (show zAh _ _; refine ⟨?_, ?_⟩) | (show zAh [] []; exact zz0) | (refine SLe.int ?_; rw [w64]; omega) | refine SLe.int ?_ | refine SLe.bool ?_ | apply And.intro)) | (show zC2 _ _; simp only [go_sem]; repeat' (first | exact trivial | exact zz0 | exact SLe.refl _ | exact OLe.refl _ | exact ⟨_, rfl, OLe.refl _⟩ | refine ⟨_, rfl, ?_⟩ | refine OLe.var ?_ | (show zAh _ _; refine ⟨?_, ?_⟩) | (show zAh [] []; exact zz0) | (refine SLe.int ?_; rw [w64]; omega) | refine SLe.int ?_ | refine SLe.bool ?_ | apply And.intro)) | exact qP | fail)
   refine yC qR qS ?_ ?_
   ·exact SLe.refl _
   ·show zC2 _ (zB6 1000 [oU u, oEr, zEu r .done (some .ret)])
    (show zC2 _ _; simp only [go_sem]; repeat' (first | exact SLe.any1 | exact trivial | exact zz0 | exact SLe.refl _ | exact OLe.refl _ | exact ⟨_, rfl, OLe.refl _⟩ | refine ⟨_, rfl, ?_⟩ | refine OLe.var ?_ | (show zAh _ _; refine ⟨?_, ?_⟩) | (show zAh [] []; exact zz0) | (refine SLe.int ?_; rw [w64]; omega) | refine SLe.int ?_ | refine SLe.bool ?_ | apply And.intro))
 ·have hd : L.drop i = [] := List.drop_eq_nil_of_le (by omega)
  rw [hd] at g3;rw [g3]
  repeat' (first | refine zK qR ?_ | fail)
  refine zEd qR ?_ ?_
  ·exact SLe.refl _
  ·show zC2 _ (zB6 1000 [oU0, oEr, zEu r .ready none])
   (show zC2 _ _; simp only [go_sem]; repeat' (first | exact SLe.any1 | exact trivial | exact zz0 | exact SLe.refl _ | exact OLe.refl _ | exact ⟨_, rfl, OLe.refl _⟩ | refine ⟨_, rfl, ?_⟩ | refine OLe.var ?_ | (show zAh _ _; refine ⟨?_, ?_⟩) | (show zAh [] []; exact zz0) | (refine SLe.int ?_; rw [w64]; omega) | refine SLe.int ?_ | refine SLe.bool ?_ | apply And.intro))
end Go.Sx
