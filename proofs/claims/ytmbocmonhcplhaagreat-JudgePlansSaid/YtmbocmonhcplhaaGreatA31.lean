/- Lemmas on the judge: A25, A26, A29, A31. -/
import Derived.Test.YtmbocmonhcplhaaGreatA15
import Derived.Test.YtmbocmonhcplhaaGreatJ41
import Derived.Test.YtmbocmonhcplhaaGreatJ25
set_option linter.all false
set_option maxHeartbeats 20000000
set_option maxRecDepth 8000
namespace Go.Sx
open Go.Proofs Tryz Go.RowKit
attribute [local irreducible] Run zAg zAs OpT zAc SLe OLe
attribute [go_sem] zC7 asA asS zNn
theorem yBj {P : Nat -> Bool} (h : ∃ x, P x = true) : ∃ x, P x = true /\ ∀ y, y < x -> P y = false := by
 obtain ⟨x, hx⟩ := h
 induction x using Nat.strongRecOn with
 | _ x ih =>
  by_cases hy : ∃ y, y < x /\ P y = true
  ·obtain ⟨y, h1, h2⟩ := hy
   exact ih y h1 h2
  ·refine ⟨x, hx, fun y hyx => ?_⟩
   cases hp : P y
   ·rfl
   ·exact absurd ⟨y, hyx, hp⟩ hy
open Classical in
noncomputable def zJv (P : Nat -> Bool) : Nat := if h : ∃ x, P x = true /\ ∀ y, y < x -> P y = false then h.choose else 0
theorem zU5 {P : Nat -> Bool} (h : ∃ x, P x = true) : P (zJv P) = true /\ ∀ y, y < zJv P -> P y = false := by
 have h2 := yBj h;rw [zJv, dif_pos h2];exact h2.choose_spec
noncomputable def zQl (n : Need) (s : Scale) (l : List Ach) (set : Nat) : Nat -> List Int × List Int
 | 0 => ([], [])
 | k + 1 => if set.testBit k then ((zQl n s l set k).1 ++ [((zJv fun x => zUm s l (some ((zQl n s l set k).1 ++ [(x : Int)])) n set : Nat) : Int)], (zQl n s l set k).2 ++ [((zJv fun x => zUm s l (some ((zQl n s l set k).1 ++ [(x : Int)])) n set : Nat) : Int)]) else ((zQl n s l set k).1 ++ [-1], (zQl n s l set k).2)
theorem VOk.nv : ∀ {d : Nat} {n : Need}, VOk d n -> NV d n
 | 0, _, _ => trivial
 | _ + 1, _, h => ⟨h.1, h.2.1, fun c hc => (h.2.2.2 c hc).nv⟩
theorem zN5 (dec : List Int) (y : Int) (i : Nat) (hi : i < dec.length + 1) : eInt ((dec ++ [y]).getD i default) = if i = dec.length then eInt y else eInt (dec.getD i default) := by
 split
 ·rename_i h; subst h
  simp [zz2]
 ·rename_i h
  simp [zz2, zyb (show i < dec.length by omega)]
theorem K128 : FnOK prog 128 (fun ds d => ∃ (n : Need) (s : Scale) (l : List Ach) (set : Nat), (QOk n /\ l.length <= 10 /\ set < 2 ^ l.length /\ zQn s l 4 n set = true) /\ ds = [zAh n, zDz s, zAj 8 zCk l, eInt (set : Nat)] /\ d = .tup [ints (zQl n s l set l.length).2, .bool true]) := by
 refine zAb call128 func128 rfl ntmps128 ?_;rintro ds d ⟨n, s, l, set, ⟨h1, h2, h3, h4⟩, rfl, rfl⟩;refine ⟨by simp, fun w0 => ?_⟩;have f1 : decide (((set : Nat) : Int) < 0) = false := zyq (by omega);have f2 : decide (((2 ^ l.length : Nat) : Int) <= ((set : Nat) : Int)) = false := zyq (by omega);have f0 : ((0 : Int) != 0) = false := rfl
 repeat' (first | refine wB ?_ | refine zC (by simp only [go_sem, f0, f1, f2, h4]; rfl) qR ?_ ?_ | refine zG K61 (by simp only [go_sem, f0, f1, f2, h4]; first | done | rfl) ?_ ⟨n, s, l, ⟨h1, h2⟩, rfl, rfl⟩ (by simp only [go_sem, f0, f1, f2, h4]; rfl) ?_ | exact qT | exact qP | fail)
 (refine zAa qS qC qC ?_ ?_ <;> intro hb hc <;> try (simp at hc; done))
 repeat' (first | refine wA ?_ | refine zC qS qR ?_ ?_ | exact qT | exact qP | fail)
 refine zX 15 3 1 (fun i => eInt (([] : List Int).getD i default)) rfl rfl rfl ?_;refine zH [2, 3, 4, 5, 12, 13, 14, 15, 49] (fun x : Nat × List Int × List Int => [(50, .int .i64 x.1)]) (fun x => [(2, .acc 3 1 x.2.1.length (fun i => eInt (x.2.1.getD i default))), (4, .acc 3 1 x.2.2.length (fun i => eInt (x.2.2.getD i default)))]) (fun x => (x.1 <= l.length /\ x.2.1.length = x.1 /\ x.2.2.length <= x.1) /\ zQl n s l set x.1 = (x.2.1, x.2.2) /\ zUm s l (some x.2.1) n set = true) (fun x => l.length - x.1) (0, [], []) (fun x => qS) ?_ qL qL ?_
 ·refine ⟨⟨zz7 _, rfl, zyj _⟩, rfl, ?_⟩
  show (zUg s l [] 4 n 0).1 set = true;rw [yDy]; exact h4
 rintro ⟨k, dec, out⟩ ⟨⟨g1, g2, g3⟩, g4, g5⟩;simp only at g1 g2 g3 g4 g5;have h2k : (2 : Nat) ^ l.length <= 2 ^ 10 := Nat.pow_le_pow_right (by omega) h2
 repeat' (first | refine wA ?_ | exact qT | fail)
 (refine zAa qS qC qC ?_ ?_ <;> intro hb hc <;> try (simp at hc; done))
 ·have hk : k < l.length := by assumption
  have e := yCd set k (by omega) (by omega);have hs : zQl n s l set (k + 1) = if set.testBit k then (dec ++ [((zJv fun x => zUm s l (some (dec ++ [(x : Int)])) n set : Nat) : Int)], out ++ [((zJv fun x => zUm s l (some (dec ++ [(x : Int)])) n set : Nat) : Int)]) else (dec ++ [-1], out) := by rw [zQl, g4]
  have hlen : ∀ x : Int, (dec ++ [x]).length = k + 1 := fun x => by simp [g2]
  cases hbit : set.testBit k
  ·rw [hbit, if_neg (by simp)] at e hs
   repeat' (first | refine wB ?_ | refine zC (by simp only [go_sem, e]; rfl) qR ?_ ?_ | exact qT | exact qP | fail)
   (refine zAa qS qC qC ?_ ?_ <;> intro hb hc <;> try (simp at hc; done))
   repeat' (first | refine wA ?_ | refine zF qR ?_ | exact qT | fail)
   refine zK (o' := .acc 3 1 (dec ++ [-1]).length fun i => eInt ((dec ++ [-1]).getD i default)) 2 qR (zBl eInt dec _ rfl) ?_;refine zL (k + 1, dec ++ [-1], out) ?_ ?_ ⟨rfl, qL, qL⟩
   ·refine ⟨⟨by simp only; omega, hlen _, by simp only; omega⟩, hs, ?_⟩
    exact yGg (by omega) h1.v.nv g5 (by rw [g2]; exact hbit)
   ·simp only; omega
  ·rw [hbit, if_pos rfl] at e hs
   repeat' (first | refine wB ?_ | refine zC (by simp only [go_sem, e]; rfl) qR ?_ ?_ | exact qT | exact qP | fail)
   (refine zAa qS qC qC ?_ ?_ <;> intro hb hc <;> try (simp at hc; done))
   repeat' (first | refine wA ?_ | refine zC qS qR ?_ ?_ | exact rfl | exact qP | fail)
   refine zK (o' := .acc 3 1 (dec ++ [((0 : Nat) : Int)]).length fun i => eInt ((dec ++ [((0 : Nat) : Int)]).getD i default)) 2 qR (OLe.accS (by simp) fun i hi => ?_) ?_
   ·rw [zN5 _ _ _ hi]
    unfold Sx.setF;by_cases hik : i = k
    ·rw [if_pos hik, if_pos (by omega)]; rfl
    ·rw [if_neg hik, if_neg (by omega)]
     simp only [zBm];rw [if_pos (by omega)];rfl
   obtain ⟨x9, _, hx8, hx9⟩ := (zV4 s l dec (by omega) 4 n 0 set h1.v.nv g5).2 (by rw [g2]; exact hbit);have hx7 : x9 < 1000000 := Nat.lt_trans hx8 (h1.lt s l _ _);obtain ⟨hx1, hx2⟩ := zU5 (P := fun x : Nat => zUm s l (some (dec ++ [(x : Int)])) n set) ⟨x9, hx9⟩;generalize (zJv fun x => zUm s l (some (dec ++ [(x : Int)])) n set) = x0 at hs hx1 hx2
   have hx0 : x0 <= x9 := by
    rcases Nat.lt_or_ge x9 x0 with h | h
    ·have := hx2 x9 h
     rw [show zUm s l (some (dec ++ [(x9 : Int)])) n set = true from hx9] at this;cases this
    ·exact h
   clear hx9;refine zH [2, 3, 4, 5, 12, 13, 14, 15, 16, 49, 50] (fun x : Nat => []) (fun x => [(2, .acc 3 1 (dec ++ [(x : Int)]).length fun i => eInt ((dec ++ [(x : Int)]).getD i default))]) (fun x => x <= x0) (fun x => x0 - x) 0 (fun x => qS) ?_ qL qL ?_
   ·exact zz7 _
   rintro x g6
   repeat' (first | refine wA ?_ | refine zC qS qR ?_ ?_ | refine zUk [2, 3] A120 qS qD ?_ ⟨n, s, l, some (dec ++ [(x:Int)]), ⟨h1, h2, by show (dec ++ [(x:Int)]).length <= 10; rw [hlen]; omega⟩, rfl, rfl, rfl, rfl, rfl⟩ (fun _ => rfl) qS ?_ | exact qT | exact qP | fail)
   have eg : (dec ++ [(x : Int)]).getD k default = (x : Int) := by
    subst g2;simp [zz2]
   have e2 : IntKind.i64.wrap ((x : Int) + 1) = ((x + 1 : Nat) : Int) := by rw [w64]; omega
   (refine zAa qS qC qC ?_ ?_ <;> intro hb hc <;> try (simp at hc; done))
   ·have hne : x ≠ x0 := fun hc => by
     subst hc;have h5 : zUm s l (some (dec ++ [(x : Int)])) n set = true := hx1;rw [h5] at hb; cases hb
    repeat' (first | refine wB ?_ | refine zC (by simp only [go_sem, eg, e2]; rfl) qR ?_ ?_ | exact rfl | exact qP | fail)
    refine zK (o' := .acc 3 1 (dec ++ [((x + 1 : Nat) : Int)]).length fun i => eInt ((dec ++ [((x + 1 : Nat) : Int)]).getD i default)) 2 qR (OLe.accS (by simp) fun i hi => ?_) ?_
    ·have hi2 : i < dec.length + 1 := by simpa using hi
     rw [zN5 _ _ _ hi2];unfold Sx.setF;by_cases hik : i = k
     ·rw [if_pos hik, if_pos (by omega)]; rfl
     ·rw [if_neg hik, if_neg (by omega)]
      show eInt ((dec ++ [(x : Int)]).getD i default) = _;rw [zN5 _ _ _ hi2, if_neg (by omega)]
    refine zL (x + 1) ?_ ?_ ⟨rfl, qL, qL⟩
    ·show x + 1 <= x0
     omega
    ·show x0 - (x + 1) < x0 - x
     omega
   ·have hP : zUm s l (some (dec ++ [(x : Int)])) n set = true := by simpa using hb
    have hxx : x = x0 := by
     rcases Nat.lt_or_ge x x0 with h | h
     ·have := hx2 x h
      rw [hP] at this; cases this
     ·omega
    subst hxx
    repeat' (first | refine wB ?_ | refine zC (by simp only [go_sem, eg]; rfl) qR ?_ ?_ | refine zF qR ?_ | exact qT | exact qP | fail)
    refine zK (o' := .acc 3 1 (out ++ [(x : Int)]).length fun i => eInt ((out ++ [(x : Int)]).getD i default)) 4 qR (zBl eInt out _ rfl) ?_;refine zL (k + 1, dec ++ [(x : Int)], out ++ [(x : Int)]) ?_ ?_ ⟨rfl, qL, qL⟩
    ·exact ⟨⟨by simp only; omega, hlen _, by simp; omega⟩, hs, hP⟩
    ·simp only; omega
 ·have hk : k = l.length := by omega
  subst hk;rw [g4]
  repeat' (first | refine zI 4 qS ?_ | refine wA ?_ | refine zT qR qS ?_ | refine zF qR ?_ | exact qT | exact zAc.pure rfl | fail)
attribute [local irreducible] cmpL
def zRe (sub : Nat) : List Int -> List Int -> List Int
 | [], _ => []
 | k :: ms, rest => if sub.testBit k.toNat then rest.headD 0 :: zRe sub ms rest.tail else -1 :: zRe sub ms rest
noncomputable def zYc (n : Need) (s : Scale) (l : List Ach) (mask sub : Nat) : List Int := zRe sub (zC8 mask) (zQl n s l sub l.length).2
noncomputable def lvS (n : Need) (s : Scale) (l : List Ach) (mask sub : Nat) (b : List Int × Bool) : List Int × Bool :=
 if zBq sub mask ≠ 0 \/ zQn s l 4 n sub = false then b else if b.2 = false \/ cmpL (zYc n s l mask sub) b.1 < 0 then (zYc n s l mask sub, true) else b
noncomputable def lvF (n : Need) (s : Scale) (l : List Ach) (mask : Nat) : Nat -> List Int × Bool -> List Int × Bool
 | 0, b => b
 | k + 1, b => lvF n s l mask k (lvS n s l mask k b)
theorem zRz (n : Need) (s : Scale) (l : List Ach) (sub : Nat) : ∀ k, (zQl n s l sub k).2.length = ((List.range k).filter fun j => sub.testBit j).length
 | 0 => rfl
 | k + 1 => by
  rw [zQl, List.range_succ, List.filter_append];cases h : sub.testBit k
  ·simp [h, zRz n s l sub k]
  ·simp [h, zRz n s l sub k]
def yGw (sub : Nat) (ms : List Int) : Nat := (ms.filter fun k => sub.testBit k.toNat).length
theorem yF5 {sub mask len : Nat} (hl : len <= 10) (hm : mask < 2 ^ len) (hs : sub &&& mask = sub) : yGw sub (zC8 mask) = ((List.range len).filter fun j => sub.testBit j).length := by
 have hsub : ∀ j, sub.testBit j = true -> mask.testBit j = true := fun j hj => by
  rw [<- hs, Nat.testBit_and, zz3] at hj;exact hj.2
 have e : (zC8 mask).filter (fun k => sub.testBit k.toNat) = (((List.range 10).filter fun j => sub.testBit j)).map fun k : Nat => (k : Int) := by
  unfold zC8;rw [List.filter_map, List.filter_filter]
  congr 1
  refine List.filter_congr fun j _ => ?_;simp only [Function.comp, zya];cases hj : sub.testBit j
  ·rfl
  ·rw [hsub j hj]; rfl
 rw [yGw, e, List.length_map, zGw hl fun j hj => zFv hm (hsub j hj)]
theorem zLa {a b : Nat} (ha : a < 1024) : zBq a b = 0 ↔ a &&& b = a := by
 constructor
 ·intro h
  refine zGa fun j hj => ?_;have h2 : (zBq a b).testBit j = false := by rw [h, Nat.zero_testBit]
  rw [zKg ha] at h2;simp only [hj] at h2;cases hb : b.testBit j
  ·rw [hb] at h2; cases h2
  ·rfl
 ·intro h
  apply Nat.eq_of_testBit_eq;intro j;rw [zKg ha, Nat.zero_testBit];simp only;cases hj : a.testBit j
  ·rfl
  ·rw [<- h, Nat.testBit_and, zz3] at hj
   rw [hj.2]; rfl
theorem yFk {m i : Nat} (h : i < (zC8 m).length) : ∃ k : Nat, (zC8 m).getD i default = (k : Int) /\ k < 10 := by
 have := zAi (l := zC8 m) h;unfold zC8 at this;obtain ⟨k, hk, e⟩ := List.mem_map.1 this;exact ⟨k, e.symm, List.mem_range.1 (List.mem_filter.1 hk).1⟩
theorem zNy (m : Nat) : (zC8 m).length <= 10 := by
 rw [zC8, List.length_map];exact zS4 m
theorem zR9 (rest : List Int) : SLe (.list 1 (rest.length - 1) fun i => .int .i64 (rest.getD (1 + i) default)) (.list 1 rest.tail.length fun i => .int .i64 (rest.tail.getD i default)) := SLe.list (by simp) fun i hi => by
 cases rest with
 | nil => simp
 | cons a r =>
  rw [Nat.add_comm];rfl
theorem K65 : FnOK prog 65 (fun ds d => ∃ (p : Programme) (s : Scale) (l : List Ach) (mask : Nat), (POk 4 p /\ zFx 4 p = 0 /\ l.length <= 10 /\ mask < 2 ^ l.length) /\ ds = [zGx p, zDz s, zAj 8 zCk l, .list 1 (2 ^ l.length) fun i => .bool (zQn s l 4 p.Need i), eInt (mask : Nat)] /\ d = .tup [ints (lvF p.Need s l mask (mask + 1) ([], false)).1, .bool (lvF p.Need s l mask (mask + 1) ([], false)).2]) := by
 refine zAb call65 func65 rfl ntmps65 ?_;rintro ds d ⟨p, s, l, mask, ⟨h1, h2, h3, h4⟩, rfl, rfl⟩;refine ⟨by simp, fun w0 => ?_⟩;have hq := QOk.of h1 h2;have h2k : (2 : Nat) ^ l.length <= 2 ^ 10 := Nat.pow_le_pow_right (by omega) h3;generalize hR : lvF p.Need s l mask (mask + 1) ([], false) = R
 repeat' (first | refine wA ?_ | exact qT | fail)
 refine zH [2, 3, 4, 5, 6] (fun x : Nat × (List Int × Bool) => [(12, .int .i64 (((x.1 : Nat) : Int) - 1)), (10, ints x.2.1), (11, .bool x.2.2)]) (fun x => []) (fun x => (x.1 <= mask + 1 /\ x.2.1.length <= 10) /\ R = lvF p.Need s l mask x.1 x.2) (fun x => x.1) (mask + 1, [], false) (fun x => qS) ?_ (by simp only [go_sem]; repeat' (first | exact trivial | exact zz0 | exact SLe.refl _ | exact OLe.refl _ | exact ⟨_, rfl, OLe.refl _⟩ | refine ⟨_, rfl, ?_⟩ | refine OLe.var ?_ | (show zCr _ _; refine ⟨?_, ?_⟩) | (show zCr [] []; exact zz0) | (refine SLe.int ?_; rw [w64]; omega) | refine SLe.int ?_ | refine SLe.bool ?_ | apply And.intro | (first | exact SLe.nils | omega))) (by simp only [go_sem]; repeat' (first | exact trivial | exact zz0 | exact SLe.refl _ | exact OLe.refl _ | exact ⟨_, rfl, OLe.refl _⟩ | refine ⟨_, rfl, ?_⟩ | refine OLe.var ?_ | (show zCr _ _; refine ⟨?_, ?_⟩) | (show zCr [] []; exact zz0) | (refine SLe.int ?_; rw [w64]; omega) | refine SLe.int ?_ | refine SLe.bool ?_ | apply And.intro | (first | exact SLe.nils | omega))) ?_
 ·exact ⟨⟨zyj _, zz7 _⟩, hR.symm⟩
 clear hR;rintro ⟨k, best, fnd⟩ ⟨⟨g1, g2⟩, g3⟩;simp only at g1 g2 g3
 repeat' (first | refine wA ?_ | exact qT | fail)
 (refine zAa qS qC qC ?_ ?_ <;> intro hb hc <;> try (simp at hc; done))
 ·obtain ⟨k, rfl⟩ : ∃ j, k = j + 1 := ⟨k - 1, by omega⟩
  have e0 : (((k + 1 : Nat) : Int) - 1) = (k : Int) := by omega
  have e1 := bbic k mask (by omega);rw [lvF] at g3;by_cases hr : zBq k mask = 0
  ·have f1 : (((zBq k mask : Nat) : Int) != 0) = false := by rw [hr]; rfl
   cases hV : zQn s l 4 p.Need k
   ·have hs : lvS p.Need s l mask k (best, fnd) = (best, fnd) := by rw [lvS, if_pos (.inr hV)]
    rw [hs] at g3
    repeat' (first | refine wB ?_ | refine zC (by simp only [go_sem, e0, e1, f1, hV]; rfl) qR ?_ ?_ | exact rfl | exact qP | fail)
    (refine zAa qS qC qC ?_ ?_ <;> intro hb hc <;> try (simp at hc; done))
    repeat' (first | refine wB ?_ | refine zC (by simp only [go_sem, e0]; rfl) qR ?_ ?_ | refine zF qR ?_ | exact qT | fail)
    refine zL (k, best, fnd) ?_ ?_ ⟨rfl, qL, qL⟩
    ·exact ⟨⟨by simp only; omega, g2⟩, g3⟩
    ·simp only; omega
   ·repeat' (first | refine wB ?_ | refine zC (by simp only [go_sem, e0, e1, f1, hV]; rfl) qR ?_ ?_ | exact rfl | exact qP | fail)
    (refine zAa qS qC qC ?_ ?_ <;> intro hb hc <;> try (simp at hc; done))
    repeat' (first | refine wB ?_ | refine zC (by simp only [go_sem, e0, e1, f1, hV]; rfl) qR ?_ ?_ | refine zG K128 (by simp only [go_sem, e0, e1, f1, hV]; first | done | rfl) ?_ ⟨p.Need, s, l, k, ⟨hq, h3, by omega, hV⟩, rfl, rfl⟩ (by simp only [go_sem, e0, e1, f1, hV]; rfl) ?_ | exact qT | fail)
    (refine zAa qS qC qC ?_ ?_ <;> intro hb hc <;> try (simp at hc; done))
    repeat' (first | refine wA ?_ | refine zG K63 qD ?_ ⟨mask, by omega, rfl, rfl⟩ qS ?_ | exact qT | fail)
    refine zX 15 3 1 (fun i => eInt (([] : List Int).getD i default)) rfl rfl rfl ?_;have houts : (zQl p.Need s l k l.length).2.length = yGw k (zC8 mask) := by rw [zRz, yF5 h3 h4 ((zLa (by omega)).1 hr)]
    have hlf : zYc p.Need s l mask k = zRe k (zC8 mask) (zQl p.Need s l k l.length).2 := rfl;generalize (zQl p.Need s l k l.length).2 = outs at houts hlf;have hml := zNy mask;refine zH [2, 3, 4, 5, 6, 10, 11, 12, 15, 46, 47] (fun x : Nat × List Int × List Int => [(48, .int .i64 x.1), (13, ints x.2.2)]) (fun x => [(2, .acc 3 1 x.2.1.length (fun i => eInt (x.2.1.getD i default)))]) (fun x => (x.1 <= (zC8 mask).length /\ x.2.1.length = x.1 /\ x.2.2.length = yGw k ((zC8 mask).drop x.1)) /\ zYc p.Need s l mask k = x.2.1 ++ zRe k ((zC8 mask).drop x.1) x.2.2) (fun x => (zC8 mask).length - x.1) (0, [], outs) (fun x => qS) ?_ qL qL ?_
    ·exact ⟨⟨zz7 _, rfl, houts⟩, hlf⟩
    clear houts hlf;rintro ⟨j, lf, rest⟩ ⟨⟨q1, q2, q3⟩, q4⟩;simp only at q1 q2 q3 q4
    repeat' (first | refine wA ?_ | exact qT | fail)
    (refine zAa qS qC qC ?_ ?_ <;> intro hb hc <;> try (simp at hc; done))
    ·have hj : j < (zC8 mask).length := by assumption
     obtain ⟨b, hb1, hb2⟩ := yFk hj;rw [zAr _ _ hj, hb1] at q3 q4;rw [zRe, zya] at q4;rw [yGw, List.filter_cons, zya] at q3;have e2 := yCd k b (by omega) (by omega);cases hbit : k.testBit b
     ·rw [hbit, if_neg (by simp)] at e2 q3 q4
      repeat' (first | refine wB ?_ | refine zC (by simp only [go_sem, hb1, e2]; rfl) qR ?_ ?_ | exact rfl | exact qP | fail)
      (refine zAa qS qC qC ?_ ?_ <;> intro hb hc <;> try (simp at hc; done))
      repeat' (first | refine wA ?_ | refine zC qS qR ?_ ?_ | exact qT | exact qP | fail)
      refine zK (o' := .acc 3 1 (lf ++ [-1]).length fun i => eInt ((lf ++ [-1]).getD i default)) 2 qR (zBl eInt lf _ rfl) ?_;refine zL (j + 1, lf ++ [-1], rest) ?_ ?_ ⟨rfl, qL, qL⟩
      ·exact ⟨⟨by simp only; omega, by simp [q2], q3⟩, by rw [q4]; simp⟩
      ·simp only; omega
     ·rw [hbit, if_pos rfl] at e2 q3 q4
      obtain ⟨a, r, rfl⟩ : ∃ a r, rest = a :: r := by
       cases rest with
       | nil => simp at q3
       | cons a r => exact ⟨a, r, rfl⟩
      repeat' (first | refine wB ?_ | refine zC (by simp only [go_sem, hb1, e2]; rfl) qR ?_ ?_ | exact rfl | exact qP | fail)
      (refine zAa qS qC qC ?_ ?_ <;> intro hb hc <;> try (simp at hc; done))
      repeat' (first | refine wA ?_ | refine zC qS qR ?_ ?_ | refine zM qS qR ?_ ?_ | refine zJ qK qK ?_ | refine zF3 qS ?_ qS ?_ | exact qT | exact qP | fail)
      refine zHz 3 2 qS ?_;refine zK (o' := .acc 3 1 (lf ++ [a]).length fun i => eInt ((lf ++ [a]).getD i default)) 2 qR (zBl eInt lf _ rfl) ?_;refine zL (j + 1, lf ++ [a], r) ?_ ?_ ⟨rfl, by simp only [go_sem]; repeat' (first | exact trivial | exact zz0 | exact SLe.refl _ | exact OLe.refl _ | exact ⟨_, rfl, OLe.refl _⟩ | refine ⟨_, rfl, ?_⟩ | refine OLe.var ?_ | (show zCr _ _; refine ⟨?_, ?_⟩) | (show zCr [] []; exact zz0) | (refine SLe.int ?_; rw [w64]; omega) | refine SLe.int ?_ | refine SLe.bool ?_ | apply And.intro | (exact zR9 (_ :: _))), by simp only [go_sem]; repeat' (first | exact trivial | exact zz0 | exact SLe.refl _ | exact OLe.refl _ | exact ⟨_, rfl, OLe.refl _⟩ | refine ⟨_, rfl, ?_⟩ | refine OLe.var ?_ | (show zCr _ _; refine ⟨?_, ?_⟩) | (show zCr [] []; exact zz0) | (refine SLe.int ?_; rw [w64]; omega) | refine SLe.int ?_ | refine SLe.bool ?_ | apply And.intro | (exact zR9 (_ :: _)))⟩
      ·exact ⟨⟨by simp only; omega, by simp [q2], by simpa [yGw] using q3⟩, by rw [q4]; simp⟩
      ·simp only; omega
    ·have hj : j = (zC8 mask).length := by omega
     have hd : (zC8 mask).drop j = [] := List.drop_eq_nil_of_le (by omega);rw [hd, zRe, List.append_nil] at q4;subst q4;have hns : ¬ (zBq k mask ≠ 0 \/ zQn s l 4 p.Need k = false) := by rw [hV]; simp [hr]
     rw [lvS, if_neg hns] at g3;simp only at g3;generalize zYc p.Need s l mask k = lf at g3 q2 |-;have hlf : lf.length <= 10 := by omega
     repeat' (first | refine zI 2 qS ?_ | refine wA ?_ | refine zC qS qR ?_ ?_ | refine zN 71 qR qS K127 qD (fun hg => ?_) (fun _ => ⟨lf, best, ⟨by omega, by omega⟩, rfl, rfl⟩) qS ?_ | refine zF qR ?_ | exact rfl | exact qP | fail)
     (refine zAa qS qC qC ?_ ?_ <;> intro hb hc <;> try (simp at hc; done))
     ·rw [if_pos hc] at g3
      repeat' (first | refine wA ?_ | exact qT | fail)
      refine zL (k, lf, true) ?_ ?_ ⟨rfl, qL, qL⟩
      ·exact ⟨⟨by simp only; omega, hlf⟩, g3⟩
      ·simp only; omega
     ·rw [if_neg (by rintro (h | h) <;> simp_all)] at g3
      repeat' (first | refine wA ?_ | exact qT | fail)
      refine zL (k, best, fnd) ?_ ?_ ⟨rfl, qL, qL⟩
      ·exact ⟨⟨by simp only; omega, g2⟩, g3⟩
      ·simp only; omega
  ·have f1 : (((zBq k mask : Nat) : Int) != 0) = true := by rw [bne_iff_ne]; omega
   have hs : lvS p.Need s l mask k (best, fnd) = (best, fnd) := by rw [lvS, if_pos (.inl hr)]
   rw [hs] at g3
   repeat' (first | refine wB ?_ | refine zC (by simp only [go_sem, e0, e1, f1]; rfl) qR ?_ ?_ | exact rfl | exact qP | fail)
   (refine zAa qS qC qC ?_ ?_ <;> intro hb hc <;> try (simp at hc; done))
   repeat' (first | refine wB ?_ | refine zC (by simp only [go_sem, e0]; rfl) qR ?_ ?_ | refine zF qR ?_ | exact qT | fail)
   refine zL (k, best, fnd) ?_ ?_ ⟨rfl, qL, qL⟩
   ·exact ⟨⟨by simp only; omega, g2⟩, g3⟩
   ·simp only; omega
 ·have hk : k = 0 := by omega
  subst hk;rw [g3, lvF]
  repeat' (first | refine wA ?_ | refine zT qR qS ?_ | refine zF qR ?_ | exact qT | exact zAc.pure rfl | fail)
attribute [go_sem] zC7 asA asS zNn
@[go_sem] def oEr : OB := .var [.int .i64 0]
@[go_sem] def oU0 : OB := .var [.nils, .nils]
@[go_sem] def oU (u : List Int × List Int) : OB := .var [ints u.1, ints u.2]
def outO (r : LR) : Option (List Int × List Int) -> List OB
 | none => [oU0, oEr, zDi r .ready none]
 | some u => [oU u, oEr, zDi r .done (some .ret)]
def yDc (g : Nat -> Option (List Int × List Int)) (n : Nat) : Option (List Int × List Int) := (zOx (List.range (2 ^ n))).findSome? g
abbrev YD (r : LR) (bl : List Nat) (h0 : Hp) (g : Nat -> Option (List Int × List Int)) (M : Nat) : Prop := zR2 prog r.l h0 bl (fun ds os d os' => ∃ m : Nat, m < M /\ ds = [eInt (m : Nat)] /\ os = [oU0, oEr, zDi r .ready none] /\ d = .bool (g m).isNone /\ os' = zAy 1000 (outO r (g m)))
theorem yBc (m : Nat) {f : Nat -> SD} (hf : f 0 = .int .i64 ((m : Nat) : Int)) : OLe (.acc 3 1 (m + 1) (zBm m (fun i => .int .i64 ((List.range m).getD i 0 : Nat)) f)) (oMs (List.range (m + 1))) := OLe.accS (by simp) fun i hi => by
 simp only [zBm];by_cases h : i < m
 ·rw [if_pos h]
  simp [zz2, h, show i < m + 1 by omega]
 ·have : i = m := by omega
  subst this;rw [if_neg h, Nat.sub_self, hf];simp [zz2]
theorem yCs {n : Nat} (hn : n <= 10) : (∀ x ∈ List.range (2 ^ n), x < 1024) /\ ∀ x ∈ zOx (List.range (2 ^ n)), x < 2 ^ n := by
 have hM : 2 ^ n <= 1024 := Nat.pow_le_pow_right (n := 2) (by omega) hn;have h1 : ∀ x ∈ List.range (2 ^ n), x < 1024 := fun x hx => by have := List.mem_range.1 hx; omega
 exact ⟨h1, fun x hx => List.mem_range.1 ((zSe h1).mem_iff.1 hx)⟩
theorem K62 : FnOK prog 62 (fun ds d => ∃ n : Int, ds = [eInt n] /\ d = .fn 121 [.fp [.int .i64 n]]) := by
 refine zAb call62 func62 rfl ntmps62 ?_;rintro ds d ⟨n, rfl, rfl⟩;refine ⟨by simp, fun w0 => ?_⟩
 repeat' (first | refine zI 0 qS ?_ | refine wA ?_ | refine zE qR ?_ | exact qT | exact zAc.pure rfl | fail)
theorem K121 (r : LR) (h0 : Hp) (bl : List Nat) (hbl : bl.length = 3) (g : Nat -> Option (List Int × List Int)) (n : Nat) (hn : n <= 10) (Y : YD r bl h0 g (2 ^ n)) : zZw prog 121 h0 bl (fun ds os v os' => ∃ _ : Unit, ds = [.yld r.l, .fp [.int .i64 (n : Nat)]] /\ os = [oU0, oEr, zDi r .ready none] /\ v = .tup [] /\ os' = zAy 1000 (outO r (yDc g n))) := by
 obtain ⟨b0, b1, b2, rfl⟩ : ∃ b0 b1 b2, bl = [b0, b1, b2] := by
  match bl, hbl with
  | [b0, b1, b2], _ => exact ⟨b0, b1, b2, rfl⟩
 refine zFo call121 func121 rfl ntmps121 ?_;rintro ds os d os' ⟨_, rfl, rfl, rfl, rfl⟩;refine ⟨by simp, by simp, fun F w0 han => ?_⟩;have esh := yGb n (by omega);have hM : 2 ^ n <= 1024 := Nat.pow_le_pow_right (n := 2) (by omega) hn;have hpos := Nat.two_pow_pos n;obtain ⟨hs1, hs2⟩ := yCs hn;have hsl := zWf (List.range (2 ^ n));rw [List.length_range] at hsl;have hfst : yDc g n = (zOx (List.range (2 ^ n))).findSome? g := rfl;generalize 2 ^ n = M at esh hM hpos hs1 hs2 hsl hfst Y
 repeat' (first | refine wB ?_ | refine zC (by simp only [go_sem, esh]; rfl) qR ?_ ?_ | exact qT | exact qP | fail)
 refine zX 3 3 1 (fun i => .int .i64 ((List.range 0).getD i 0 : Nat)) rfl rfl rfl ?_;refine zH [0, 1, 3, 8] (fun x : Nat × Unit => [(9, .int .i64 x.1)]) (fun x => [(0, oMs (List.range x.1))]) (fun x => x.1 <= M) (fun x => M - x.1) (0, ()) (fun x => qS) ?_ qL qL ?_
 ·exact zz7 _
 rintro ⟨m, _⟩ g1;simp only at g1;have hlr : (List.range m).length = m := List.length_range
 repeat' (first | refine wA ?_ | exact qT | fail)
 (refine zAa qS qC qC ?_ ?_ <;> intro hb hc <;> try (simp at hc; done))
 ·repeat' (first | refine wB ?_ | refine zC (by simp only [go_sem, hlr]; rfl) qR ?_ ?_ | exact qT | exact qP | fail)
  refine zK (o' := oMs (List.range (m + 1))) 0 qR (yBc m rfl) ?_;refine zL (m + 1, ()) ?_ ?_ ⟨rfl, qL, qL⟩
  ·show m + 1 <= M
   omega
  ·show M - (m + 1) < M - m
   omega
 have hm : m = M := by omega
 subst hm
 repeat' (first | refine wA ?_ | refine zF qR ?_ | exact qT | fail)
 refine zZ9 yAk 0 (List.range m) qR (by omega) hs1 qF qS ?_;generalize zOx (List.range m) = L at hs2 hsl hfst
 repeat' (first | refine wA ?_ | exact qT | fail)
 refine zH [0, 19, 20] (fun x : Nat × Unit × Unit => [(21, .int .i64 x.1)]) (fun x => []) (fun x => x.1 <= L.length /\ yDc g n = (L.drop x.1).findSome? g) (fun x => L.length - x.1) (0, (), ()) (fun x => qS) ?_ qL qL ?_
 ·exact ⟨zz7 _, hfst⟩
 clear hfst;rintro ⟨i, _, _⟩ ⟨g2, g3⟩;simp only at g2 g3
 repeat' (first | refine wA ?_ | exact qT | fail)
 (refine zAa qS qC qC ?_ ?_ <;> intro hb hc <;> try (simp at hc; done))
 ·have hi : i < L.length := by assumption
  have hmem := hs2 _ (zAi hi);rw [zAr _ _ hi, List.findSome?_cons] at g3;obtain ⟨q, hq⟩ : ∃ q, L.getD i 0 = q := ⟨_, rfl⟩;have hq2 : L.getD i default = q := hq;rw [hq2] at hmem g3;cases hg : g q with
  | none =>
   rw [hg] at g3;have hY : zR2 prog r.l h0 [b0, b1, b2] (fun ds os d os' => ds = [eInt (q : Nat)] /\ os = [oU0, oEr, zDi r .ready none] /\ d = .bool true /\ os' = zAy 1000 [oU0, oEr, zDi r .ready none]) := ⟨fun ds os d os' ⟨e1, e2, e3, e4⟩ => Y.ok ds os d os' ⟨q, hmem, e1, e2, by rw [hg]; exact e3, by rw [hg]; exact e4⟩⟩
   repeat' (first | refine wB ?_ | refine zC (by simp only [go_sem, hq]; rfl) qR ?_ ?_ | refine zFf [1000, 1001, 1002] hY (by first | (simp only [go_sem, hq]; done) | (simp only [go_sem, hq]; rfl)) han qR qR (by simp only [go_sem, hq]; first | done | rfl) (by first | (simp only [go_sem, hq]; done) | rfl) (by first | (simp only [go_sem, hq]; done) | (simp only [go_sem, hq]; rfl)) ?_ ⟨rfl, rfl, rfl, rfl⟩ (by simp only [go_sem, hq]; rfl) ?_ | exact qT | exact qP | fail)
   (refine zAa qS qC qC ?_ ?_ <;> intro hb hc <;> try (simp at hc; done))
   repeat' (first | refine wA ?_ | exact qT | fail)
   refine zL (i + 1, (), ()) ?_ ?_ ⟨rfl, qL, qL⟩
   ·exact ⟨by simp only; omega, g3⟩
   ·simp only; omega
  | some u =>
   rw [hg] at g3;rw [g3];have hY : zR2 prog r.l h0 [b0, b1, b2] (fun ds os d os' => ds = [eInt (q : Nat)] /\ os = [oU0, oEr, zDi r .ready none] /\ d = .bool false /\ os' = zAy 1000 [oU u, oEr, zDi r .done (some .ret)]) := ⟨fun ds os d os' ⟨e1, e2, e3, e4⟩ => Y.ok ds os d os' ⟨q, hmem, e1, e2, by rw [hg]; exact e3, by rw [hg]; exact e4⟩⟩
   repeat' (first | refine wB ?_ | refine zC (by simp only [go_sem, hq]; rfl) qR ?_ ?_ | refine zFf [1000, 1001, 1002] hY (by first | (simp only [go_sem, hq]; done) | (simp only [go_sem, hq]; rfl)) han qR qR (by simp only [go_sem, hq]; first | done | rfl) (by first | (simp only [go_sem, hq]; done) | rfl) (by first | (simp only [go_sem, hq]; done) | (simp only [go_sem, hq]; rfl)) ?_ ⟨rfl, rfl, rfl, rfl⟩ (by simp only [go_sem, hq]; rfl) ?_ | exact qT | exact qP | fail)
   (refine zAa qS qC qC ?_ ?_ <;> intro hb hc <;> try (simp at hc; done))
   repeat' (first | (show Run _ _ _ _ _ _; first | refine wA ?_ | refine zF qR ?_) | (show zAg _ _ _ _ _ _ _; first | refine wA ?_ | refine zC qS qR ?_ ?_ | refine zY qS qZ qZ (fun bn hbn => ?_) | refine zBt qF qR qS ?_) | (show zAs _ _ _ _ _ _ _ _ _ _; first | refine zM qS qR ?_ ?_ | refine zJ qK qK ?_) | exact qT | exact SLe.refl _ | omega | exact zAc.bool rfl | refine zAc.bool ?_ | refine zAc.int ?_ | refine zAc.str ?_ | exact zAc.pure rfl | exact qM | exact qN | exact qP | fail)
   refine zV qR qS ?_ ?_
   ·exact SLe.refl _
   ·show zEu _ (zAy 1000 [oU u, oEr, zDi r .done (some .ret)])
    exact qO
 ·have hd : L.drop i = [] := List.drop_eq_nil_of_le (by omega)
  rw [hd] at g3;rw [g3]
  repeat' (first | refine zF qR ?_ | fail)
  refine zBr qR ?_ ?_
  ·exact SLe.refl _
  ·show zEu _ (zAy 1000 [oU0, oEr, zDi r .ready none])
   exact qO
def zL9 (p : Programme) (day : Int) : List Ach -> Nat -> List Int
 | [], _ => []
 | a :: r, k => if zAz p day a then zL9 p day r (k + 1) else (k : Int) :: zL9 p day r (k + 1)
noncomputable def gD (p : Programme) (s : Scale) (y : List Ach) (at' : List Int) (day : Int) (m : Nat) : Option (List Int × List Int) :=
 if (tgF p day (zA2 y (zC8 m)) && (lvF p.Need s y m (m + 1) ([], false)).2) = true then some (zA2 at' (zC8 m), (lvF p.Need s y m (m + 1) ([], false)).1) else none
noncomputable def zCa (p : Programme) (s : Scale) (l : List Ach) (day : Int) : Option (List Int × List Int) × Int :=
 if zFx 4 p ≠ 0 then (none, zFx 4 p) else if zA0 s = false then (none, 10) else if 10 < (zAu p day l).length then (none, 2) else
  match yDc (gD p s (zAu p day l) (zL9 p day l 0) day) (zAu p day l).length with
  | some u => (some u, 0)
  | none => (none, 31)
theorem zNp (p : Programme) (day : Int) : ∀ (r : List Ach) (k : Nat) (x : Int), x ∈ zL9 p day r k -> (k : Int) <= x /\ x < (k : Int) + (r.length : Int)
 | [], _, _, h => by cases h
 | a :: r, k, x, h => by
  have hl : ((a :: r).length : Int) = (r.length : Int) + 1 := by simp
  rw [zL9] at h;rw [hl];split at h
  ·have := zNp p day r (k + 1) x h; omega
  ·rcases List.mem_cons.1 h with rfl | h
   ·omega
   ·have := zNp p day r (k + 1) x h; omega
theorem zQ3 (p : Programme) (day : Int) : ∀ (r : List Ach) (k : Nat), (zL9 p day r k).length = (zAu p day r).length
 | [], _ => rfl
 | a :: r, k => by
  rw [zL9, zAu, List.filter_cons];have := zQ3 p day r (k + 1);rw [zAu] at this;cases zAz p day a
  ·simp [this]
  ·simp [this]
theorem zNo (p : Programme) (day : Int) (l : List Ach) : ∀ (r : List Ach) (k : Nat), l.drop k = r -> zA2 l (zL9 p day r k) = zAu p day r
 | [], _, _ => rfl
 | a :: r, k, h => by
  have hk : k < l.length := by
   rcases Nat.lt_or_ge k l.length with h1 | h1
   ·exact h1
   ·rw [List.drop_eq_nil_of_le h1] at h; cases h
  rw [zAr _ _ hk] at h;obtain ⟨h1, h2⟩ := List.cons.inj h;have := zNo p day l r (k + 1) h2;rw [zL9, zAu, List.filter_cons];rw [zAu] at this;cases zAz p day a
  ·simp only [Bool.not_false, if_true, Bool.false_eq_true, if_false]
   rw [<- this, zA2, List.map_cons, zya, h1];rfl
  ·simp only [Bool.not_true, Bool.false_eq_true, if_false, if_true]
   exact this
theorem yC5 (n : Need) (s : Scale) (l : List Ach) (m : Nat) : ∀ (k : Nat) (b : List Int × Bool), (lvF n s l m k b).2 = true ↔ b.2 = true \/ ∃ sub, sub < k /\ zBq sub m = 0 /\ zQn s l 4 n sub = true
 | 0, b => by simp [lvF]
 | k + 1, b => by
  rw [lvF, yC5 n s l m k]
  have hs : (lvS n s l m k b).2 = true ↔ b.2 = true \/ (zBq k m = 0 /\ zQn s l 4 n k = true) := by
   unfold lvS;by_cases hc : zBq k m ≠ 0 \/ zQn s l 4 n k = false
   ·rw [if_pos hc]
    constructor
    ·exact .inl
    ·rintro (h | ⟨h1, h2⟩)
     ·exact h
     ·rcases hc with hc | hc
      ·exact absurd h1 hc
      ·rw [h2] at hc; cases hc
   ·rw [if_neg hc]
    have h2 : zBq k m = 0 /\ zQn s l 4 n k = true := by
     simp only [not_or, ne_eq, Decidable.not_not, Bool.not_eq_false] at hc;exact hc
    split
    ·simp [h2]
    ·rename_i hn
     simp only [not_or, Bool.not_eq_false] at hn;simp [hn.1]
  rw [hs, or_assoc];refine or_congr_right ⟨?_, ?_⟩
  ·rintro (⟨h1, h2⟩ | ⟨sub, h1, h2, h3⟩)
   ·exact ⟨k, Nat.lt_succ_self k, h1, h2⟩
   ·exact ⟨sub, by omega, h2, h3⟩
  ·rintro ⟨sub, h1, h2, h3⟩
   rcases Nat.lt_or_ge sub k with h | h
   ·exact .inr ⟨sub, h, h2, h3⟩
   ·obtain rfl : sub = k := by omega
    exact .inl ⟨h2, h3⟩
theorem zYn {p : Programme} {s : Scale} {y : List Ach} {at' : List Int} {day : Int} {m : Nat} (hm : m < 1024) : (gD p s y at' day m).isSome = true ↔ yJf 4 p s y day m := by
 unfold gD yJf;have h := yC5 p.Need s y m (m + 1) ([], false);simp only [Bool.false_eq_true, false_or] at h
 have h2 : (∃ sub, sub < m + 1 /\ zBq sub m = 0 /\ zQn s y 4 p.Need sub = true) ↔ ∃ sub, sub <= m /\ sub &&& m = sub /\ zQn s y 4 p.Need sub = true :=
  ⟨fun ⟨sub, a, b, c⟩ => ⟨sub, by omega, (zLa (by omega)).1 b, c⟩, fun ⟨sub, a, b, c⟩ => ⟨sub, by omega, (zLa (by omega)).2 b, c⟩⟩
 rw [<- h2, <- h];split
 ·rename_i hc
  rw [zz3] at hc;simp [hc]
 ·rename_i hc
  rw [zz3] at hc
  constructor
  ·intro h; cases h
  ·intro h; exact absurd h hc
theorem zXg (l : List Ach) (at' js : List Int) (h : ∀ k ∈ js, 0 <= k /\ k < (at'.length : Int)) : zA2 l (zA2 at' js) = zA2 (zA2 l at') js := by
 unfold zA2;rw [List.map_map];refine List.map_congr_left fun k hk => ?_;have := h k hk;have hk2 : k.toNat < at'.length := by omega
 simp only [Function.comp, zz2, List.getElem?_map, zz5 hk2, Option.map_some, Option.getD_some]
theorem zQ8 {m k : Nat} (hm : m < 2 ^ k) : ∀ x ∈ zC8 m, 0 <= x /\ x < (k : Int) := fun x hx => by
 unfold zC8 at hx;obtain ⟨j, hj, rfl⟩ := List.mem_map.1 hx;have := zFv hm (List.mem_filter.1 hj).2;omega
theorem zVf {p : Programme} {s : Scale} {l : List Ach} {day : Int} (hp : POk 4 p) :
  zF7 4 p s l day = decide ((zCa p s l day).2 = 0) /\ (((zCa p s l day).1 = none /\ (zCa p s l day).2 ≠ 0) \/ ∃ tk lf, zCa p s l day = (some (tk, lf), 0) /\ (tk.length <= 10 /\ ∀ k ∈ tk, 0 <= k /\ k < (l.length : Int)) /\ pw pair (zA2 l tk) = true /\ zF7 4 p s (zA2 l tk) day = true) := by
 unfold zCa;by_cases h1 : zFx 4 p ≠ 0
 ·rw [if_pos h1]
  refine ⟨?_, .inl ⟨rfl, h1⟩⟩;rw [zyq h1, zF7, zyq h1]; rfl
 rw [if_neg h1];have h1 : zFx 4 p = 0 := Decidable.not_not.1 h1;by_cases h2 : zA0 s = false
 ·rw [if_pos h2]
  refine ⟨?_, .inl ⟨rfl, by decide⟩⟩;rw [zF7, h2]; simp
 rw [if_neg h2];have h2 : zA0 s = true := by simpa using h2
 have hd := zYx (l := l) (day := day) hp h1 h2;by_cases h3 : 10 < (zAu p day l).length
 ·rw [if_pos h3]
  refine ⟨?_, .inl ⟨rfl, by decide⟩⟩;cases hx : zF7 4 p s l day
  ·rfl
  ·have := (hd.1 hx).1; omega
 rw [if_neg h3];have h3 : (zAu p day l).length <= 10 := by omega
 have hM : 2 ^ (zAu p day l).length <= 1024 := Nat.pow_le_pow_right (n := 2) (by omega) h3;obtain ⟨q1, q2⟩ := yCs h3;have hmem : ∀ x, x ∈ zOx (List.range (2 ^ (zAu p day l).length)) ↔ x < 2 ^ (zAu p day l).length := fun x => by rw [(zSe q1).mem_iff, zyp]
 cases hf : yDc (gD p s (zAu p day l) (zL9 p day l 0) day) (zAu p day l).length with
 | none =>
  show zF7 4 p s l day = decide ((31 : Int) = 0) /\ (((none : Option (List Int × List Int)) = none /\ (31 : Int) ≠ 0) \/ _);refine ⟨?_, .inl ⟨rfl, by decide⟩⟩;cases hx : zF7 4 p s l day
  ·rfl
  ·obtain ⟨_, m, hm, hfnd⟩ := hd.1 hx
   have hg := (zYn (at' := zL9 p day l 0) (show m < 1024 by omega)).2 hfnd;have := List.findSome?_eq_none_iff.1 hf m ((hmem m).2 hm);rw [this] at hg; cases hg
 | some u =>
  show zF7 4 p s l day = decide ((0 : Int) = 0) /\ (((some u : Option (List Int × List Int)) = none /\ (0 : Int) ≠ 0) \/ ∃ tk lf, ((some u : Option (List Int × List Int)), (0 : Int)) = (some (tk, lf), 0) /\ _);obtain ⟨m, hm, hg⟩ := List.exists_of_findSome?_eq_some hf;have hm2 := (hmem m).1 hm;have hfnd := (zYn (p := p) (s := s) (y := zAu p day l) (at' := zL9 p day l 0) (day := day) (show m < 1024 by omega)).1 (by rw [hg]; rfl)
  have hu : u.1 = zA2 (zL9 p day l 0) (zC8 m) := by
   unfold gD at hg;split at hg
   ·cases hg; rfl
   ·cases hg
  have hil := zQ3 p day l 0;have hjs : ∀ k ∈ zC8 m, 0 <= k /\ k < ((zL9 p day l 0).length : Int) := by rw [hil]; exact zQ8 hm2
  have hpk : zA2 l u.1 = zA2 (zAu p day l) (zC8 m) := by rw [hu, zXg l _ _ hjs, zNo p day l l 0 rfl]
  have ht := zYw hp h1 h2 h3 zI8 hm2 hfnd;rw [<- hpk] at ht;refine ⟨?_, .inr ⟨u.1, u.2, rfl, ⟨?_, fun k hk => ?_⟩, ht.1, ht.2⟩⟩
  ·rw [hd.2 ⟨h3, m, hm2, hfnd⟩]; rfl
  ·rw [hu, zKk]; exact zNy m
  ·rw [hu] at hk
   obtain ⟨j, hj, rfl⟩ := List.mem_map.1 hk;have h5 := hjs j hj;have h6 := zNp p day l 0 _ (zAi (l := zL9 p day l 0) (i := j.toNat) (by omega));omega
end Go.Sx
