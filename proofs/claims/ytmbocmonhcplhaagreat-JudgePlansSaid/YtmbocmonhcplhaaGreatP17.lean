/- Lemmas on the judge: J45, J62, P17. -/
import Derived.Test.YtmbocmonhcplhaaGreatJ40
import Derived.Test.YtmbocmonhcplhaaGreatJ61
import Derived.Sort.Walk0
set_option linter.all false
set_option maxHeartbeats 2000000
set_option maxRecDepth 8000
namespace Go.Sx
open Go.Proofs Tryz Go.RowKit
theorem zP5 : ∀ (qs : List (Need × Nat)), zYr qs = 0 -> ∀ x ∈ qs, zFw x.1 = 0
 | [], _, x, hx => by cases hx
 | y :: r, h, x, hx => by
  rw [zYr] at h;split at h
  ·rename_i h1
   rcases List.mem_cons.1 hx with rfl | hx
   ·exact h1
   ·exact zP5 r h x hx
  ·rename_i h1; exact absurd h h1
theorem zOo {qs : List (Need × Nat)} (h : zQk qs = 0) : ∀ x ∈ qs, zFw x.1 = 0 := by
 rw [zQk] at h;split at h
 ·cases h
 ·exact zP5 qs h
theorem zXl {n : Need} (h : zFw n = 0) : 0 <= n.N := by
 rw [zFw] at h;split at h
 ·split at h
  ·cases h
  ·rename_i h1
   simp only [Bool.or_eq_true, bne_iff_ne, ne_eq, zyf, not_or, Decidable.not_not] at h1;omega
 split at h
 ·split at h
  ·cases h
  ·split at h
   ·cases h
   ·rename_i h1
    simp only [Bool.not_eq_true', Bool.and_eq_false_iff, decide_eq_false_iff_not, not_or, Decidable.not_not] at h1;omega
 split at h
 ·split at h
  ·cases h
  ·rename_i h1
   simp only [Bool.or_eq_true, bne_iff_ne, ne_eq, not_or, Decidable.not_not] at h1;omega
 split at h
 ·split at h
  ·cases h
  ·split at h
   ·cases h
   ·rename_i h1
    simp only [Bool.not_eq_true', Bool.and_eq_false_iff, decide_eq_false_iff_not, not_or, Decidable.not_not] at h1;omega
 ·cases h
theorem zMr {n : Need} (h : zFw n = 0) (hk : ¬ (n.Kind = 1 \/ n.Kind = 2)) : 0 < n.L.length := by
 have key : zMf n = true -> 0 < n.L.length := fun hb => by
  simp only [zMf, zz3, zyf] at hb;omega
 rw [zFw, if_neg (fun h => hk (.inl h)), if_neg (fun h => hk (.inr h))] at h;split at h
 ·split at h
  ·cases h
  ·rename_i h1
   simp only [Bool.or_eq_true, Bool.not_eq_true', not_or, Bool.not_eq_false] at h1;exact key h1.1
 split at h
 ·split at h
  ·cases h
  ·rename_i h1
   simp only [Bool.not_eq_true', Bool.not_eq_false] at h1;exact key h1
 ·cases h
theorem zC3 (d k : Nat) (n : Need) : (n, k) ∈ zAd d k n := by
 cases d <;> simp [zAd]
theorem zS1 : ∀ (d k : Nat) (n : Need), (∀ x ∈ zAd d k n, zFw x.1 = 0) -> NN d n
 | 0, k, n, h => zXl (h _ (zC3 0 k n))
 | d + 1, k, n, h => ⟨zXl (h _ (zC3 (d + 1) k n)), fun x hx => zS1 d (k + 1) x fun y hy => h y (by
   rw [zAd];exact zyc _ (List.mem_flatMap.2 ⟨x, hx, hy⟩))⟩
theorem yD5 : ∀ (l : List Nat), (∀ x ∈ l, 1 <= x) -> 0 < l.length -> 1 <= l.sum
 | [], _, h => absurd h (Nat.lt_irrefl 0)
 | x :: r, h, _ => by
  have := h x (zym ..);simp only [List.sum_cons]; omega
theorem zH6 : ∀ a b : List (Need × Nat), zFc (a ++ b) = zFc a + zFc b
 | [], b => by simp [zFc]
 | x :: r, b => by simp only [List.cons_append, zFc, zH6 r b]; omega
theorem zT1 {α : Type} (f : α -> List (Need × Nat)) : ∀ (l : List α) (x : α), x ∈ l -> zFc (f x) <= zFc (l.flatMap f)
 | [], x, h => by cases h
 | y :: r, x, h => by
  rw [List.flatMap_cons, zH6]
  rcases List.mem_cons.1 h with rfl | h
  ·omega
  ·have := zT1 f r x h; omega
theorem zP8 {α : Type} (f : α -> List (Need × Nat)) : ∀ l : List α, (∀ x ∈ l, 1 <= zFc (f x)) -> l.length <= zFc (l.flatMap f)
 | [], _ => zyj _
 | y :: r, h => by
  rw [List.flatMap_cons, zH6];have h1 := h y (zym ..);have h2 := zP8 f r fun x hx => h x (zyc _ hx);simp only [List.length_cons]; omega
theorem zXj {n : Need} (h : zFw n = 0) (hl : zH3 n = true) : n.L = [] := by
 simp only [zH3, zz3, bne_iff_ne] at hl;by_cases h1 : n.Kind = 1
 ·rw [zXn h1] at h
  split at h
  ·cases h
  ·rename_i hc
   simp only [Bool.or_eq_true, zyf, not_or] at hc;exact List.eq_nil_of_length_eq_zero (by omega)
 by_cases h2 : n.Kind = 2
 ·rw [zXm h2] at h
  split at h
  ·cases h
  ·rename_i hc
   simp only [zyf] at hc;exact List.eq_nil_of_length_eq_zero (by omega)
 ·rw [zFw, if_neg h1, if_neg h2, if_neg hl.1, if_neg hl.2] at h
  cases h
theorem zMy {n : Need} (h : zH3 n = false) : ¬ (n.Kind = 1 \/ n.Kind = 2) := by
 simp only [zH3, Bool.and_eq_false_iff, bne_eq_false_iff_eq] at h;omega
theorem yIq : ∀ (d k : Nat) (n : Need), NOk d n -> (∀ x ∈ zAd d k n, zFw x.1 = 0) -> zFc (zAd d k n) <= 8 -> MOk d n /\ 1 <= zFc (zAd d k n)
 | 0, k, n, hn, h, hc => by
  refine ⟨hn.2, ?_⟩;have h1 := h _ (zC3 0 k n);cases hl : zH3 n
  ·have := zMr h1 (zMy hl)
   rw [hn.2] at this;exact absurd this (Nat.lt_irrefl 0)
  ·simp only [zAd, zFc, hl, if_true]; omega
 | d + 1, k, n, hn, h, hc => by
  have h1 := h _ (zC3 (d + 1) k n);have e : zFc (zAd (d + 1) k n) = (if zH3 n then 1 else 0) + zFc (n.L.flatMap (zAd d (k + 1))) := rfl
  have hx : ∀ x ∈ n.L, MOk d x /\ 1 <= zFc (zAd d (k + 1) x) := fun x hx => by
   have h2 := zT1 (zAd d (k + 1)) n.L x hx;refine yIq d (k + 1) x (hn.2 x hx) (fun y hy => h y ?_) (by omega);rw [zAd];exact zyc _ (List.mem_flatMap.2 ⟨x, hx, hy⟩)
  have h3 := zP8 (zAd d (k + 1)) n.L fun x hm => (hx x hm).2;refine ⟨⟨by omega, zXj h1, fun x hm => (hx x hm).1⟩, ?_⟩;cases hl : zH3 n
  ·have h4 : 0 < n.L.length := zMr h1 (zMy hl)
   rw [e, hl];omega
  ·rw [e, hl, if_pos rfl]; omega
theorem zPn : ∀ (d k : Nat) (n : Need), NOk d n -> (∀ x ∈ zAd d k n, zFw x.1 = 0) -> 1 <= zHt d n
 | 0, k, n, hn, h => by
  rw [zHt];split
  ·exact zyj _
  ·rename_i hk
   have := zMr (h _ (zC3 0 k n)) hk;rw [hn.2] at this;exact absurd this (Nat.lt_irrefl 0)
 | d + 1, k, n, hn, h => by
  rw [zHt];split
  ·exact zyj _
  ·rename_i hk
   refine yD5 _ (fun x hx => ?_) (by rw [List.length_map]; exact zMr (h _ (zC3 (d + 1) k n)) hk);obtain ⟨m, hm, rfl⟩ := List.mem_map.1 hx
   exact zPn d (k + 1) m (hn.2 m hm) fun y hy => h y (by
    rw [zAd];exact zyc _ (List.mem_flatMap.2 ⟨m, hm, hy⟩))
theorem yIo {qs : List (Need × Nat)} (h : zQk qs = 0) : zFc qs <= 8 := by
 rw [zQk] at h;split at h
 ·cases h
 ·rename_i hc
  simp only [Bool.or_eq_true, Bool.not_eq_true', Bool.and_eq_false_iff, zyf, decide_eq_false_iff_not, not_or] at hc;omega
theorem zM3 {d : Nat} {p : Programme} (h : zFx d p = 0) : zQk (zAd d 1 p.Need) = 0 := by
 rw [zFx] at h;split at h
 ·cases h
 split at h
 ·cases h
 split at h
 ·cases h
 split at h
 ·assumption
 ·exact h
theorem yF6 {d : Nat} {p : Programme} (h : zFx d p = 0) : NN d p.Need := zS1 d 1 _ (zOo (zM3 h))
theorem yB5 {d : Nat} {p : Programme} (hp : POk d p) (h : zFx d p = 0) : 1 <= zHt d p.Need := zPn d 1 _ hp.need.1 (zOo (zM3 h))
theorem zT5 {d : Nat} {p : Programme} (hp : POk d p) (h : zFx d p = 0) : MOk d p.Need := (yIq d 1 _ hp.need.1 (zOo (zM3 h)) (yIo (zM3 h))).1
theorem yD4 (y : Int) : y.tdiv 100 = if 0 <= y then y / 100 else -((-y) / 100) := by
 split
 ·rw [Int.tdiv_eq_ediv_of_nonneg (by assumption)]
 ·rename_i h
  have := Int.neg_tdiv (-y) 100;rw [Int.neg_neg] at this;rw [this, Int.tdiv_eq_ediv_of_nonneg (by omega)]
theorem yD3 (y : Int) : y.tmod 100 = if 0 <= y then y % 100 else -((-y) % 100) := by
 have := Int.mul_tdiv_add_tmod y 100;rw [yD4] at this;split <;> rename_i h <;> simp only [h, if_true, if_false] at this <;> omega
theorem zHv (x : Int) (h1 : -9223372036854775808 <= x) (h2 : x < 9223372036854775808) : IntKind.i64.wrap x = x := by rw [w64]; omega
theorem zYv (n : Int) (h1 : -9223372036854775709 <= n) (h2 : n < 9223372036854775808) : yIg n 100 = n / 100 := by
 have hm := yD3 n;have hb : -100 < n.tmod 100 /\ n.tmod 100 < 100 := by rw [hm]; split <;> omega
 have b : (n.tmod 100 + 100).tmod 100 = n % 100 := by
  rw [yD3 (n.tmod 100 + 100), if_pos (by omega), hm]; split <;> omega
 have d : (n - n % 100).tdiv 100 = n / 100 := by rw [yD4]; split <;> omega
 unfold yIg wr;rw [zHv (n.tmod 100 + 100) (by omega) (by omega), b, zHv (n - n % 100) (by omega) (by omega), d, zHv (n / 100) (by omega) (by omega)]
theorem yF3 (n : Int) (h1 : -9223372036854775808 <= n) (h2 : n < 9223372036854775808) : yGv n 100 = n / 100 := by
 have hm := yD3 n;have hd := yD4 n;have hb : -9223372036854775808 < n.tdiv 100 /\ n.tdiv 100 < 9223372036854775808 := by rw [hd]; split <;> omega
 unfold yGv wr;rw [zHv (n.tdiv 100) (by omega) (by omega), zHv (n.tdiv 100 - 1) (by omega) (by omega), hm, hd]
 (repeat' split) <;> omega
theorem zV6 (x : Int) (h1 : -9223372036854775808 <= x) (h2 : x < 9223372036854775808) : zK3 x = yGv x 100 := by
 rw [yF3 x h1 h2];unfold zK3;split
 ·have e : wr (x + 100) = x + 100 := zHv _ (by omega) (by omega)
  rw [e, zYv _ (by omega) (by omega)];show IntKind.i64.wrap _ = _;rw [zHv _ (by omega) (by omega)]; omega
 ·exact zYv _ (by omega) (by omega)
def S0 : Nat -> Bool := fun z => z == 0
def zF7 (d : Nat) (p : Programme) (s : Scale) (l : List Ach) (day : Int) : Bool :=
 decide (zFx d p = 0) && zA0 s && (let y := l.filter fun a => !zAz p day a
  decide (y.length <= 10) && (List.range (2 ^ y.length)).any fun set => zDt p y set && (List.range 1024).any fun part => aft s y d p.Need S0 part && (part &&& set == part))
def keepR (p : Programme) (day : Int) (a : Ach) : Bool := decide (p.Age <= 0) || decide (wr (yGv day 100 - yGv a.Day 100) <= p.Age)
def yKk (d : Nat) (p : Programme) (s : Scale) (l : List Ach) (day : Int) : Bool :=
 decide (zFx d p = 0) && zA0 s && (let y := l.filter fun a => keepR p day a
  decide (y.length <= 10) && (List.range (2 ^ y.length)).any fun set => zDt p y set && (List.range (set + 1)).any fun part => (part &&& set == part) && zVn s y (2 ^ y.length) d p.Need S0 part)
def zIb (x : Int) : Prop := zK3 x = yGv x 100
theorem yFp {p : Programme} {day : Int} {a : Ach} (h1 : zIb day) (h2 : zIb a.Day) : keepR p day a = !zAz p day a := by
 rw [keepR, zAz, <- h1, <- h2, Bool.not_and]
 congr 1
 ·rw [<- decide_not]; exact decide_eq_decide.2 (by omega)
 ·rw [<- decide_not]; exact decide_eq_decide.2 (by omega)
theorem zTy (d : Nat) (p : Programme) (s : Scale) (l : List Ach) (day : Int) (h1 : zIb day) (h2 : ∀ a ∈ l, zIb a.Day) : zF7 d p s l day = yKk d p s l day := by
 have e : (l.filter fun a => keepR p day a) = l.filter fun a => !zAz p day a := List.filter_congr fun a ha => yFp h1 (h2 a ha);unfold zF7 yKk;rw [e];generalize (l.filter fun a => !zAz p day a) = y;refine congrArg (fun b => decide (zFx d p = 0) && zA0 s && b) ?_;by_cases hy : y.length <= 10
 ·simp only [zyr hy, zyg]
  have hM : 2 ^ y.length <= 1024 := Nat.pow_le_pow_right (n := 2) (by omega) hy
  have hR := zOu s y hy d p.Need S0 S0 ⟨fun _ _ => rfl, fun z hz => by
   have : z = 0 := by simpa [S0] using hz
   rw [this]; exact Nat.two_pow_pos _⟩
  rw [Bool.eq_iff_iff, zyo, zyo]
  constructor
  ·rintro ⟨set, hs, h⟩
   simp only [zz3, zyo, zyp] at h hs;obtain ⟨hw, part, hp, ha, hsub⟩ := h
   have hle : part <= set := by
    have : part &&& set <= set := Nat.and_le_right;rw [beq_iff_eq.1 hsub] at this;exact this
   refine ⟨set, by simpa using hs, ?_⟩;simp only [zz3, zyo, zyp];exact ⟨hw, part, by omega, hsub, by rw [<- hR.1 part (by omega)]; exact ha⟩
  ·rintro ⟨set, hs, h⟩
   simp only [zz3, zyo, zyp] at h hs;obtain ⟨hw, part, hp, hsub, ha⟩ := h;refine ⟨set, by simpa using hs, ?_⟩;simp only [zz3, zyo, zyp];exact ⟨hw, part, by omega, by rw [hR.1 part (by omega)]; exact ha, hsub⟩
 ·simp only [zyq hy, Bool.false_and]
attribute [local irreducible] OLe Run SLe zAc zAg zAs zH9
theorem yDe (x : Int) : zIb (wr x) := by
 have h := w64 x;refine zV6 _ ?_ ?_
 ·show _ <= IntKind.i64.wrap x; rw [h]; omega
 ·show IntKind.i64.wrap x < _; rw [h]; omega
structure AGk (a : Ach) : Prop where
 day : zIb a.Day
 src : a.Sources.length <= 10
 path : a.Path.length <= 10
end Go.Sx
namespace Go.Sx
open Go.Proofs Tryz
theorem yCc (a b : List UInt8) : Op.bytesLess a b = decide (a < b) := bytesLess_eq a b
theorem yCb {a b c : List UInt8} (h1 : Op.bytesLess a b = true) (h2 : Op.bytesLess b c = true) : Op.bytesLess a c = true := by
 rw [yCc, zyf] at *;exact List.lt_trans h1 h2
theorem yIs {a b : List UInt8} (h1 : Op.bytesLess a b = false) (h2 : a ≠ b) : Op.bytesLess b a = true := by
 rw [yCc, decide_eq_false_iff_not] at h1;rw [yCc, zyf]
 rcases List.le_iff_lt_or_eq.1 (List.not_lt.1 h1) with h | h
 ·exact h
 ·exact absurd h.symm h2
theorem yGc {a b : List UInt8} (h1 : Op.bytesLess a b = true) : a ≠ b := by
 rw [yCc, zyf] at h1;exact fun h => List.lt_irrefl _ (h ▸ h1)
theorem zEz {a b : Course} : zB4 a b = true ↔ a.School < b.School \/ (a.School = b.School /\ Op.bytesLess a.Code.toList b.Code.toList = true) := by
 simp only [zB4, Bool.or_eq_true, zyf, zz3, beq_iff_eq]
theorem zFj {a b c : Course} (h1 : zB4 a b = true) (h2 : zB4 b c = true) : zB4 a c = true := by
 rw [zEz] at *
 rcases h1 with h1 | ⟨h1, g1⟩ <;> rcases h2 with h2 | ⟨h2, g2⟩
 ·exact .inl (by omega)
 ·exact .inl (by omega)
 ·exact .inl (by omega)
 ·exact .inr ⟨by omega, yCb g1 g2⟩
theorem zSr {a b : Course} (h1 : zB4 a b = false) (h2 : zD2 a b = false) : zB4 b a = true := by
 rw [zEz];have h1 : ¬ zB4 a b = true := by simp [h1]
 rw [zEz] at h1;by_cases h3 : b.School < a.School
 ·exact .inl h3
 ·have h4 : a.School = b.School := by
   have : ¬ a.School < b.School := fun hc => h1 (.inl hc);omega
  refine .inr ⟨h4.symm, yIs ?_ fun hc => ?_⟩
  ·cases hq : Op.bytesLess a.Code.toList b.Code.toList
   ·rfl
   ·exact absurd (.inr ⟨h4, hq⟩) h1
  ·rw [zFz] at hc
   simp [zD2, h4, hc] at h2
def CRt (c : Course) : Prop := zD1 c.Code /\ zGe c = true
def SRt (l : List Course) : Prop := (∀ c ∈ l, CRt c) /\ l.Pairwise fun a b => zB4 a b = true
theorem yEb {l : List Course} (h : SRt l) : yFt l = true := (zOa l).2 fun j h1 h2 => by
 rw [zz2, zz2, zz5 h2, zz5 (show j - 1 < l.length by omega)];exact (List.pairwise_iff_getElem.1 h.2) (j - 1) j (by omega) h2 (by omega)
theorem yEa {l : List Course} (h : SRt l) {c : Course} (hc : CRt c) {i : Nat} (hi : i <= l.length) (hlo : ∀ j, j < i -> zB4 (l.getD j default) c = true) (hhi : i < l.length -> zB4 c (l.getD i default) = true) : SRt (l.take i ++ c :: l.drop i) := by
 refine ⟨yFj l i c h.1 hc, ?_⟩;have hp := h.2;rw [List.pairwise_append, List.pairwise_cons]
 have lo : ∀ x ∈ l.take i, zB4 x c = true := fun x hx => by
  obtain ⟨j, hj, rfl⟩ := List.mem_take_iff_getElem.1 hx;have := hlo j (by omega)
  rwa [zz2, zz5 (by omega)] at this
 have hi2 : ∀ x ∈ l.drop i, zB4 c x = true := fun x hx => by
  obtain ⟨j, hj, rfl⟩ := List.mem_drop_iff_getElem.1 hx;have h0 := hhi (by omega);rw [zz2, zz5 (by omega)] at h0;by_cases hj0 : j = 0
  ·subst hj0; simpa using h0
  ·exact zFj h0 ((List.pairwise_iff_getElem.1 hp) i (i + j) (by omega) (by omega) (by omega))
 refine ⟨hp.sublist (List.take_sublist _ _), ⟨hi2, hp.sublist (List.drop_sublist _ _)⟩, fun x hx y hy => ?_⟩
 rcases List.mem_cons.1 hy with rfl | hy
 ·exact lo x hx
 ·exact zFj (lo x hx) (hi2 y hy)
theorem zI7 {P : Int -> Prop} {l : List Int} {d : Int} (h : ∀ x ∈ l, P x) (hd : P d) (i : Nat) : P (l.getD i d) := by
 rw [zz2];cases he : l[i]? with
 | none => exact hd
 | some x => exact h x (List.mem_of_getElem? he)
open Go.Proofs Go.RowKit
attribute [local irreducible] Run zAg zAs zH9 zAc SLe OLe
theorem K91h : ∃ G : List Int × Nat -> Course × Nat, (∀ x : List Int × Nat, True -> CRt (G x).1) /\ FnM prog 91 (fun ds os d os' => ∃ x, True /\ ds = [.loc 1000 0] /\ os = [zD0 x.1 x.2] /\ d = zAv (G x).1 /\ os' = [(1000, zD0 x.1 (G x).2)]) := by
 refine zI9 call91 func91 rfl ntmps91 (α := List Int × Nat) (β := Course × Nat) (fun _ => True) (fun _ y => CRt y.1) (fun _ => [.loc 1000 0]) (fun x => [zD0 x.1 x.2]) (fun _ y => zAv y.1) (fun x y => [(1000, zD0 x.1 y.2)]) ?_;rintro ⟨L, k⟩ _;refine ⟨by simp, ?_⟩;have b1 := zA7 L k 6 (by omega);have b2 := zA7 L (nxA L k) 6 (by omega)
 repeat' (first | (refine zD (K' := ?_) (s' := ?_) (fun F w0 fn hE => ?_) ?_; rotate_left 2; focus ((first | apply zB | fail); (repeat' (first | refine wA ?_ | refine zC qS qR ?_ ?_ | refine zO [1000] K90 qR qD qZ qF ?_ ⟨L, _, _, (by decide), rfl, rfl, rfl, rfl⟩ qS ?_ | refine zG K75 qD ?_ ⟨rfl, rfl⟩ qS ?_ | exact qT | exact hE | exact qP | fail)))) | (refine zA3 qS qC qC ?_ ?_ <;> intro hb hc <;> try (simp at hc; done)))
 (refine zU (ds := ?ds5) (⟨(⟨?u2, ?u3⟩, ?u4), ?u5⟩ : {y : Course × Nat // CRt y.1}) qR ?qa5 ?qb5 ?qc5; (case qa5 => (simp only [go_sem]; rfl)); (case' qb5 => exact qE); (case' qc5 => exact qE))
 have hco := zY8 (i := (nxN L (nxA L k) 6).toNat) (by omega);refine ⟨hco, ?_⟩;have hz := zI7 (P := fun x => 1 <= x /\ x <= 8) (l := [1, 1, 1, 2, 2, 3]) (d := 0 + 1) (by decide) (by decide) (nxN L k 6).toNat
 have hz2 : ([1, 1, 1, 2, 2, 3] : List Int).getD (nxN L k 6).toNat 0 = ([1, 1, 1, 2, 2, 3] : List Int).getD (nxN L k 6).toNat (0 + 1) := by
  have hl : (nxN L k 6).toNat < 6 := by omega
  generalize (nxN L k 6).toNat = z at hl
  rcases (show z = 0 \/ z = 1 \/ z = 2 \/ z = 3 \/ z = 4 \/ z = 5 by omega) with rfl | rfl | rfl | rfl | rfl | rfl <;> rfl
 simp only [zGe, zz3, zyf];refine ⟨hco.code, ?_⟩;rw [hz2]; exact hz
theorem yI6 : ∃ G : List Int × Nat -> List Course × Nat, (∀ x : List Int × Nat, True -> SRt (G x).1 /\ 1 <= (G x).1.length /\ (G x).1.length <= 4) /\ FnM prog 142 (fun ds os d os' => ∃ x, True /\ ds = [.loc 1000 0] /\ os = [zD0 x.1 x.2] /\ d = zAj 2 zAv (G x).1 /\ os' = [(1000, zD0 x.1 (G x).2)]) := by
 obtain ⟨G91, g91, K91⟩ := K91h;refine zI9 call142 func142 rfl ntmps142 (α := List Int × Nat) (β := List Course × Nat) (fun _ => True) (fun _ y => SRt y.1 /\ 1 <= y.1.length /\ y.1.length <= 4) (fun _ => [.loc 1000 0]) (fun x => [zD0 x.1 x.2]) (fun _ y => zAj 2 zAv y.1) (fun x y => [(1000, zD0 x.1 y.2)]) ?_;rintro ⟨L, p0⟩ _;refine ⟨by simp, ?_⟩;have b0 := zA7 L p0 3 (by omega);have e2 : IntKind.i64.wrap (1 + nxN L p0 3) = 1 + nxN L p0 3 := by rw [w64]; omega
 repeat' (first | (refine zD (K' := ?_) (s' := ?_) (fun F w0 fn hE => ?_) ?_; rotate_left 2; focus ((first | apply zB | fail); (repeat' (first | refine wA ?_ | refine zO [1000] K90 qR qD qZ qF ?_ ⟨L, _, _, (by decide), rfl, rfl, rfl, rfl⟩ qS ?_ | exact qT | exact hE | fail)))) | (refine zA3 qS qC qC ?_ ?_ <;> intro hb hc <;> try (simp at hc; done)))
 refine zD (fun _ _ _ hE => zX 4 63 2 (fun i => zAv (([] : List Course).getD i default)) rfl rfl rfl hE) ?_;refine zDc [0, 2, 3, 4] (fun x : List Course × Nat × Nat => [(5, .int .i64 x.2.2)]) (fun x => [(1000, zD0 L x.2.1), (0, .acc 63 2 x.1.length (fun i => zAv (x.1.getD i default)))]) (fun x => (x.2.2 <= 4 /\ x.1.length <= x.2.2) /\ SRt x.1 /\ (1 <= x.2.2 -> 1 <= x.1.length)) (fun x => 4 - x.2.2) ([], nxA L p0, 0) (fun x => qS) ?_ qE qE ?_
 ·exact ⟨⟨by simp, by simp⟩, ⟨fun c hc => (by cases hc), List.Pairwise.nil⟩, by simp⟩
 rintro ⟨acc, p, k⟩ n ⟨⟨h1, h2⟩, hco, hne⟩ ih;simp only at h1 h2 hco hne
 repeat' (first | (refine zD (K' := ?_) (s' := ?_) (fun F w0 fn hE => ?_) ?_; rotate_left 2; focus ((first | refine wA ?_ | refine zF qR ?_ | fail); (repeat' (first | refine wA ?_ | refine zO [1000] K91 qR qD qZ qF ?_ ⟨(L, _), trivial, rfl, rfl, rfl, rfl⟩ qS ?_ | exact qT | exact hE | fail)))) | (refine zA3 qS qC qC ?_ ?_ <;> intro hb hc <;> try (simp at hc; done)))
 ·have hC := g91 (L, p) trivial
  refine zDc [0, 2, 3, 4, 5, 6] (fun i : Nat × Unit => [(7, .int .i64 i.1)]) (fun i => []) (fun i => i.1 <= acc.length /\ ∀ j, j < i.1 -> zB4 (acc.getD j default) (G91 (L, p)).1 = true) (fun i => acc.length - i.1) (0, ()) (fun x => qS) ?_ qE qE ?_
  ·exact ⟨zz7 _, fun j hj => absurd hj (zyi j)⟩
  rintro ⟨i, _⟩ n2 ⟨h3, h4⟩ ih2;simp only at h3 h4;have e1 : IntKind.i64.wrap ((i : Int) + 1) = ((i + 1 : Nat) : Int) := by rw [w64]; omega
  repeat' (first | (refine zD (K' := ?_) (s' := ?_) (fun F w0 fn hE => ?_) ?_; rotate_left 2; focus ((first | refine wB ?_ | refine zF qR ?_ | fail); (repeat' (first | refine wB ?_ | refine zC (by simp only [go_sem, e1]; rfl) qR ?_ ?_ | refine zM (by simp only [go_sem, e1]; rfl) qR ?_ ?_ | refine zJ qK qK ?_ | refine yHl (by simp only [go_sem, e1]; rfl) ?_ (by simp only [go_sem, e1]; rfl) ?_ | refine yHo (by simp only [go_sem, e1]; rfl) (by simp only [go_sem, e1]; rfl) ?_ | refine zBv 22 qR (by simp only [go_sem, e1]; rfl) K92 (by simp only [go_sem, e1]; first | done | rfl) (fun hg => ?_) (fun _ => ⟨_, _, rfl, rfl⟩) (by simp only [go_sem, e1]; rfl) ?_ | exact qT | exact hE | exact qP | fail)))) | (refine zA3 qS qC qC ?_ ?_ <;> intro hb hc <;> try (simp at hc; done)))
  ·have hi : i < acc.length := hc.1
   refine zQ ih2 ((i + 1, ())) ?_ ?_ ⟨rfl, qE, qE⟩
   ·refine ⟨by simp only; omega, fun j hj => ?_⟩
    by_cases hji : j = i
    ·subst hji; exact zEz.2 hc.2
    ·exact h4 j (by simp only at hj; omega)
   ·simp only; omega
  ·have e9 : IntKind.i64.wrap ((k : Int) + 1) = ((k + 1 : Nat) : Int) := by rw [w64]; omega
   refine zQ ih ((acc, ?u8, k + 1)) ?_ ?_ ⟨rfl, qE, qE⟩
   ·exact ⟨⟨by simp only; omega, by simp only; omega⟩, hco, fun _ => by simp only; omega⟩
   ·simp only; omega
  ·have hhi : i < acc.length -> zB4 (G91 (L, p)).1 (acc.getD i default) = true := fun hi => by
    rename_i hb1 hc1
    have q1 : zB4 (acc.getD i default) (G91 (L, p)).1 = false := by
     rw [zyr (show (i : Int) < (acc.length : Int) by omega), zyg] at hb1;exact hb1
    have q2 : zD2 (acc.getD i default) (G91 (L, p)).1 = false := by
     rw [zyr (show (i : Int) < (acc.length : Int) by omega), zyg] at hb;exact hb
    exact zSr q1 q2
   refine zQ ih ((acc.take i ++ ⟨?u10, ?u11⟩ :: acc.drop i, ?u12, k + 1)) ?_ ?_ ⟨rfl, qEi, qEi⟩
   ·exact ⟨⟨by simp only; omega, by simp; omega⟩, yEa hco hC h3 h4 hhi, fun _ => by simp; omega⟩
   ·simp only; omega
 ·have hk1 : 1 <= k := by omega
  refine zD (fun _ _ _ hE => zI 0 qS hE) ?_
  repeat' (first | (refine zD (K' := ?_) (s' := ?_) (fun F w0 fn hE => ?_) ?_; rotate_left 2; focus ((first | (show Run _ _ _ _ _ _; first | refine wA ?_ | refine zF qR ?_) | (show zAg _ _ _ _ _ _ _; first | refine wA ?_ | refine zC qS qR ?_ ?_ | refine zBg 22 qR qD ?_ | refine zBh 22 qS qR qD qS ?_ | refine zA5 22 qR qD qS ?_ | refine zBg 36 qR qD ?_ | refine zBh 36 qS qR qD qS ?_ | refine zA5 36 qR qD qS ?_ | refine zY qS qZ qZ (fun bn hbn => ?_) | refine zBt qF qR qS ?_) | (show zAs _ _ _ _ _ _ _ _ _ _; first | refine zM qS qR ?_ ?_ | refine zJ qK qK ?_) | exact qT | exact SLe.refl _ | exact zAc.bool rfl | refine zAc.bool ?_ | refine zAc.int ?_ | refine zAc.str ?_ | exact zAc.pure rfl | exact qM | exact qN | exact qP | fail); (repeat' (first | (show Run _ _ _ _ _ _; first | refine wA ?_ | refine zF qR ?_) | (show zAg _ _ _ _ _ _ _; first | refine wA ?_ | refine zC qS qR ?_ ?_ | refine zBg 22 qR qD ?_ | refine zBh 22 qS qR qD qS ?_ | refine zA5 22 qR qD qS ?_ | refine zBg 36 qR qD ?_ | refine zBh 36 qS qR qD qS ?_ | refine zA5 36 qR qD qS ?_ | refine zY qS qZ qZ (fun bn hbn => ?_) | refine zBt qF qR qS ?_) | (show zAs _ _ _ _ _ _ _ _ _ _; first | refine zM qS qR ?_ ?_ | refine zJ qK qK ?_) | exact qT | exact SLe.refl _ | exact hE | omega | exact zAc.bool rfl | refine zAc.bool ?_ | refine zAc.int ?_ | refine zAc.str ?_ | exact zAc.pure rfl | exact qM | exact qN | exact qP | fail)))) | (refine zA3 qS qC qC ?_ ?_ <;> intro hb hc <;> try (simp at hc; done)))
  (refine zU (ds := ?ds14) (⟨(acc, ?u14), ⟨hco, hne hk1, by simp only; omega⟩⟩ : {y : List Course × Nat // SRt y.1 /\ 1 <= y.1.length /\ y.1.length <= 4}) qR ?qa14 ?qb14 ?qc14; (case qa14 => (simp only [go_sem]; rfl)); (case' qb14 => exact qE); (case' qc14 => exact qE))
end Go.Sx
