/- Lemmas on the judge: P21, P9, P10. -/
import Derived.Test.YtmbocmonhcplhaaGreatP3
import Derived.Test.YtmbocmonhcplhaaGreatP8
import Derived.Test.YtmbocmonhcplhaaGreatS4
set_option linter.all false
set_option maxHeartbeats 20000000
set_option maxRecDepth 8000
namespace Go.Sx
open Go.Proofs Tryz
abbrev itC (x : Item) : Course := ⟨x.Term, x.Code⟩
def IRt (l : List Item) : Prop := l.Pairwise fun a b => zB4 (itC a) (itC b) = true
theorem zYg {l : List Item} (h : IRt l) {c : Item} {i : Nat} (hlo : 0 < i -> i <= l.length -> zB4 (itC (l.getD (i - 1) default)) (itC c) = true) (hi : i <= l.length) (hhi : ∀ j, i <= j -> j < l.length -> zB4 (itC c) (itC (l.getD j default)) = true) : IRt (l.take i ++ c :: l.drop i) := by
 have hp := h;unfold IRt at hp |-;rw [List.pairwise_append, List.pairwise_cons]
 have lo : ∀ x ∈ l.take i, zB4 (itC x) (itC c) = true := fun x hx => by
  obtain ⟨j, hj, rfl⟩ := List.mem_take_iff_getElem.1 hx;have h0 := hlo (by omega) hi;rw [zJp l (by omega)] at h0;by_cases hji : j = i - 1
  ·subst hji; exact h0
  ·exact zFj (List.pairwise_iff_getElem.1 hp j (i - 1) (by omega) (by omega) (by omega)) h0
 have hi2 : ∀ x ∈ l.drop i, zB4 (itC c) (itC x) = true := fun x hx => by
  obtain ⟨j, hj, rfl⟩ := List.mem_drop_iff_getElem.1 hx;have h0 := hhi (i + j) (by omega) (by omega)
  rwa [zJp l (by omega)] at h0
 refine ⟨hp.sublist (List.take_sublist _ _), ⟨hi2, hp.sublist (List.drop_sublist _ _)⟩, fun x hx y hy => ?_⟩
 rcases List.mem_cons.1 hy with rfl | hy
 ·exact lo x hx
 ·exact zFj (lo x hx) (hi2 y hy)
theorem yDa {l : List Item} (h : IRt l) {y : Item} {i : Nat} (h2 : ∀ j, i <= j -> j < l.length -> zB4 (itC (l.getD j default)) (itC y) = false) (hb : (decide ((i : Int) < (l.length : Int)) && ((l.getD i default).Term == y.Term && (l.getD i default).Code == y.Code)) = false) : ∀ j, i <= j -> j < l.length -> zB4 (itC y) (itC (l.getD j default)) = true := fun j h3 h4 => by
 rw [zyr (by omega), zyg] at hb;have h5 := zSr (h2 i (zyj _) (by omega)) hb;by_cases hji : j = i
 ·subst hji; exact h5
 ·exact zFj h5 (yHt h (by omega) h4)
theorem yIa {a y : Item} (hb : (decide (y.Term < a.Term) || a.Term == y.Term && !Op.bytesLess a.Code.toList y.Code.toList) = false) : zB4 (itC a) (itC y) = true := by
 rw [zEz];simp only [Bool.or_eq_false_iff, decide_eq_false_iff_not, Bool.and_eq_false_iff, beq_eq_false_iff_ne, Bool.not_eq_false'] at hb;obtain ⟨h1, h2⟩ := hb
 rcases h2 with h2 | h2
 ·exact .inl (by show a.Term < y.Term; omega)
 ·by_cases h3 : a.Term = y.Term
  ·exact .inr ⟨h3, h2⟩
  ·exact .inl (by show a.Term < y.Term; omega)
theorem yH9 {a y : Item} (hc : y.Term < a.Term \/ a.Term = y.Term /\ Op.bytesLess a.Code.toList y.Code.toList = false) : zB4 (itC a) (itC y) = false := by
 cases h : zB4 (itC a) (itC y)
 ·rfl
 ·rw [zEz] at h
  rcases hc with hc | ⟨h1, h2⟩ <;> rcases h with h | ⟨h3, h4⟩
  ·exact absurd h (by show ¬ a.Term < y.Term; omega)
  ·exact absurd h3 (by show ¬ a.Term = y.Term; omega)
  ·exact absurd h (by show ¬ a.Term < y.Term; omega)
  ·rw [h2] at h4; cases h4
theorem zX1 {l : List Item} {i : Nat} {y : Item} : ∀ z ∈ l.take i ++ y :: l.drop i, z ∈ l \/ z = y := fun z hz => by
 rcases List.mem_append.1 hz with h | h
 ·exact .inl (List.mem_of_mem_take h)
 ·rcases List.mem_cons.1 h with h | h
  ·exact .inr h
  ·exact .inl (List.mem_of_mem_drop h)
open Go.Proofs Go.RowKit
attribute [local irreducible] Run zAg zAs zH9 zAc SLe OLe
theorem K78h : ∃ G : List Item × Item -> List Item, (∀ x : List Item × Item, (x.1.length <= 1000 /\ IRt x.1) -> ((G x).length <= x.1.length + 1 /\ IRt (G x)) /\ ∀ y ∈ G x, y ∈ x.1 \/ y = x.2) /\ FnOK prog 78 (fun ds d => ∃ x, (x.1.length <= 1000 /\ IRt x.1) /\ ds = [zAj 2 zCv x.1, zCv x.2] /\ d = zAj 2 zCv (G x)) := by
 refine zEg call78 func78 rfl ntmps78 (α := List Item × Item) (β := List Item) (fun x => x.1.length <= 1000 /\ IRt x.1) (fun x y => (y.length <= x.1.length + 1 /\ IRt y) /\ ∀ z ∈ y, z ∈ x.1 \/ z = x.2) (fun x => [zAj 2 zCv x.1, zCv x.2]) (fun _ y => zAj 2 zCv y) ?_;rintro ⟨l, y⟩ ⟨hl, hs⟩;simp only at hl hs;refine ⟨by simp, ?_⟩
 repeat' (first | (refine zD (K' := ?_) (s' := ?_) (fun F w0 fn hE => ?_) ?_; rotate_left 2; focus ((first | apply zB | fail); (repeat' (first | refine wA ?_ | exact qT | exact hE | fail)))) | (refine zA3 qS qC qC ?_ ?_ <;> intro hb hc <;> try (simp at hc; done)))
 refine zDc [0, 3, 4] (fun i : Nat => [(5, .int .i64 i)]) (fun i => []) (fun i => i <= l.length /\ ∀ j, i <= j -> j < l.length -> zB4 (itC (l.getD j default)) (itC y) = false) (fun i => i) l.length (fun x => qS) ?_ qE qE ?_
 ·exact ⟨zyj _, fun j h1 h2 => absurd h2 (by omega)⟩
 rintro i n ⟨h1, h2⟩ ih;have e0 : 0 < i -> IntKind.i64.wrap ((i : Int) - 1) = ((i - 1 : Nat) : Int) := fun h => by rw [w64]; omega
 by_cases hz : i = 0
 ·subst hz
  repeat' (first | (refine zD (K' := ?_) (s' := ?_) (fun F w0 fn hE => ?_) ?_; rotate_left 2; focus ((first | refine wA ?_ | refine zF qR ?_ | fail); (repeat' (first | refine wA ?_ | refine zC qS qR ?_ ?_ | refine yCx qS qS ?_ | refine zM qS qR ?_ ?_ | refine zJ qK qK ?_ | refine zF3 qS ?_ qS ?_ | exact qT | exact hE | exact qP | fail)))) | (refine zA3 qS qC qC ?_ ?_ <;> intro hb hc <;> try (simp at hc; done)))
  ·(refine zR (ds := ?ds1) (⟨l, ⟨⟨Nat.le_succ _, hs⟩, fun z hz => .inl hz⟩⟩ : {z : List Item // (z.length <= l.length + 1 /\ IRt z) /\ ∀ x ∈ z, x ∈ l \/ x = y}) qR ?qa1 ?qb1; (case qa1 => (simp only [go_sem]; rfl)); case' qb1 => (refine zAc.le qZ ?_; exact qE))
  ·have hh := yDa hs h2 hb
   refine zD (fun _ _ _ hE => zK 4 qR (OLe.cat zCv l y (i := 0) h1) hE) ?_;refine zD (fun _ _ _ hE => zI 4 qS hE) ?_
   (refine zR (ds := ?ds2) (⟨l.take 0 ++ y :: l.drop 0, ⟨⟨by simp, zYg hs (fun h => absurd h (by omega)) h1 hh⟩, zX1⟩⟩ : {z : List Item // (z.length <= l.length + 1 /\ IRt z) /\ ∀ x ∈ z, x ∈ l \/ x = y}) qR ?qa2 ?qb2; (case qa2 => (simp only [go_sem]; rfl)); case' qb2 => (refine zAc.le qZ ?_; exact qE))
 ·have e1 := e0 (by omega)
  repeat' (first | (refine zD (K' := ?_) (s' := ?_) (fun F w0 fn hE => ?_) ?_; rotate_left 2; focus ((first | refine wB ?_ | refine zF qR ?_ | fail); (repeat' (first | refine wB ?_ | refine yCx (by simp only [go_sem, e1, zya]; rfl) (by simp only [go_sem, e1, zya]; rfl) ?_ | refine zC (by simp only [go_sem, e1, zya]; rfl) qR ?_ ?_ | refine zM (by simp only [go_sem, e1, zya]; rfl) qR ?_ ?_ | refine zJ qK qK ?_ | refine zF3 (by simp only [go_sem, e1, zya]; rfl) ?_ (by simp only [go_sem, e1, zya]; rfl) ?_ | exact qT | exact hE | exact qP | fail)))) | (refine zA3 qS qC qC ?_ ?_ <;> intro hb hc <;> try (simp at hc; done)))
  ·refine zQ ih ((i - 1)) ?_ ?_ ⟨rfl, qE, qE⟩
   ·refine ⟨by omega, fun j h3 h4 => ?_⟩
    by_cases hji : j = i - 1
    ·subst hji; exact yH9 hc.2
    ·exact h2 j (by omega) h4
   ·omega
  ·(refine zR (ds := ?ds4) (⟨l, ⟨⟨Nat.le_succ _, hs⟩, fun z hz => .inl hz⟩⟩ : {z : List Item // (z.length <= l.length + 1 /\ IRt z) /\ ∀ x ∈ z, x ∈ l \/ x = y}) qR ?qa4 ?qb4; (case qa4 => (simp only [go_sem]; rfl)); case' qb4 => (refine zAc.le qZ ?_; exact qE))
  ·have hh := yDa hs h2 hb
   rename_i hb1 hc1;rw [zyr (show (0 : Int) < (i : Int) by omega), zyg] at hb1;have hlo := yIa hb1;refine zD (fun _ _ _ hE => zK 4 qR (OLe.cat zCv l y (i := i) h1) hE) ?_;refine zD (fun _ _ _ hE => zI 4 qS hE) ?_
   (refine zR (ds := ?ds5) (⟨l.take i ++ y :: l.drop i, ⟨⟨by simp; omega, zYg hs (fun _ _ => hlo) h1 hh⟩, zX1⟩⟩ : {z : List Item // (z.length <= l.length + 1 /\ IRt z) /\ ∀ x ∈ z, x ∈ l \/ x = y}) qR ?qa5 ?qb5; (case qa5 => (simp only [go_sem]; rfl)); case' qb5 => (refine zAc.le qZ ?_; exact qE))
end Go.Sx
namespace Go.Sx
open Go.Proofs Tryz Go.RowKit
attribute [local irreducible] Run zAg zAs OpT zAc SLe OLe
@[go_sem] def cC (c : Case) : List SD := zJu c.Programme ++ [.int .i64 c.Scale.Worst, .int .i64 c.Scale.Best, .int .i64 c.Scale.Pass, zAj 8 zCk c.Has, .int .i64 c.First, .int .i64 c.Terms, zAj 5 zAt c.Offers, zAj 2 zCv c.Items, .int .i64 c.Most, .int .i64 c.Day]
@[go_sem] def eP (c : Case) (l : List Offer) : SD := .fp (cC c ++ [zAj 5 zAt l, .any])
@[go_sem] def eD (i o : Nat) : SD := .fp [.int .u16 (i : Int), .int .u16 (o : Int)]
theorem K220 : FnOK prog 220 (fun ds d => ∃ (a : Ach) (c : Case) (l : List Offer) (code : ByteArray), ds = [zCk a, .fp [eP c l], .fp [eStr code]] /\ d = .bool ((a.Course.School == c.Programme.School) && (a.Course.Code == code))) := by
 refine zAb call220 func220 rfl ntmps220 ?_;rintro ds d ⟨a, c, l, code, rfl, rfl⟩;refine ⟨by simp, fun w0 => ?_⟩
 repeat' (first | refine wA ?_ | refine zC qS qR ?_ ?_ | refine zM qS qR ?_ ?_ | refine zJ qK qK ?_ | refine zE qR ?_ | exact qT | exact zAc.bool rfl | exact qP | fail)
theorem yKs : FnOK prog 181 (fun ds d => ∃ (c : Case) (l : List Offer) (code : ByteArray), ds = [eP c l, eStr code] /\ d = .bool (zOc c code)) := by
 refine zAb call181 func181 rfl ntmps181 ?_;rintro ds d ⟨c, l, code, rfl, rfl⟩;refine ⟨by simp, fun w0 => ?_⟩;have hv : ∀ i, i < c.Has.length -> FnV prog 220 [.fp [eP c l], .fp [eStr code]] [zCk (c.Has.getD i default)] (.bool (((c.Has.getD i default).Course.School == c.Programme.School) && ((c.Has.getD i default).Course.Code == code))) := fun i _ => ⟨_, K220, _, _, _, _, rfl, rfl⟩;rw [zTk]
 repeat' (first | refine zBc 0 qS ?_ | refine zBc 1 qS ?_ | refine wA ?_ | refine zG K57 qD ?_ ⟨c.Has, 220, [.fp [eP c l], .fp [eStr code]], (fun a => (a.Course.School == c.Programme.School) && (a.Course.Code == code)), hv, rfl, rfl⟩ qS ?_ | refine zE qR ?_ | exact qT | exact zAc.bool rfl | fail)
def yGy (c : Case) (l : List Offer) (k j : Nat) : Bool := (c.Items.getD k default).Code == (c.Items.getD j default).Code || ((c.Items.getD k default).Term == (c.Items.getD j default).Term && zLu (l.getD j default) (l.getD k default))
def clK (c : Case) (l : List Offer) (i k : Nat) : Bool := i.testBit k && (zOc c (c.Items.getD k default).Code || (List.range k).any fun j => i.testBit j && yGy c l k j)
def zT3 (c : Case) (l : List Offer) (i : Nat) : Bool := (List.range c.Items.length).any (clK c l i)
theorem zJx {n : Nat} {p : Nat -> Bool} {k : Nat} (hk : k < n) (h : p k = true) : (List.range n).any p = true := List.any_eq_true.2 ⟨k, List.mem_range.2 hk, h⟩
theorem zHk {n k : Nat} {p : Nat -> Bool} (hk : n <= k) (h : ∀ j, j < k -> p j = false) : (List.range n).any p = false := (zT9 _).2 fun j hj => h j (by omega)
theorem zCh {k : Nat} {p : Nat -> Bool} (h : ∀ j, j < k -> p j = false) (hk : p k = false) : ∀ j, j < k + 1 -> p j = false := fun j hj => by
 by_cases hjk : j = k
 ·rw [hjk]; exact hk
 ·exact h j (by omega)
theorem K132 : FnOK prog 132 (fun ds d => ∃ (c : Case) (l : List Offer) (i o : Nat), (c.Items.length <= 4 /\ l.length = c.Items.length /\ i < 65536 /\ o < 65536) /\ ds = [eP c l, zRq i o] /\ d = .bool (zT3 c l i)) := by
 refine zAb call132 func132 rfl ntmps132 ?_;rintro ds d ⟨c, l, i, o, ⟨h4, hl, hi, ho⟩, rfl, rfl⟩;refine ⟨by simp, fun w0 => ?_⟩
 repeat' (first | refine wA ?_ | exact qT | fail)
 refine zH [0, 3, 13, 14] (fun x : Nat × Unit => [(15, .int .i64 x.1)]) (fun x => []) (fun x => x.1 <= c.Items.length /\ ∀ j, j < x.1 -> clK c l i j = false) (fun x => c.Items.length - x.1) (0, ()) (fun x => qS) ?_ qL qL ?_
 ·exact ⟨zz7 _, fun j h => absurd h (zyi j)⟩
 rintro ⟨k, _⟩ ⟨g1, g2⟩;simp only at g1 g2
 repeat' (first | refine wA ?_ | exact qT | fail)
 (refine zAa qS qC qC ?_ ?_ <;> intro hb hc <;> try (simp at hc; done))
 ·have hk : k < c.Items.length := by assumption
  have hcK : clK c l i k = (i.testBit k && (zOc c (c.Items.getD k default).Code || (List.range k).any fun j => i.testBit j && yGy c l k j)) := rfl
  repeat' (first | refine wA ?_ | refine zC qS qR ?_ ?_ | refine zG K71 qD ?_ ⟨i, k, ⟨hi, by omega⟩, rfl, rfl⟩ qS ?_ | exact qT | exact qP | fail)
  cases hb : i.testBit k
  ·rw [hb, Bool.false_and] at hcK
   repeat' (first | (show Run _ _ _ _ _ _; first | refine wB ?_ | refine zE qR ?_ | refine zBj qR qR qR ?_ ?_ | refine zCd qR qR ?_ | refine zT qR (by simp only [go_sem, hb]; rfl) ?_ | refine zT qR qS ?_ | refine zV qR (by simp only [go_sem, hb]; rfl) ?_ ?_ | refine zV qR qS ?_ ?_ | refine zBr qR ?_ ?_ | refine zBu qR (by simp only [go_sem, hb]; rfl) ?_ ?_ | refine zBu qR qS ?_ ?_ | refine zF qR ?_) | (show zAg _ _ _ _ _ _ _; first | apply zA | refine zC (by simp only [go_sem, hb]; rfl) qR ?_ ?_ | refine zC qS qR ?_ ?_ | refine zBg 46 qR (by simp only [go_sem, hb]; first | done | rfl) ?_ | refine zBg 46 qR qD ?_ | refine zBh 46 (by simp only [go_sem, hb]; rfl) qR (by simp only [go_sem, hb]; first | done | rfl) (by simp only [go_sem, hb]; rfl) ?_ | refine zBh 46 qS qR qD qS ?_ | refine zA5 46 qR (by simp only [go_sem, hb]; first | done | rfl) (by simp only [go_sem, hb]; rfl) ?_ | refine zA5 46 qR qD qS ?_ | refine zBg 52 qR (by simp only [go_sem, hb]; first | done | rfl) ?_ | refine zBg 52 qR qD ?_ | refine zBh 52 (by simp only [go_sem, hb]; rfl) qR (by simp only [go_sem, hb]; first | done | rfl) (by simp only [go_sem, hb]; rfl) ?_ | refine zBh 52 qS qR qD qS ?_ | refine zA5 52 qR (by simp only [go_sem, hb]; first | done | rfl) (by simp only [go_sem, hb]; rfl) ?_ | refine zA5 52 qR qD qS ?_ | refine zBg 58 qR (by simp only [go_sem, hb]; first | done | rfl) ?_ | refine zBg 58 qR qD ?_ | refine zBh 58 (by simp only [go_sem, hb]; rfl) qR (by simp only [go_sem, hb]; first | done | rfl) (by simp only [go_sem, hb]; rfl) ?_ | refine zBh 58 qS qR qD qS ?_ | refine zA5 58 qR (by simp only [go_sem, hb]; first | done | rfl) (by simp only [go_sem, hb]; rfl) ?_ | refine zA5 58 qR qD qS ?_ | refine zY (by simp only [go_sem, hb]; rfl) (by simp only [go_sem, hb]) (by simp only [go_sem, hb]) (fun bn hbn => ?_) | refine zY qS qZ qZ (fun bn hbn => ?_) | refine zBt (by first | (simp only [go_sem, hb]; done) | (simp only [go_sem, hb]; rfl)) qR (by simp only [go_sem, hb]; rfl) ?_ | refine zBt qF qR qS ?_) | (show zAs _ _ _ _ _ _ _ _ _ _; first | refine zM (by simp only [go_sem, hb]; rfl) qR ?_ ?_ | refine zM qS qR ?_ ?_ | refine zJ qK qK ?_) | exact qT | exact SLe.refl _ | omega | exact zAc.bool rfl | refine zAc.bool ?_ | refine zAc.int ?_ | refine zAc.str ?_ | exact zAc.pure rfl | (show SLe _ _; simp only [go_sem, hb]; exact qL) | exact qM | (show zEu _ _; simp only [go_sem, hb]; exact qL) | exact qN | exact qP | fail)
   (refine zAa qS qC qC ?_ ?_ <;> intro hb hc <;> try (simp at hc; done))
   repeat' (first | refine wA ?_ | refine zF qR ?_ | exact qT | fail)
   refine zL (k + 1, ()) ?_ ?_ ⟨rfl, qL, qL⟩
   ·exact ⟨by simp only; omega, zCh g2 hcK⟩
   ·show c.Items.length - (k + 1) < c.Items.length - k
    omega
  rw [hb, zyg] at hcK
  repeat' (first | (show Run _ _ _ _ _ _; first | refine wB ?_ | refine zE qR ?_ | refine zBj qR qR qR ?_ ?_ | refine zCd qR qR ?_ | refine zT qR (by simp only [go_sem, hb]; rfl) ?_ | refine zT qR qS ?_ | refine zV qR (by simp only [go_sem, hb]; rfl) ?_ ?_ | refine zV qR qS ?_ ?_ | refine zBr qR ?_ ?_ | refine zBu qR (by simp only [go_sem, hb]; rfl) ?_ ?_ | refine zBu qR qS ?_ ?_ | refine zF qR ?_) | (show zAg _ _ _ _ _ _ _; first | apply zA | refine zC (by simp only [go_sem, hb]; rfl) qR ?_ ?_ | refine zC qS qR ?_ ?_ | refine zBg 46 qR (by simp only [go_sem, hb]; first | done | rfl) ?_ | refine zBg 46 qR qD ?_ | refine zBh 46 (by simp only [go_sem, hb]; rfl) qR (by simp only [go_sem, hb]; first | done | rfl) (by simp only [go_sem, hb]; rfl) ?_ | refine zBh 46 qS qR qD qS ?_ | refine zA5 46 qR (by simp only [go_sem, hb]; first | done | rfl) (by simp only [go_sem, hb]; rfl) ?_ | refine zA5 46 qR qD qS ?_ | refine zBg 52 qR (by simp only [go_sem, hb]; first | done | rfl) ?_ | refine zBg 52 qR qD ?_ | refine zBh 52 (by simp only [go_sem, hb]; rfl) qR (by simp only [go_sem, hb]; first | done | rfl) (by simp only [go_sem, hb]; rfl) ?_ | refine zBh 52 qS qR qD qS ?_ | refine zA5 52 qR (by simp only [go_sem, hb]; first | done | rfl) (by simp only [go_sem, hb]; rfl) ?_ | refine zA5 52 qR qD qS ?_ | refine zBg 58 qR (by simp only [go_sem, hb]; first | done | rfl) ?_ | refine zBg 58 qR qD ?_ | refine zBh 58 (by simp only [go_sem, hb]; rfl) qR (by simp only [go_sem, hb]; first | done | rfl) (by simp only [go_sem, hb]; rfl) ?_ | refine zBh 58 qS qR qD qS ?_ | refine zA5 58 qR (by simp only [go_sem, hb]; first | done | rfl) (by simp only [go_sem, hb]; rfl) ?_ | refine zA5 58 qR qD qS ?_ | refine zY (by simp only [go_sem, hb]; rfl) (by simp only [go_sem, hb]) (by simp only [go_sem, hb]) (fun bn hbn => ?_) | refine zY qS qZ qZ (fun bn hbn => ?_) | refine zBt (by first | (simp only [go_sem, hb]; done) | (simp only [go_sem, hb]; rfl)) qR (by simp only [go_sem, hb]; rfl) ?_ | refine zBt qF qR qS ?_) | (show zAs _ _ _ _ _ _ _ _ _ _; first | refine zM (by simp only [go_sem, hb]; rfl) qR ?_ ?_ | refine zM qS qR ?_ ?_ | refine zJ qK qK ?_) | exact qT | exact SLe.refl _ | omega | exact zAc.bool rfl | refine zAc.bool ?_ | refine zAc.int ?_ | refine zAc.str ?_ | exact zAc.pure rfl | (show SLe _ _; simp only [go_sem, hb]; exact qL) | exact qM | (show zEu _ _; simp only [go_sem, hb]; exact qL) | exact qN | exact qP | fail)
  (refine zAa qS qC qC ?_ ?_ <;> intro hb hc <;> try (simp at hc; done))
  cases ho2 : zOc c (c.Items.getD k default).Code
  ·rw [ho2, Bool.false_or] at hcK
   repeat' (first | refine wB ?_ | refine zC (by simp only [go_sem, ho2]; rfl) qR ?_ ?_ | refine zG yKs (by simp only [go_sem, ho2]; first | done | rfl) ?_ ⟨c, l, _, rfl, rfl⟩ (by simp only [go_sem, ho2]; rfl) ?_ | exact qT | fail)
   (refine zAa qS qC qC ?_ ?_ <;> intro hb hc <;> try (simp at hc; done))
   repeat' (first | refine wA ?_ | refine zC qS qR ?_ ?_ | exact rfl | exact qP | fail)
   refine zH [0, 3, 5, 6, 13, 14, 15, 35, 36] (fun x : Nat × Unit × Unit => [(37, .int .i64 x.1)]) (fun x => []) (fun x => x.1 <= k /\ ∀ j, j < x.1 -> (i.testBit j && yGy c l k j) = false) (fun x => k - x.1) (0, (), ()) (fun x => qS) ?_ qL qL ?_
   ·exact ⟨zz7 _, fun j h => absurd h (zyi j)⟩
   rintro ⟨j, _, _⟩ ⟨q1, q2⟩;simp only at q1 q2
   repeat' (first | refine wA ?_ | exact qT | fail)
   (refine zAa qS qC qC ?_ ?_ <;> intro hb hc <;> try (simp at hc; done))
   ·have hj : j < k := by assumption
    have hq : (i.testBit j && yGy c l k j) = (i.testBit j && ((c.Items.getD k default).Code == (c.Items.getD j default).Code || ((c.Items.getD k default).Term == (c.Items.getD j default).Term && (l.getD j default).Slots.any fun n => (l.getD k default).Slots.any fun y => n == y))) := rfl
    repeat' (first | refine wA ?_ | refine zC qS qR ?_ ?_ | refine zM qS qR ?_ ?_ | refine zJ qK qK ?_ | refine zP K71 qD ?_ ⟨i, j, ⟨hi, by omega⟩, rfl, rfl⟩ qS ?_ | refine zBv 58 qR qS K83 qD (fun hg => ?_) (fun _ => ⟨l.getD j default, l.getD k default, rfl, rfl⟩) qS ?_ | exact qT | exact qP | fail)
    (refine zAa qS qC qC ?_ ?_ <;> intro hb hc <;> try (simp at hc; done))
    ·have hF : zT3 c l i = true := zJx hk (hcK.trans (zJx hj (hq.trans hb)))
     rw [hF]
     repeat' (first | refine wA ?_ | refine zE qR ?_ | exact qT | exact zAc.bool rfl | fail)
    ·repeat' (first | refine wA ?_ | exact qT | fail)
     refine zL (j + 1, (), ()) ?_ ?_ ⟨rfl, qL, qL⟩
     ·exact ⟨by simp only; omega, zCh q2 (hq.trans hb)⟩
     ·show k - (j + 1) < k - j
      omega
   ·have hF : clK c l i k = false := by rw [hcK]; exact zHk (by omega) q2
    repeat' (first | refine wA ?_ | refine zF qR ?_ | exact qT | fail)
    refine zL (k + 1, ()) ?_ ?_ ⟨rfl, qL, qL⟩
    ·exact ⟨by simp only; omega, zCh g2 hF⟩
    ·show c.Items.length - (k + 1) < c.Items.length - k
     omega
  ·rw [ho2, Bool.true_or] at hcK
   have hF : zT3 c l i = true := zJx hk hcK;rw [hF]
   repeat' (first | refine wB ?_ | refine zC (by simp only [go_sem, ho2]; rfl) qR ?_ ?_ | refine zG yKs (by simp only [go_sem, ho2]; first | done | rfl) ?_ ⟨c, l, _, rfl, rfl⟩ (by simp only [go_sem, ho2]; rfl) ?_ | exact qT | fail)
   (refine zAa qS qC qC ?_ ?_ <;> intro hb hc <;> try (simp at hc; done))
   repeat' (first | refine wA ?_ | refine zE qR ?_ | exact qT | exact zAc.bool rfl | fail)
 ·have hF : zT3 c l i = false := zHk (by omega) g2
  rw [hF]
  repeat' (first | refine wA ?_ | refine zE qR ?_ | refine zF qR ?_ | exact qT | exact zAc.bool rfl | fail)
  all_goals skip
def zZf (c : Case) (o : Nat) (term : Int) (code : ByteArray) : Bool := (List.range c.Items.length).any fun j => ((c.Items.getD j default).Code == code && decide ((c.Items.getD j default).Term < term)) && !o.testBit j
theorem K182 : FnOK prog 182 (fun ds d => ∃ (term : Int) (code : ByteArray) (c : Case) (l : List Offer) (i o : Nat), (c.Items.length <= 4 /\ o < 65536) /\ ds = [eInt term, eStr code, .fp [eP c l], eD i o] /\ d = .bool (zZf c o term code)) := by
 refine zAb call182 func182 rfl ntmps182 ?_;rintro ds d ⟨term, code, c, l, i, o, ⟨h4, ho⟩, rfl, rfl⟩;refine ⟨by simp, fun w0 => ?_⟩
 repeat' (first | refine wA ?_ | exact qT | fail)
 refine zH [0, 1, 2, 3, 13, 14] (fun x : Nat × Unit => [(15, .int .i64 x.1)]) (fun x => []) (fun x => x.1 <= c.Items.length /\ ∀ j, j < x.1 -> (((c.Items.getD j default).Code == code && decide ((c.Items.getD j default).Term < term)) && !o.testBit j) = false) (fun x => c.Items.length - x.1) (0, ()) (fun x => qS) ?_ qL qL ?_
 ·exact ⟨zz7 _, fun j h => absurd h (zyi j)⟩
 rintro ⟨k, _⟩ ⟨g1, g2⟩;simp only at g1 g2
 repeat' (first | refine wA ?_ | exact qT | fail)
 (refine zAa qS qC qC ?_ ?_ <;> intro hb hc <;> try (simp at hc; done))
 ·have hk : k < c.Items.length := by assumption
  repeat' (first | refine wA ?_ | refine zC qS qR ?_ ?_ | refine zN 30 qR qS K71 qD (fun hg => ?_) (fun _ => ⟨o, k, ⟨ho, by omega⟩, rfl, rfl⟩) qS ?_ | exact rfl | exact qP | fail)
  (refine zAa qS qC qC ?_ ?_ <;> intro hb hc <;> try (simp at hc; done))
  ·have hF : zZf c o term code = true := zJx hk hb
   rw [hF]
   repeat' (first | refine wA ?_ | refine zE qR ?_ | exact qT | exact zAc.bool rfl | fail)
  ·repeat' (first | refine wA ?_ | exact qT | fail)
   refine zL (k + 1, ()) ?_ ?_ ⟨rfl, qL, qL⟩
   ·exact ⟨by simp only; omega, zCh g2 hb⟩
   ·show c.Items.length - (k + 1) < c.Items.length - k
    omega
 ·have hF : zZf c o term code = false := zHk (by omega) g2
  rw [hF]
  repeat' (first | refine wA ?_ | refine zE qR ?_ | refine zF qR ?_ | exact qT | exact zAc.bool rfl | fail)
theorem K183 : FnOK prog 183 (fun ds d => ∃ (code : ByteArray) (c : Case) (l : List Offer) (i o : Nat) (x : Item), (c.Items.length <= 4 /\ o < 65536) /\ ds = [eStr code, .fp [eP c l], .fp [.fn 182 [.fp [eP c l], eD i o]], .fp [.int .i64 x.Term, .str x.Code]] /\ d = .bool (!zOc c code && !zZf c o x.Term code)) := by
 refine zAb call183 func183 rfl ntmps183 ?_;rintro ds d ⟨code, c, l, i, o, x, ⟨h4, ho⟩, rfl, rfl⟩;refine ⟨by simp, fun w0 => ?_⟩;have hv : FnV prog 182 [.fp [eP c l], eD i o] [eInt x.Term, eStr code] (.bool (zZf c o x.Term code)) := ⟨_, K182, _, _, _, _, _, _, ⟨h4, ho⟩, rfl, rfl⟩
 repeat' (first | refine wA ?_ | refine zC qS qR ?_ ?_ | refine zG yKs qD ?_ ⟨c, l, _, rfl, rfl⟩ qS ?_ | refine zMi 10 qR qS (hv) qZ qZ (fun hg => ?_) qS ?_ | refine zE qR ?_ | exact qT | exact zAc.bool rfl | exact qP | fail)
def ndK (c : Case) (l : List Offer) (i o k : Nat) : Bool := i.testBit k && (l.getD k default).Needs.any fun n => !zOc c n && !zZf c o (c.Items.getD k default).Term n
def ndF (c : Case) (l : List Offer) (i o : Nat) : Bool := (List.range c.Items.length).any (ndK c l i o)
theorem K133 : FnOK prog 133 (fun ds d => ∃ (c : Case) (l : List Offer) (i o : Nat), (c.Items.length <= 4 /\ l.length = c.Items.length /\ i < 65536 /\ o < 65536) /\ ds = [eP c l, zRq i o] /\ d = .bool (ndF c l i o)) := by
 refine zAb call133 func133 rfl ntmps133 ?_;rintro ds d ⟨c, l, i, o, ⟨h4, hl, hi, ho⟩, rfl, rfl⟩;refine ⟨by simp, fun w0 => ?_⟩
 repeat' (first | refine zBc 0 qS ?_ | refine zBc 1 qS ?_ | refine zBc 2 qS ?_ | refine wA ?_ | exact qT | fail)
 refine zH [2, 3, 5, 14, 15] (fun x : Nat × Unit => [(16, .int .i64 x.1)]) (fun x => []) (fun x => x.1 <= c.Items.length /\ ∀ j, j < x.1 -> ndK c l i o j = false) (fun x => c.Items.length - x.1) (0, ()) (fun x => qS) ?_ qL qL ?_
 ·exact ⟨zz7 _, fun j h => absurd h (zyi j)⟩
 rintro ⟨k, _⟩ ⟨g1, g2⟩;simp only at g1 g2
 repeat' (first | refine wA ?_ | exact qT | fail)
 (refine zAa qS qC qC ?_ ?_ <;> intro hb hc <;> try (simp at hc; done))
 ·have hk : k < c.Items.length := by assumption
  have hv : ∀ j, j < (l.getD k default).Needs.length -> FnV prog 183 [.fp [eP c l], .fp [.fn 182 [.fp [eP c l], eD i o]], .fp [.int .i64 (c.Items.getD k default).Term, .str (c.Items.getD k default).Code]] [eStr ((l.getD k default).Needs.getD j default)] (.bool (!zOc c ((l.getD k default).Needs.getD j default) && !zZf c o (c.Items.getD k default).Term ((l.getD k default).Needs.getD j default))) := fun j _ => ⟨_, K183, _, _, _, _, _, _, ⟨h4, ho⟩, rfl, rfl⟩
  repeat' (first | refine zBc 3 qS ?_ | refine wA ?_ | refine zC qS qR ?_ ?_ | refine zG K71 qD ?_ ⟨i, k, ⟨hi, by omega⟩, rfl, rfl⟩ qS ?_ | refine zN 26 qR qS K176 qD (fun hg => ?_) (fun _ => ⟨(l.getD k default).Needs, 183, _, (fun n => !zOc c n && !zZf c o (c.Items.getD k default).Term n), hv, rfl, rfl⟩) qS ?_ | exact qT | exact qP | fail)
  (refine zAa qS qC qC ?_ ?_ <;> intro hb hc <;> try (simp at hc; done))
  ·have hF : ndF c l i o = true := zJx hk hb
   rw [hF]
   repeat' (first | refine wA ?_ | refine zE qR ?_ | exact qT | exact zAc.bool rfl | fail)
  ·repeat' (first | refine wA ?_ | exact qT | fail)
   refine zL (k + 1, ()) ?_ ?_ ⟨rfl, qL, qL⟩
   ·exact ⟨by simp only; omega, zCh g2 hb⟩
   ·show c.Items.length - (k + 1) < c.Items.length - k
    omega
 ·have hF : ndF c l i o = false := zHk (by omega) g2
  rw [hF]
  repeat' (first | refine wA ?_ | refine zE qR ?_ | refine zF qR ?_ | exact qT | exact zAc.bool rfl | fail)
def plK (l : List Offer) (i k : Nat) : Bool := i.testBit k && (l.getD k default).Places == 0
def plF (c : Case) (l : List Offer) (i : Nat) : Bool := (List.range c.Items.length).any (plK l i)
theorem K135 : FnOK prog 135 (fun ds d => ∃ (c : Case) (l : List Offer) (i o : Nat), (c.Items.length <= 4 /\ l.length = c.Items.length /\ i < 65536 /\ o < 65536) /\ ds = [eP c l, zRq i o] /\ d = .bool (plF c l i)) := by
 refine zAb call135 func135 rfl ntmps135 ?_;rintro ds d ⟨c, l, i, o, ⟨h4, hl, hi, ho⟩, rfl, rfl⟩;refine ⟨by simp, fun w0 => ?_⟩
 repeat' (first | refine wA ?_ | exact qT | fail)
 refine zH [0, 3, 11] (fun x : Nat × Unit => [(12, .int .i64 x.1)]) (fun x => []) (fun x => x.1 <= c.Items.length /\ ∀ j, j < x.1 -> plK l i j = false) (fun x => c.Items.length - x.1) (0, ()) (fun x => qS) ?_ qL qL ?_
 ·exact ⟨zz7 _, fun j h => absurd h (zyi j)⟩
 rintro ⟨k, _⟩ ⟨g1, g2⟩;simp only at g1 g2
 repeat' (first | refine wA ?_ | exact qT | fail)
 (refine zAa qS qC qC ?_ ?_ <;> intro hb hc <;> try (simp at hc; done))
 ·have hk : k < c.Items.length := by assumption
  repeat' (first | refine wA ?_ | refine zC qS qR ?_ ?_ | refine zG K71 qD ?_ ⟨i, k, ⟨hi, by omega⟩, rfl, rfl⟩ qS ?_ | exact qT | exact qP | fail)
  (refine zAa qS qC qC ?_ ?_ <;> intro hb hc <;> try (simp at hc; done))
  ·have hF : plF c l i = true := zJx hk hb
   rw [hF]
   repeat' (first | refine wA ?_ | refine zE qR ?_ | exact qT | exact zAc.bool rfl | fail)
  ·repeat' (first | refine wA ?_ | exact qT | fail)
   refine zL (k + 1, ()) ?_ ?_ ⟨rfl, qL, qL⟩
   ·exact ⟨by simp only; omega, zCh g2 hb⟩
   ·show c.Items.length - (k + 1) < c.Items.length - k
    omega
 ·have hF : plF c l i = false := zHk (by omega) g2
  rw [hF]
  repeat' (first | refine wA ?_ | refine zE qR ?_ | refine zF qR ?_ | exact qT | exact zAc.bool rfl | fail)
def crI (c : Case) (l : List Offer) (i : Nat) (t : Int) : Nat -> Int
 | 0 => 0
 | k + 1 => if i.testBit k && (c.Items.getD k default).Term == t then wr (crI c l i t k + (l.getD k default).Credits) else crI c l i t k
def moK (c : Case) (l : List Offer) (i k : Nat) : Bool := decide (c.Most < crI c l i (c.Items.getD k default).Term (k + 1))
def moF (c : Case) (l : List Offer) (i : Nat) : Bool := (List.range c.Items.length).any (moK c l i)
theorem K134 : FnOK prog 134 (fun ds d => ∃ (c : Case) (l : List Offer) (i o : Nat), (c.Items.length <= 4 /\ l.length = c.Items.length /\ i < 65536 /\ o < 65536) /\ ds = [eP c l, zRq i o] /\ d = .bool (moF c l i)) := by
 refine zAb call134 func134 rfl ntmps134 ?_;rintro ds d ⟨c, l, i, o, ⟨h4, hl, hi, ho⟩, rfl, rfl⟩;refine ⟨by simp, fun w0 => ?_⟩
 repeat' (first | refine wA ?_ | refine zFe ((fun _ => .int .i64 0)) qS qS ?_ | exact qT | fail)
 refine zH [0, 3, 5, 13, 14] (fun x : Nat × Nat × (MK -> Bool) × (MK -> Int) => [(15, .int .i64 x.1)]) (fun x => [(1, cD x.2.2.1 x.2.2.2 x.2.1)]) (fun x => (x.1 <= c.Items.length /\ x.2.1 <= x.1) /\ (∀ t, (bif x.2.2.1 (.i t) then x.2.2.2 (.i t) else 0) = crI c l i t x.1) /\ ∀ j, j < x.1 -> moK c l i j = false) (fun x => c.Items.length - x.1) (0, 0, (fun _ => false), fun _ => 0) (fun x => qS) ?_ qL qL ?_
 ·exact ⟨⟨zz7 _, zz7 _⟩, fun t => rfl, fun j h => absurd h (zyi j)⟩
 rintro ⟨k, n, dc, gc⟩ ⟨⟨g1, g2⟩, g3, g4⟩;simp only at g1 g2 g3 g4
 repeat' (first | refine wA ?_ | exact qT | fail)
 (refine zAa qS qC qC ?_ ?_ <;> intro hb hc <;> try (simp at hc; done))
 ·have hk : k < c.Items.length := by assumption
  repeat' (first | refine wA ?_ | refine zC qS qR ?_ ?_ | refine zG K71 qD ?_ ⟨i, k, ⟨hi, by omega⟩, rfl, rfl⟩ qS ?_ | exact qT | exact qP | fail)
  (refine zAa qS qC qC ?_ ?_ <;> intro hb hc <;> try (simp at hc; done))
  ·have hbi : i.testBit k = true := hb
   have e1 : ∀ t, crI c l i t (k + 1) = if (c.Items.getD k default).Term == t then wr (crI c l i t k + (l.getD k default).Credits) else crI c l i t k := fun t => by rw [crI, hbi, zyg]
   have e2 : moK c l i k = decide (c.Most < wr (crI c l i (c.Items.getD k default).Term k + (l.getD k default).Credits)) := by rw [moK, e1, if_pos (by simp)]
   repeat' (first | refine wB ?_ | refine zM (by simp only [go_sem, g3]; rfl) qR ?_ ?_ | refine zJ qK qK ?_ | refine zSj (by simp only [go_sem, g3]; rfl) ?_ (by simp only [go_sem, g3]; rfl) ?_ | refine yCw (by simp only [go_sem, g3]; rfl) ?_ ?_ (by simp only [go_sem, g3]; rfl) ?_ | exact zz0 | exact qP | fail)
   ·show n < 68719476736
    omega
   obtain ⟨v, hv⟩ : ∃ v, v = wr (crI c l i (c.Items.getD k default).Term k + (l.getD k default).Credits) := ⟨_, rfl⟩;refine zK (o' := cD (zC9 (.i (c.Items.getD k default).Term) dc) (fun q => if q = .i (c.Items.getD k default).Term then v else gc q) (bif dc (.i (c.Items.getD k default).Term) then n else n + 1)) 1 qR (zC2 (by rw [hv]; exact zWl _ _ _ _ _)) ?_
   (refine zAa qS qC qC ?_ ?_ <;> intro hb hc <;> try (simp at hc; done))
   ·have hF : moF c l i = true := zJx hk (e2.trans hb)
    rw [hF]
    repeat' (first | refine wA ?_ | refine zE qR ?_ | exact qT | exact zAc.bool rfl | fail)
   ·repeat' (first | refine wA ?_ | exact qT | fail)
    refine zL (k + 1, (bif dc (.i (c.Items.getD k default).Term) then n else n + 1), zC9 (.i (c.Items.getD k default).Term) dc, fun q => if q = .i (c.Items.getD k default).Term then v else gc q) ?_ ?_ ⟨rfl, qL, qL⟩
    ·refine ⟨⟨by simp only; omega, ?_⟩, fun t => ?_, zCh g4 (e2.trans hb)⟩
     ·simp only
      cases dc (.i (c.Items.getD k default).Term) <;> simp <;> omega
     ·simp only
      rw [e1, <- g3 t];by_cases ht : t = (c.Items.getD k default).Term
      ·subst ht
       rw [if_pos (by simp), hv, <- g3];simp [zC9]
      ·have h1 : decide (MK.i t = MK.i (c.Items.getD k default).Term) = false := zyq fun h => ht (by injection h)
       have h2 : ((c.Items.getD k default).Term == t) = false := by rw [beq_eq_false_iff_ne]; exact fun h => ht h.symm
       have h3 : ¬ MK.i t = MK.i (c.Items.getD k default).Term := fun h => ht (by injection h);rw [h2, zC9, h1, Bool.false_or, if_neg h3];rfl
    ·simp only; omega
  ·have hbi : i.testBit k = false := hb
   have e1 : ∀ t, crI c l i t (k + 1) = crI c l i t k := fun t => by rw [crI, hbi]; rfl
   have e2 : moK c l i k = decide (c.Most < crI c l i (c.Items.getD k default).Term k) := by rw [moK, e1]
   repeat' (first | refine wB ?_ | refine zM (by simp only [go_sem, g3]; rfl) qR ?_ ?_ | refine zJ qK qK ?_ | refine zSj (by simp only [go_sem, g3]; rfl) ?_ (by simp only [go_sem, g3]; rfl) ?_ | exact zz0 | fail)
   (refine zAa qS qC qC ?_ ?_ <;> intro hb hc <;> try (simp at hc; done))
   ·have hF : moF c l i = true := zJx hk (e2.trans hb)
    rw [hF]
    repeat' (first | refine wA ?_ | refine zE qR ?_ | exact qT | exact zAc.bool rfl | fail)
   ·repeat' (first | refine wA ?_ | exact qT | fail)
    refine zL (k + 1, n, dc, gc) ?_ ?_ ⟨rfl, qL, qL⟩
    ·exact ⟨⟨by simp only; omega, by simp only; omega⟩, fun t => by rw [e1]; exact g3 t, zCh g4 (e2.trans hb)⟩
    ·simp only; omega
 ·have hF : moF c l i = false := zHk (by omega) g4
  rw [hF]
  repeat' (first | refine wA ?_ | refine zE qR ?_ | refine zF qR ?_ | exact qT | exact zAc.bool rfl | fail)
end Go.Sx
