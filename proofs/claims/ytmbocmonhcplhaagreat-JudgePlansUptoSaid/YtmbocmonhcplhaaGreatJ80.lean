/- Lemmas on the judge: P22, J52p, J70, J71, J72, P23, J80. -/
import Derived.Test.YtmbocmonhcplhaaGreatP10
import Derived.Test.YtmbocmonhcplhaaGreatP16
import Derived.Test.YtmbocmonhcplhaaGreatP4
import Derived.Test.YtmbocmonhcplhaaGreatS4
import Derived.Test.YtmbocmonhcplhaaGreatRows
import Derived.Carry
import Derived.ChangeArms
import Derived.OpenShut
set_option linter.all false
namespace Go.Sx
open Go.Proofs
theorem CAk.cat {l : List Offer} (h : CAk 6 l) (hl : l.length <= 6) : zL1 l := by
 refine ⟨hl, fun o ho => ?_, fun k hk => ?_, ?_, h.lead⟩
 ·obtain ⟨h1, j, h2, h3⟩ := h.off o ho
  exact ⟨h1, h3 ▸ zY8 h2⟩
 ·have := yA9 h.asc hk
  exact ⟨this, fun hc => yGc this (by rw [hc])⟩
 ·unfold zFu
  rw [List.Nodup, List.pairwise_map];refine h.asc.imp ?_;intro a b hab hc;exact yGc hab (by rw [hc])
theorem zSz : ∀ (d k : Nat) (n : Need), NOk d n -> zAd (d + 1) k n = zAd d k n
 | 0, k, n, h => by rw [zHa h.2, zHa h.2]
 | d + 1, k, n, h => by
  rw [zEd, zEd d]
  congr 1
  have : ∀ L : List Need, (∀ x ∈ L, NOk d x) -> L.flatMap (zAd (d + 1) (k + 1)) = L.flatMap (zAd d (k + 1)) := by
   intro L
   induction L with
   | nil => exact fun _ => rfl
   | cons x r ih => exact fun hL => by rw [List.flatMap_cons, List.flatMap_cons, zSz d (k + 1) x (hL x zym), ih fun y hy => hL y (zyc _ hy)]
  exact this n.L h.2
theorem PRk.pok {p : Programme} (h : PRk p) : POk 4 p /\ zFx 4 p = 0 := by
 have h1 := h.g.pok;have h2 := NOk.up h1.need.1;refine ⟨⟨⟨h2.1, by rw [h2.2]; exact h1.need.2⟩, h1.name, h1.excl⟩, ?_⟩;rw [<- h.chk, zFx, zFx, zSz 3 1 p.Need h1.need.1]
theorem yKe {O : List Offer} (hO : CAk 6 O) {z : Nat} (hz : z < O.length) : (zDy (O.getD z default).Code O).isSome = true := by
 have : (zFu O).Nodup := by
  unfold zFu;rw [List.Nodup, List.pairwise_map];refine hO.asc.imp ?_;intro a b hab hc;exact yGc hab (by rw [hc])
 rw [zTt this hz]; rfl
theorem zYy {f : Int} (hf : 6 <= f /\ f <= 7) : (0 <= IntKind.i64.wrap (IntKind.i64.wrap (100 * f) - 1) /\ IntKind.i64.wrap (IntKind.i64.wrap (100 * f) - 1) <= 100000) /\ zK3 (IntKind.i64.wrap (IntKind.i64.wrap (100 * f) - 1)) <= f := by
 rcases (show f = 6 \/ f = 7 by omega) with rfl | rfl <;> decide
open Go.Proofs Go.RowKit
attribute [local irreducible] Run zAg zAs zH9 zAc SLe OLe
set_option maxHeartbeats 2000000
set_option maxRecDepth 8000
theorem K26h : ∃ G : (List Int × List Int) × List Int × List Int -> Case, (∀ x : (List Int × List Int) × List Int × List Int, True -> zEw (G x) /\ zZ1 (G x)) /\ FnOK Tryz.prog 26 (fun ds d => ∃ x, True /\ ds = [ints x.1.1, ints x.1.2, ints x.2.1, ints x.2.2] /\ d = zJ6 (G x)) := by
 obtain ⟨G34, g34, K34⟩ := K34h;obtain ⟨G37, g37, K37⟩ := K37h;obtain ⟨G76, g76, K76⟩ := K76h;obtain ⟨G78, g78, K78⟩ := K78h;refine zEg Tryz.call26 Tryz.func26 rfl Tryz.ntmps26 (α := (List Int × List Int) × List Int × List Int) (β := Case) (fun _ => True) (fun _ y => zEw y /\ zZ1 y) (fun x => [ints x.1.1, ints x.1.2, ints x.2.1, ints x.2.2]) (fun _ y => zJ6 y) ?_;rintro ⟨⟨A, B⟩, C, L⟩ _;refine ⟨by simp, ?_⟩
 repeat' (first | (refine zD (K' := ?_) (s' := ?_) (fun F w0 fn hE => ?_) ?_; rotate_left 2; focus ((first | apply zB | fail); (repeat' (first | refine wA ?_ | refine zC qS qR ?_ ?_ | refine zO [1] K77 qR qD qZ qF ?_ ⟨L, _, _, (by decide), rfl, rfl, rfl, rfl⟩ qS ?_ | refine zG K34 qD ?_ ⟨B, trivial, rfl, rfl⟩ qS ?_ | refine zG K13 qD ?_ ⟨_, rfl, rfl⟩ qS ?_ | refine zG K76 qD ?_ ⟨A, trivial, rfl, rfl⟩ qS ?_ | refine zG K37 qD ?_ ⟨C, trivial, rfl, rfl⟩ qS ?_ | exact qT | exact hE | exact qP | fail)))) | (refine zA3 qS qC qC ?_ ?_ <;> intro hb hc <;> try (simp at hc; done)))
 have b2 := zA7 L 0 2 (by omega);have b3 := zA7 L (nxA L 0) 3 (by omega);have b4 := zA7 L (nxA L (nxA L (nxA L 0))) 5 (by omega);have b5 := zA7 L (nxA L (nxA L 0)) 5 (by omega);have b6 := g76 A trivial;have b6l := b6.2;generalize hT : IntKind.i64.wrap (1 + nxN L (nxA L 0) 3) = tm;have hT1 : 1 <= tm /\ tm <= 3 := by rw [w64] at hT; omega
 generalize hF : IntKind.i64.wrap (6 + nxN L 0 2) = f;have hF1 : 6 <= f /\ f <= 7 := by rw [w64] at hF; omega
 refine zDc [0, 1, 2, 3, 8, 9, 10, 11, 12] (fun x : List Item × Nat × Nat => [(13, .int .i64 x.2.2)]) (fun x => [(1, zD0 L x.2.1), (2, .var (cC ⟨G34 B, ofR 1, (G37 C).take 3, f, tm, G76 A, x.1, IntKind.i64.wrap (5 + IntKind.i64.wrap (5 * nxN L (nxA L (nxA L 0)) 5)), IntKind.i64.wrap (IntKind.i64.wrap (100 * f) - 1)⟩))]) (fun x => (x.2.2 <= 4 /\ x.1.length <= x.2.2) /\ IRt x.1 /\ ∀ y ∈ x.1, (zDy y.Code (G76 A)).isSome = true /\ f <= y.Term /\ y.Term < f + tm) (fun x => 4 - x.2.2) ([], nxA L (nxA L (nxA L (nxA L 0))), 0) (fun x => qS) ?_ qE qE ?_
 ·exact ⟨⟨by simp, by simp⟩, List.Pairwise.nil, fun y hy => (by cases hy)⟩
 rintro ⟨its, p, k⟩ n ⟨⟨h1, h2⟩, his, hit⟩ ih;simp only at h1 h2 his hit
 (refine zD (K' := ?_) (s' := ?_) (fun F w0 fn hE => ?_) ?_; rotate_left 2; focus ((first | apply zB | fail); (repeat' (first | refine wA ?_ | refine zC qS qR ?_ ?_ | exact rfl | exact hE | exact qP | fail))))
 refine zA3 qS qC qC ?_ ?_ <;> intro hb hc <;> try (simp at hc; done)
 ·simp only [zz3, zyf] at hb
  have hip : its.length <= 1000 /\ IRt its := ⟨by omega, his⟩
  repeat' (first | (refine zD (K' := ?_) (s' := ?_) (fun F w0 fn hE => ?_) ?_; rotate_left 2; focus ((first | apply zKd | fail); (repeat' (first | refine wA ?_ | refine zC qS qR ?_ ?_ | refine zM qS qR ?_ ?_ | refine zJ qK qK ?_ | refine zB3 [1] K77 qR qD qZ qF ?_ ⟨L, _, _, (by omega), rfl, rfl, rfl, rfl⟩ qS ?_ | refine zP K78 qD ?_ ⟨(its, ⟨_, _⟩), hip, rfl, rfl⟩ qS ?_ | exact hE | (show zAl _; simp only [zAl, go_sem, zB2]; (repeat' apply And.intro) <;> first | exact zz0 | exact (zA7 _ _ _ (by omega)).1 | exact (zA7 _ _ _ (by omega)).2 | (refine Int.lt_of_lt_of_le (zA7 _ _ _ (by omega)).2 (by omega)) | (intros; omega)) | exact qT | fail)))) | (refine zA3 qS qC qC ?_ ?_ <;> intro hb hc <;> try (simp at hc; done)))
  refine zQ ih ((G78 (its, ⟨_, _⟩), ?u2, k + 1)) ?_ ?_ ⟨rfl, qE, qE⟩
  ·have c1 := zA7 L p tm (by omega)
   have c2 := zA7 L (nxA L p) ((G76 A).length : Int) (by omega);refine ⟨⟨by simp only; omega, Nat.le_trans (g78 _ hip).1.1 (by simp only; omega)⟩, (g78 _ hip).1.2, fun y hy => ?_⟩
   rcases (g78 _ hip).2 y hy with h | h
   ·exact hit y h
   ·subst h
    refine ⟨yKe b6.1 (by omega), ?_⟩;simp only;rw [w64]; omega
  ·simp only; omega
 ·repeat' (first | (refine zD (K' := ?_) (s' := ?_) (fun F w0 fn hE => ?_) ?_; rotate_left 2; focus ((first | refine zF qR ?_ | fail); (repeat' (first | refine wA ?_ | exact qT | exact hE | fail)))) | (refine zA3 qS qC qC ?_ ?_ <;> intro hb hc <;> try (simp at hc; done)))
  (refine zR (ds := ?ds6) (⟨⟨G34 B, ofR 1, (G37 C).take 3, f, tm, G76 A, its, ?u4, ?u5⟩, ?u6⟩ : {y : Case // zEw y /\ zZ1 y}) qR ?qa6 ?qb6; (case qa6 => (simp only [go_sem]; rfl)); case' qb6 => (refine zAc.le qZ ?_; exact qE))
  have hG := g34 B trivial;have hH := g37 C trivial;refine ⟨⟨hG.pok.1, hG.pok.2, (by show zA0 (ofR 1) = true; decide), b6.1.cat b6.2, (by simp only; omega), (by simp only [zyl]; omega), (by simp only; omega), (by simp only; omega), ?_, zYy hF1, hit, fun j hj => ?_⟩, ⟨hG.school, fun a ha => (hH.2 a (List.mem_of_mem_take ha)).src⟩⟩
  ·generalize nxN L (nxA L (nxA L 0)) 5 = z at b5
   simp only
   rcases (show z = 0 \/ z = 1 \/ z = 2 \/ z = 3 \/ z = 4 by omega) with rfl | rfl | rfl | rfl | rfl <;> decide
  ·exact zEz.1 (yA9 his hj)
structure Arg where (Offers Programme Own Rest : List Int) (O1 O2 O3 : Int)
 deriving Inhabited
@[go_sem] def eArg (a : Arg) : SD := .agg [ints a.Offers, ints a.Programme, ints a.Own, ints a.Rest, eInt a.O1, eInt a.O2, eInt a.O3]
theorem SLe.take4 {l : List Item} (hl : l.length <= 4) : SLe (.list 2 (if (4 : Int) < l.length then (4 : Int) else l.length).toNat fun i => .agg [.int .i64 (l.getD i default).Term, .str (l.getD i default).Code]) (.list 2 l.length fun i => .agg [.int .i64 (l.getD i default).Term, .str (l.getD i default).Code]) := by
 rw [if_neg (by omega), zya];exact SLe.refl _
theorem K9h : ∃ G : Arg -> Case, (∀ x : Arg, True -> zEw (G x) /\ zZ1 (G x)) /\ FnOK Tryz.prog 9 (fun ds d => ∃ x, True /\ ds = [eArg x] /\ d = zJ6 (G x)) := by
 obtain ⟨G26, g26, K26⟩ := K26h;refine ⟨fun x => G26 ((x.Offers, x.Programme), x.Own, x.Rest), fun x _ => g26 _ trivial, ?_⟩;refine zAb Tryz.call9 Tryz.func9 rfl Tryz.ntmps9 ?_;rintro ds d ⟨x, _, rfl, rfl⟩;refine ⟨by simp, fun w0 => ?_⟩;have hl := (g26 ((x.Offers, x.Programme), x.Own, x.Rest) trivial).1.items
 repeat' (first | refine wA ?_ | refine zC qS qR ?_ ?_ | refine zG K26 qD ?_ ⟨((x.Offers, x.Programme), x.Own, x.Rest), trivial, rfl, rfl⟩ qS ?_ | refine zT qR qS ?_ | exact qT | exact qP | fail)
 (refine zAc.le qZ ?_; repeat' (first | exact zz0 | exact SLe.refl _ | refine SLe.agg ?_ | refine SLe.tup ?_ | refine And.intro ?_ ?_ | exact SLe.nils | refine SLe.int ?_ | refine SLe.bool ?_ | refine SLe.str ?_))
 all_goals exact SLe.take4 hl
def yJ5 (d : Nat) (c : Case) : Bool := (List.range (2 ^ c.Items.length)).any fun ch => zXh c (itT c ch c.Items.length) 0 (itT c ch c.Items.length).length && yKk d c.Programme c.Scale (acT c ch c.Items.length) (zCz c)
theorem yHu (d : Nat) (c : Case) (h1 : zIb (zCz c)) (h2 : ∀ ch, ∀ a ∈ acT c ch c.Items.length, zIb a.Day) : zZy d c = yJ5 d c := by
 unfold zZy yJ5
 congr 1
 funext ch
 rw [yB6, zTy d _ _ _ _ h1 (h2 ch)]
def cA1 : ByteArray := ⟨#[65, 49]⟩
def cB1 : ByteArray := ⟨#[66, 49]⟩
def cC1 : ByteArray := ⟨#[67, 49]⟩
def sA (c : ByteArray) (cr src bun : Int) : Ach := ⟨⟨1, c⟩, cr, 60, 0, [src], bun, []⟩
def sP (n : Need) : Programme := ⟨1, 1, 1, 0, ⟨#[76, 97, 119]⟩, n, 0, 0, 0, []⟩
def sS : Scale := ⟨0, 100, 50⟩
def sL : List Ach := [sA cA1 5 1 0, sA cB1 5 2 0]
def n1 : Need := .mk 1 0 0 [⟨1, cA1⟩] []
def nCr : Need := .mk 2 10 0 [⟨1, cA1⟩, ⟨1, cB1⟩] []
def yGs : Need := .mk 3 0 0 [] [n1, n1]
def zUy : Need := .mk 4 1 0 [] [n1, n1]
def nC : Need := .mk 1 0 50 [⟨1, cC1⟩] []
def sC (most : Int) : Case := ⟨sP nC, sS, [], 4, 2, [⟨cA1, 5, 1, [1], []⟩, ⟨cB1, 5, 30, [1], []⟩, ⟨cC1, 5, 30, [], [cA1]⟩], [⟨4, cA1⟩, ⟨4, cB1⟩, ⟨5, cC1⟩], most, 399⟩
theorem yIn : zD1 cA1 := ⟨by decide, by decide, fun i h => by
 have h' : i < 2 := h
 match i, h' with
 | 0, _ => show okB 65; unfold okB; omega
 | 1, _ => show okB 49; unfold okB; omega⟩
theorem yIm : zD1 cB1 := ⟨by decide, by decide, fun i h => by
 have h' : i < 2 := h
 match i, h' with
 | 0, _ => show okB 66; unfold okB; omega
 | 1, _ => show okB 49; unfold okB; omega⟩
theorem yKn : zD1 cC1 := ⟨by decide, by decide, fun i h => by
 have h' : i < 2 := h
 match i, h' with
 | 0, _ => show okB 67; unfold okB; omega
 | 1, _ => show okB 49; unfold okB; omega⟩
theorem nok1 (d : Nat) : NOk d n1 := by
 have hs : zJ8 n1 := fun c hc => by
  obtain rfl := List.mem_singleton.1 hc;exact yIn.asc
 cases d
 ·exact ⟨hs, rfl⟩
 ·exact ⟨hs, fun x hx => by simp [n1, Need.L] at hx⟩
theorem pok (n : Need) (h : NOk 3 n) (hc : (zAd 3 1 n).length <= 1000) : POk 3 (sP n) := ⟨⟨h, hc⟩, by show (3 : Nat) <= 100000; omega, fun x hx => by simp [sP] at hx⟩
theorem yJ6 : POk 3 (sP nCr) := pok _ ⟨fun c hc => by
  rcases List.mem_cons.1 hc with rfl | hc
  ·exact yIn.asc
  ·obtain rfl := List.mem_singleton.1 hc
   exact yIm.asc, fun x hx => by simp [nCr, Need.L] at hx⟩ (by decide)
theorem yHv : POk 3 (sP yGs) := pok _ ⟨fun c hc => by simp [yGs, Need.Set] at hc, fun x hx => by
  have : x = n1 := by simpa [yGs, Need.L] using hx
  subst this;exact nok1 2⟩ (by decide)
theorem yE1 : POk 3 (sP zUy) := pok _ ⟨fun c hc => by simp [zUy, Need.Set] at hc, fun x hx => by
  have : x = n1 := by simpa [zUy, Need.L] using hx
  subst this;exact nok1 2⟩ (by decide)
theorem pokC : POk 3 (sP nC) := pok _ ⟨fun c hc => by
  obtain rfl := List.mem_singleton.1 hc;exact yKn.asc, fun x hx => by simp [nC, Need.L] at hx⟩ (by decide)
theorem yJg : zIb 0 := by unfold zIb; decide
theorem dayW (x : Int) : zIb (zU6 x) := by
 have h : ∀ y : Int, -9223372036854775808 <= IntKind.i64.wrap y /\ IntKind.i64.wrap y < 9223372036854775808 := fun y => by rw [w64]; omega
 exact zV6 _ (h _).1 (h _).2
theorem sLd : ∀ a ∈ sL, zIb a.Day := fun a ha => by
 have : a = sA cA1 5 1 0 \/ a = sA cB1 5 2 0 := by simpa [sL] using ha
 rcases this with rfl | rfl <;> exact yJg
theorem yJ8 : pw pair [sA cA1 5 5 0, sA cB1 5 5 0] = false := by decide +kernel
theorem yJ7 : pw pair [sA cA1 5 5 2, sA cB1 5 5 2] = true := by decide +kernel
theorem yKl : zF7 3 (sP nCr) sS sL 0 = true := (zTy 3 _ _ _ _ yJg sLd).trans (by decide +kernel)
theorem yIh : zF7 3 (sP yGs) sS sL 0 = false := (zTy 3 _ _ _ _ yJg sLd).trans (by decide +kernel)
theorem yF4 : zF7 3 (sP zUy) sS sL 0 = true := (zTy 3 _ _ _ _ yJg sLd).trans (by decide +kernel)
theorem zUf (c : Case) (h : ∀ a ∈ c.Has, zIb a.Day) (ch : Nat) : ∀ k, ∀ a ∈ acT c ch k, zIb a.Day
 | 0 => h
 | k + 1 => fun a ha => by
  rw [acT] at ha
  rcases List.mem_append.1 ha with ha | ha
  ·exact zUf c h ch k a ha
  ·split at ha
   ·obtain rfl := List.mem_singleton.1 ha
    exact dayW _
   ·cases ha
theorem zXe (d : Nat) (c : Case) (h : ∀ a ∈ c.Has, zIb a.Day) : zZy d c = yJ5 d c := yHu d c (dayW _) fun ch => zUf c h ch _
theorem posT : zZy 3 (sC 10) = true := (zXe 3 _ fun a ha => by cases ha).trans (by decide +kernel)
theorem posN : zZy 3 (sC 4) = false := (zXe 3 _ fun a ha => by cases ha).trans (by decide +kernel)
end Go.Sx
namespace Go.Sx
theorem FnOK.sle {P : Program} {f : Nat} {R : List SD -> SD -> Prop} (hf : FnOK P f R) : FnOK P f (fun ds d => ∃ ds0, zCr ds ds0 /\ R ds0 d) :=
 ⟨hf.call, fun ds d ⟨ds0, h1, hr⟩ h e w vs gh sb hv => hf.ok ds0 d hr h e w vs gh sb (h1.repT hv)⟩
theorem zCr.nth : ∀ {l m : List SD} (i : Nat), zCr l m -> i < l.length -> SLe (zBe l i) (zBe m i)
 | [], _, i, _, h => absurd h (zyi i)
 | a :: r, [], i, h, _ => by cases h
 | a :: r, b :: s, 0, h, _ => h.1
 | a :: r, b :: s, i + 1, h, hi => zCr.nth (l := r) (m := s) i h.2 (by simpa using hi)
theorem zPl {α : Type} [Inhabited α] (g : α -> SD) : ∀ (xs : List α) (i : Nat), i < xs.length -> zBe (xs.map g) i = g (xs.getD i default)
 | [], i, h => absurd h (zyi i)
 | a :: r, 0, _ => rfl
 | a :: r, i + 1, h => by
  simp only [List.map_cons, zBe, List.getD_cons_succ];exact zPl g r i (by simpa using h)
theorem SLe.listS {es n n' : Nat} {f f' : Nat -> SD} (hn : n = n') (h : ∀ i, i < n -> SLe (f i) (f' i)) : SLe (.list es n f) (.list es n' f') := fun hp e v x => by
 subst hn;simp only [rep] at x |-;obtain ⟨a, cap, h1, h2, h3, h4⟩ := x;refine ⟨a, cap, h1, h2, h3, fun h0 => ?_⟩;obtain ⟨ad, cs, T, fr, g1, g2, g3, g4⟩ := h4 h0;refine ⟨ad, cs, T, fr, g1, g2, g3, fun i hi => ?_⟩;obtain ⟨u, hu, r⟩ := g4 i hi;exact ⟨u, fun e => h i hi _ _ _ (hu e), r⟩
theorem SLe.lit {α : Type} [Inhabited α] {es n : Nat} {l : List SD} {g : α -> SD} {xs : List α} (hn : n = xs.length) (hl : l.length = xs.length) (h : zCr l (xs.map g)) : SLe (.list es n (zBe l)) (zAj es g xs) :=
 SLe.listS hn fun i hi => by
  have := zCr.nth i h (by omega)
  rwa [zPl g xs i (by omega)] at this
theorem SLe.off {c : ByteArray} {cr pl : Int} {s : List Int} {n : List ByteArray} {d e : SD} (hs : SLe d (ints s)) (hn : SLe e (strs n)) : SLe (.agg [.str c, .int .i64 cr, .int .i64 pl, d, e]) (zAt ⟨c, cr, pl, s, n⟩) :=
 SLe.agg ⟨SLe.refl _, SLe.refl _, SLe.refl _, hs, hn, trivial⟩
theorem SLe.one (x : ByteArray) : SLe (.list 1 1 fun i => .str ([x].getD i ByteArray.empty)) (strs [x]) := SLe.refl _
open Go.Proofs Go.RowKit
attribute [local irreducible] Run zAg zAs zAc SLe OLe
set_option maxHeartbeats 2000000
set_option maxRecDepth 8000
theorem K21 : FnOK Tryz.prog 21 (fun ds d => ∃ (c : ByteArray) (cr src : Int), ds = [.str c, .int .i64 cr, .int .i64 src] /\ d = zCk (sA c cr src 0)) := by
 refine zAb Tryz.call21 Tryz.func21 rfl Tryz.ntmps21 ?_;rintro ds d ⟨c, cr, src, rfl, rfl⟩;refine ⟨by simp, fun w0 => ?_⟩
 repeat' (first | refine wA ?_ | refine zT qR qS ?_ | exact qT | fail)
 refine zAc.le qZ ?_;exact SLe.agg ⟨SLe.refl _, SLe.refl _, SLe.refl _, SLe.refl _, SLe.refl _, SLe.refl _, SLe.refl _, SLe.nil0, trivial⟩
theorem K22 : FnOK Tryz.prog 22 (fun ds d => ∃ n : Need, ds = [zAh n] /\ d = zGx (sP n)) := by
 refine zAb Tryz.call22 Tryz.func22 rfl Tryz.ntmps22 ?_;rintro ds d ⟨n, rfl, rfl⟩;refine ⟨by simp, fun w0 => ?_⟩
 repeat' (first | refine wA ?_ | refine zT qR qS ?_ | exact qT | fail)
 refine zAc.le qZ ?_;exact SLe.agg ⟨SLe.refl _, SLe.refl _, SLe.refl _, SLe.refl _, SLe.refl _, SLe.refl _, SLe.refl _, SLe.refl _, SLe.refl _, SLe.refl _, SLe.refl _, SLe.refl _, SLe.refl _, SLe.nil0, trivial⟩
end Go.Sx
namespace Go.Sx
open Go.Proofs
theorem SLe.two {a b : SD} {x y : Need} (ha : SLe a (zAh x)) (hb : SLe b (zAh y)) : SLe (.list 5 2 (zBe [a, b])) (.list 5 [x, y].length fun i => zBe (zDh [x, y]) i) :=
 by
 have h1 : SLe (.list 5 2 (zBe [a, b])) (zAj 5 zAh [x, y]) := SLe.lit rfl rfl ⟨ha, hb, trivial⟩;exact fun h e v hv => SLe.needs [x, y] h e v (h1 h e v hv)
theorem SLe.hd {α : Type} [Inhabited α] {es : Nat} {a : SD} {r : List SD} {g : α -> SD} {x : α} (h : SLe a (g x)) : SLe (.list es 1 (zBe (a :: r))) (zAj es g [x]) :=
 SLe.listS rfl fun i hi => by
  have : i = 0 := by omega
  subst this;exact h
theorem SLe.cse {m : Int} {a1 a2 a3 b1 b2 b3 d1 d2 : SD} (h1 : SLe a1 (zAt ⟨cA1, 5, 1, [1], []⟩)) (h2 : SLe a2 (zAt ⟨cB1, 5, 30, [1], []⟩)) (h3 : SLe a3 (zAt ⟨cC1, 5, 30, [], [cA1]⟩))
  (k1 : SLe b1 (zCv ⟨4, cA1⟩)) (k2 : SLe b2 (zCv ⟨4, cB1⟩)) (k3 : SLe b3 (zCv ⟨5, cC1⟩)) (e1 : d1 = .list 5 3 (zBe [a1, a2, a3])) (e2 : d2 = .list 2 3 (zBe [b1, b2, b3])) :
  SLe (.agg (zJu (sP nC) ++ [.int .i64 0, .int .i64 100, .int .i64 50, .nils, .int .i64 4, .int .i64 2, d1, d2, .int .i64 m, .int .i64 399])) (zJ6 (sC m)) := by
 subst e1 e2
 exact SLe.agg ⟨SLe.refl _, SLe.refl _, SLe.refl _, SLe.refl _, SLe.refl _, SLe.refl _, SLe.refl _, SLe.refl _, SLe.refl _, SLe.refl _, SLe.refl _, SLe.refl _, SLe.refl _, SLe.refl _, SLe.refl _, SLe.refl _, SLe.refl _, SLe.nil0, SLe.refl _, SLe.refl _,
  SLe.lit rfl rfl ⟨h1, h2, h3, trivial⟩, SLe.lit rfl rfl ⟨k1, k2, k3, trivial⟩, SLe.refl _, SLe.refl _, trivial⟩
theorem SLe.n1 : SLe (.agg [.int .i64 1, .int .i64 0, .int .i64 0, .list 2 1 (zBe [.agg [.int .i64 1, .str cA1], .agg [.int .i64 1, .str cB1]]), .nils]) (zAh n1) :=
 SLe.agg ⟨SLe.refl _, SLe.refl _, SLe.refl _, SLe.hd (SLe.refl _), SLe.nil0, trivial⟩
theorem K16a : FnOK Tryz.prog 16 (fun ds d => zCr ds [zAj 8 zCk [sA cA1 5 5 0, sA cB1 5 5 0]] /\ d = .bool false) := K16.sle.weaken fun ds d ⟨h1, h2⟩ => ⟨_, h1, _, rfl, h2.trans (by rw [yJ8])⟩
theorem K16b : FnOK Tryz.prog 16 (fun ds d => zCr ds [zAj 8 zCk [sA cA1 5 5 2, sA cB1 5 5 2]] /\ d = .bool true) := K16.sle.weaken fun ds d ⟨h1, h2⟩ => ⟨_, h1, _, rfl, h2.trans (by rw [yJ7])⟩
theorem yJn (n : Need) : FnOK Tryz.prog 22 (fun ds d => zCr ds [zAh n] /\ d = zGx (sP n)) := K22.sle.weaken fun ds d ⟨h1, h2⟩ => ⟨_, h1, n, rfl, h2⟩
theorem yKv (n : Need) (hn : POk 3 (sP n)) (b : Bool) (hb : zF7 3 (sP n) sS sL 0 = b) : FnOK Tryz.prog 14 (fun ds d => zCr ds [zGx (sP n), zDz sS, zAj 8 zCk sL, eInt 0] /\ d = .bool b) :=
 (K14 3 (by omega) (by decide)).sle.weaken fun ds d ⟨h1, h2⟩ => ⟨_, h1, _, _, _, _, hn, rfl, h2.trans (by rw [hb])⟩
theorem K10w (m : Int) (b : Bool) (hb : zZy 3 (sC m) = b) : FnOK Tryz.prog 10 (fun ds d => zCr ds [zJ6 (sC m)] /\ d = .bool b) :=
 (K10 3 (by omega) (by decide)).sle.weaken fun ds d ⟨h1, h2⟩ => ⟨_, h1, _, ⟨pokC, by show (3 : Nat) <= 10; omega, by show (0 : Nat) <= 1000; omega⟩, rfl, h2.trans (by rw [hb])⟩
open Go.Proofs Go.RowKit
attribute [local irreducible] Run zAg zAs zAc SLe OLe
set_option maxHeartbeats 2000000
set_option maxRecDepth 8000
theorem K7 : FnOK Tryz.prog 7 (fun ds d => ds = [] /\ d = .bool true) := by
 have K22u := yJn nCr;have K22v := yJn yGs;have K22w := yJn zUy;have K22x := yJn nC;have K14u := yKv nCr yJ6 true yKl;have K14v := yKv yGs yHv false yIh;have K14x := yKv zUy yE1 true yF4;refine zAb Tryz.call7 Tryz.func7 rfl Tryz.ntmps7 ?_;rintro ds d ⟨rfl, rfl⟩;refine ⟨by simp, fun w0 => ?_⟩;have K10a := K10w 10 true posT;have K10b := K10w 4 false posN
 repeat' (first | refine wA ?_ | refine zC qS qR ?_ ?_ | refine zM qS qR ?_ ?_ | refine zJ qK qK ?_ | refine zG K21 qD ?_ ⟨cA1, _, _, rfl, rfl⟩ qS ?_ | refine zG K21 qD ?_ ⟨cB1, _, _, rfl, rfl⟩ qS ?_ | refine zG K16a qD ?_ (by exact ⟨⟨SLe.lit rfl rfl ⟨SLe.refl _, SLe.refl _, trivial⟩, trivial⟩, rfl⟩) qS ?_ | refine zN 23 qR qS K16b qD (fun hg => ?_) (fun _ => (by exact ⟨⟨SLe.lit rfl rfl ⟨SLe.refl _, SLe.refl _, trivial⟩, trivial⟩, rfl⟩)) qS ?_ | refine zP K22u qD ?_ (by exact ⟨⟨SLe.agg ⟨SLe.refl _, SLe.refl _, SLe.refl _, SLe.lit rfl rfl ⟨SLe.refl _, SLe.refl _, trivial⟩, SLe.nil0, trivial⟩, trivial⟩, rfl⟩) qS ?_ | refine zP K22v qD ?_ (by exact ⟨⟨SLe.agg ⟨SLe.refl _, SLe.refl _, SLe.refl _, SLe.nil0, SLe.two (x := n1) (y := n1) SLe.n1 SLe.n1, trivial⟩, trivial⟩, rfl⟩) qS ?_ | refine zP K22w qD ?_ (by exact ⟨⟨SLe.agg ⟨SLe.refl _, SLe.refl _, SLe.refl _, SLe.nil0, SLe.two (x := n1) (y := n1) SLe.n1 SLe.n1, trivial⟩, trivial⟩, rfl⟩) qS ?_ | refine zP K22x qD ?_ (by exact ⟨⟨SLe.agg ⟨SLe.refl _, SLe.refl _, SLe.refl _, SLe.hd (SLe.refl _), SLe.nil0, trivial⟩, trivial⟩, rfl⟩) qS ?_ | refine zP K14u qD ?_ (by exact ⟨⟨SLe.refl _, SLe.refl _, SLe.lit rfl rfl ⟨SLe.refl _, SLe.refl _, trivial⟩, SLe.refl _, trivial⟩, rfl⟩) qS ?_ | refine zP K14v qD ?_ (by exact ⟨⟨SLe.refl _, SLe.refl _, SLe.lit rfl rfl ⟨SLe.refl _, SLe.refl _, trivial⟩, SLe.refl _, trivial⟩, rfl⟩) qS ?_ | refine zP K14x qD ?_ (by exact ⟨⟨SLe.refl _, SLe.refl _, SLe.lit rfl rfl ⟨SLe.refl _, SLe.refl _, trivial⟩, SLe.refl _, trivial⟩, rfl⟩) qS ?_ | refine zN 93 qR qS K10a qD (fun hg => ?_) (fun _ => (by exact ⟨⟨SLe.cse (SLe.off (SLe.refl _) SLe.nil0) (SLe.off (SLe.refl _) SLe.nil0) (SLe.off SLe.nil0 (SLe.one _)) (SLe.refl _) (SLe.refl _) (SLe.refl _) rfl rfl, trivial⟩, rfl⟩)) qS ?_ | refine zN 97 qR qS K10b qD (fun hg => ?_) (fun _ => (by exact ⟨⟨SLe.cse (SLe.off (SLe.refl _) SLe.nil0) (SLe.off (SLe.refl _) SLe.nil0) (SLe.off SLe.nil0 (SLe.one _)) (SLe.refl _) (SLe.refl _) (SLe.refl _) rfl rfl, trivial⟩, rfl⟩)) qS ?_ | refine zBg 23 qR qD ?_ | refine zE qR ?_ | exact qT | exact zAc.bool rfl | exact qP | fail)
 all_goals skip
end Go.Sx
namespace Go.Sx
open Go.Proofs
theorem K10p : FnOK Tryz.prog 10 (fun ds v => ∃ c : Case, (POk 4 c.Programme /\ c.Items.length <= 10 /\ c.Has.length <= 1000) /\ ds = [zJ6 c] /\ v = .bool (zZy 4 c)) := K10 4 (by omega) (by decide)
theorem yE2 (c : Case) : zXf c = 0 \/ zXf c = 60 := by
 unfold zXf;split
 ·exact .inl rfl
 ·exact .inr rfl
open Go.Proofs Go.RowKit
attribute [local irreducible] Run zAg zAs zAc SLe OLe
set_option maxHeartbeats 2000000
set_option maxRecDepth 8000
theorem K6 : FnOK Tryz.prog 6 (fun ds d => ∃ a : Arg, True /\ ds = [eArg a] /\ d = .bool true) := by
 obtain ⟨G9, g9, K9⟩ := K9h;refine zAb Tryz.call6 Tryz.func6 rfl Tryz.ntmps6 ?_;rintro ds d ⟨a, -, rfl, rfl⟩;refine ⟨by simp, fun w0 => ?_⟩;obtain ⟨c1, c2⟩ := g9 a trivial;have hl := yBa c1 c2;have hp : POk 4 (G9 a).Programme /\ (G9 a).Items.length <= 10 /\ (G9 a).Has.length <= 1000 := ⟨c1.prog, Nat.le_trans c1.items (by omega), Nat.le_trans c1.has (by omega)⟩
 rcases yE2 (G9 a) with h0 | h0
 ·rw [h0] at hl
  repeat' (first | refine wB ?_ | refine zC (by simp only [go_sem, hl, h0]; rfl) qR ?_ ?_ | refine zG K7 (by simp only [go_sem, hl, h0]; first | done | rfl) ?_ ⟨rfl, rfl⟩ (by simp only [go_sem, hl, h0]; rfl) ?_ | refine zG K9 (by simp only [go_sem, hl, h0]; first | done | rfl) ?_ ⟨_, trivial, rfl, rfl⟩ (by simp only [go_sem, hl, h0]; rfl) ?_ | refine zG K20 (by simp only [go_sem, hl, h0]; first | done | rfl) ?_ ⟨_, c1, rfl, rfl⟩ (by simp only [go_sem, hl, h0]; rfl) ?_ | refine zN 26 qR (by simp only [go_sem, hl, h0]; rfl) K10p (by simp only [go_sem, hl, h0]; first | done | rfl) (fun hg => ?_) (fun _ => ⟨_, hp, rfl, rfl⟩) (by simp only [go_sem, hl, h0]; rfl) ?_ | refine zE qR ?_ | exact qT | exact zAc.bool rfl | exact qP | fail)
  all_goals trace_state
 ·rw [h0] at hl
  repeat' (first | refine wB ?_ | refine zC (by simp only [go_sem, hl, h0]; rfl) qR ?_ ?_ | refine zG K7 (by simp only [go_sem, hl, h0]; first | done | rfl) ?_ ⟨rfl, rfl⟩ (by simp only [go_sem, hl, h0]; rfl) ?_ | refine zG K9 (by simp only [go_sem, hl, h0]; first | done | rfl) ?_ ⟨_, trivial, rfl, rfl⟩ (by simp only [go_sem, hl, h0]; rfl) ?_ | refine zG K20 (by simp only [go_sem, hl, h0]; first | done | rfl) ?_ ⟨_, c1, rfl, rfl⟩ (by simp only [go_sem, hl, h0]; rfl) ?_ | refine zN 26 qR (by simp only [go_sem, hl, h0]; rfl) K10p (by simp only [go_sem, hl, h0]; first | done | rfl) (fun hg => ?_) (fun _ => ⟨_, hp, rfl, rfl⟩) (by simp only [go_sem, hl, h0]; rfl) ?_ | refine zE qR ?_ | exact qT | exact zAc.bool rfl | exact qP | fail)
  all_goals trace_state
open Go.ChangeShapes Go.WideShapes Go.Proofs.YtmbocmonhcplhaaGreat
def hpW (W : World) : Hp := fun b => W.heap[b]?
theorem sub_hpW (W : World) : Sub (hpW W) W := fun _ _ h => h
theorem zKj {h : Hp} {e : Nm} : ∀ {l m : List SD} {vs us : List Value}, repC h l e vs -> repC h m e us -> repC h (l ++ m) e (vs ++ us)
 | [], m, vs, us, h1, h2 => by simp only [repC] at h1; subst h1; exact h2
 | d :: l, m, vs, us, h1, h2 => by
  simp only [repC] at h1;obtain ⟨v, vs', rfl, a, b, c⟩ := h1;simp only [List.cons_append, repC];exact ⟨v, vs' ++ us, rfl, a, b, zKj c h2⟩
theorem cells_one {v : Value} (h : v.oneCell' = true) : v.cells = #[v] := by
 cases v <;> simp_all [Value.oneCell', Value.cells]
theorem zW7 {h : Hp} {e : Nm} {l : List SD} {cs : List Value} (hr : repC h l e cs) : ∀ c ∈ cs, c.oneCell' = true := by
 induction l generalizing cs with
 | nil => simp only [repC] at hr; subst hr; simp
 | cons d l ih =>
  simp only [repC] at hr;obtain ⟨v, vs', rfl, a, b, c⟩ := hr;intro x hx
  rcases List.mem_cons.1 hx with rfl | hx
  ·exact a
  ·exact ih c x hx
theorem yB9 {H : Type} {d : DataW H} {l : List (DataW H)} (h : d ∈ l) : Rows.uptoBulk d <= Rows.uptoBulkAll l := by
 induction l with
 | nil => cases h
 | cons x r ih =>
  simp only [Rows.uptoBulkAll]
  rcases List.mem_cons.1 h with rfl | h
  ·omega
  ·have := ih h; omega
theorem yB8 {H : Type} (d : DataW H) : 1 <= Rows.uptoBulk d := by
 cases d with
 | lit l => cases l <;> simp [Rows.uptoBulk]
 | nil => simp [Rows.uptoBulk]
 | ptr d => simp [Rows.uptoBulk]
 | slice elems spare => simp [Rows.uptoBulk]
 | agg parts => simp [Rows.uptoBulk]
 | iface t d => simp [Rows.uptoBulk]
 | map entries => simp [Rows.uptoBulk]
 | held h => simp [Rows.uptoBulk]
theorem yCa {H : Type} (l : List (DataW H)) : l.length <= Rows.uptoBulkAll l := by
 induction l with
 | nil => simp [Rows.uptoBulkAll]
 | cons x r ih => have := yB8 x; simp only [Rows.uptoBulkAll, List.length_cons]; omega
section
variable {H : Type} (enc : TypeId × Value -> H) (P : Program) (W : World) (sp : Nat -> Bool) (held : Bool)
def RC {T : Type} (t : TypeId) (ec : T -> List SD) (Q : T -> Prop) : Prop :=
 ∀ (fuel : Nat) (cs : List Value) (x : DataW H × List MemPlace), DataW.trod enc P W 0 sp held fuel t cs = some x -> Rows.uptoBulk x.1 <= 1048576 -> ∃ y, (∀ e, repC (hpW W) (ec y) e cs) /\ Q y
def RF {T : Type} (fs : List Field) (o : Nat) (ec : T -> List SD) (Q : T -> Prop) : Prop :=
 ∀ (n : Nat) (cs : List Value) (xs : List (DataW H × List MemPlace)), fs.mapM (fun f => DataW.trod enc P W 0 sp held n f.type ((cs.drop f.offset).take (P.cellsOf f.type))) = some xs -> Rows.uptoBulkAll (xs.map (·.1)) <= 1048576 ->
  cs.length = o + (fs.map fun f => P.cellsOf f.type).sum -> ∃ y, (∀ e, repC (hpW W) (ec y) e (cs.drop o)) /\ Q y
variable {enc P W sp held}
theorem rc_int {t : TypeId} {k : IntKind} (ht : P.underlying t = some (.int k)) : RC enc P W sp held t (fun n : Int => [.int k n]) (fun n => (Lit.int k n).wf = true) := by
 intro fuel cs x h _;obtain ⟨n, rfl, -, hw⟩ := DataW.trod_int ht h;exact ⟨n, fun e => by simp only [repC, rep]; exact ⟨_, _, rfl, rfl, rfl, rfl⟩, hw⟩
theorem rf_nil {o : Nat} : RF enc P W sp held [] o (fun _ : Unit => []) (fun _ => True) := by
 intro n cs xs h _ hl;refine ⟨(), fun e => ?_, trivial⟩;simp only [List.map_nil, List.sum_nil, Nat.add_zero] at hl;simp only [repC];exact List.drop_eq_nil_of_le (by omega)
theorem rf_cons {T1 T2 : Type} {f : Field} {fs : List Field} {o c : Nat} {e1 : T1 -> List SD} {e2 : T2 -> List SD} {Q1 : T1 -> Prop} {Q2 : T2 -> Prop} (ho : f.offset = o) (hc : P.cellsOf f.type = c)
  (h1 : RC enc P W sp held f.type e1 Q1) (h2 : RF enc P W sp held fs (o + c) e2 Q2) : RF enc P W sp held (f :: fs) o (fun y : T1 × T2 => e1 y.1 ++ e2 y.2) (fun y => Q1 y.1 /\ Q2 y.2) := by
 intro n cs xs h hb hl;simp only [List.mapM_cons, Option.bind_eq_bind, Option.bind_eq_some_iff, Option.pure_def, zz1] at h;obtain ⟨x, hx, xs', hxs, rfl⟩ := h;simp only [List.map_cons, Rows.uptoBulkAll] at hb;obtain ⟨y1, r1, q1⟩ := h1 _ _ _ hx (by omega);obtain ⟨y2, r2, q2⟩ := h2 _ _ _ hxs (by omega) (by rw [hl]; simp only [List.map_cons, List.sum_cons, hc]; omega);refine ⟨(y1, y2), fun e => ?_, q1, q2⟩;have hsplit : cs.drop o = (cs.drop o).take c ++ cs.drop (o + c) := by rw [<- List.drop_drop, List.take_append_drop]
 rw [hsplit];rw [ho, hc] at r1;exact zKj (r1 e) (r2 e)
theorem rc_struct {T : Type} {t : TypeId} {fs : Array Field} {ec : T -> List SD} {Q : T -> Prop} (ht : P.underlying t = some (.struct fs)) (hn : P.cellsOf t = (fs.toList.map fun f => P.cellsOf f.type).sum) (h : RF enc P W sp held fs.toList 0 ec Q) : RC enc P W sp held t ec Q := by
 intro fuel cs x hx hb;cases fuel with
 | zero => simp [DataW.trod] at hx
 | succ n =>
  unfold DataW.trod at hx;rw [ht] at hx;simp only at hx;split at hx
  ·rename_i hl
   simp only [Option.map_eq_some_iff] at hx;obtain ⟨xs, hm, rfl⟩ := hx;simp only [Rows.uptoBulk] at hb;obtain ⟨y, r, q⟩ := h n cs xs hm (by omega) (by rw [hl, hn, Nat.zero_add]);exact ⟨y, fun e => by simpa using r e, q⟩
  ·cases hx
theorem rc_map {T T' : Type} {t : TypeId} {ec : T -> List SD} {Q : T -> Prop} {ec' : T' -> List SD} {Q' : T' -> Prop} (g : T -> T') (h : RC enc P W sp held t ec Q) (hg : ∀ y, Q y -> ec' (g y) = ec y /\ Q' (g y)) : RC enc P W sp held t ec' Q' := by
 intro fuel cs x hx hb;obtain ⟨y, r, q⟩ := h fuel cs x hx hb;exact ⟨g y, fun e => by rw [(hg y q).1]; exact r e, (hg y q).2⟩
theorem addE {a : Addr} (h : a.spot = none) (i : Nat) : a.add i = ⟨a.block, a.off + i, none⟩ := by
 unfold Addr.add;split
 ·subst_vars; cases a; simp_all
 ·rfl
theorem mapM_cells {w : World} {a : Addr} {n : Nat} {cs : List Value} (h : w.cells? 0 a n = some cs) (hn : 0 < n) : a.spot = none /\ ∃ c T fr, w.heap[a.block]? = some (.cells c T fr) /\ cs = cut c.toList a.off n /\ a.off + n <= c.size := by
 unfold World.cells? at h;rw [if_pos (zz7 _)] at h;have hl := mapM_some_length h;simp only [List.length_range] at hl;have hg : ∀ i, i < n -> w.cell? (a.add i) = cs[i]? := fun i hi => mapM_some_get h i i (by simp [hi]);have h0 := hg 0 hn;rw [zz5 (by omega)] at h0;rw [show a.add 0 = a from rfl] at h0;unfold World.cell? at h0;split at h0
 ·rename_i c T fr hw
  have hs : a.spot = none := by
   cases hsp : a.spot with
   | none => rfl
   | some z => simp [hsp] at h0
  have hw' : w.heap[a.block]? = some (.cells c T fr) := hw
  have hg2 : ∀ i, i < n -> c[a.off + i]? = cs[i]? := fun i hi => by
   rw [<- hg i hi];rw [addE hs];unfold World.cell?;rw [hw'];simp
  have hsz : a.off + n <= c.size := by
   have := hg2 (n - 1) (by omega);rw [zz5 (by omega)] at this;have := (Array.getElem?_eq_some_iff.1 this).1;omega
  refine ⟨hs, c, T, fr, hw', ?_, hsz⟩;apply List.ext_getElem?;intro i;unfold cut;by_cases hi : i < n
  ·rw [List.getElem?_take_of_lt hi, List.getElem?_drop, <- hg2 i hi, Array.getElem?_toList]
  ·rw [List.getElem?_eq_none (by omega), List.getElem?_eq_none (by rw [zyl, List.length_drop, Array.length_toList]; omega)]
 ·cases h0
theorem yA7 {T : Type} {t el : TypeId} {es : Nat} {ec : T -> List SD} {pk : T -> SD} {Q : T -> Prop} [Inhabited T] (ht : P.underlying t = some (.slice el)) (hs : P.cellsOf el = es) (hp : 0 < es) (h : RC enc P W sp held el ec Q)
  (hpk : ∀ (y : T) (cs : List Value), (∀ e, repC (hpW W) (ec y) e cs) -> cs.length = es -> ∃ u : Value, (∀ e, rep (hpW W) (pk y) e u) /\ u.cells.toList = cs /\ u.cells.size = es) :
  RC enc P W sp held t (fun l : List T => [.list es l.length (fun i => pk (l.getD i default))]) (fun l => l.length <= 1048576 /\ ∀ y ∈ l, Q y) := by
 intro fuel cs x hx hb
 rcases DataW.trod_slice ht hx with ⟨rfl, rfl⟩ | ⟨a, len, cap, elems, rest, n, -, rfl, rfl, -, hlc, hcm, hle, hget, -, -⟩
 ·refine ⟨[], fun e => ?_, by simp, by simp⟩
  simp only [repC, rep];exact ⟨_, _, rfl, rfl, ⟨none, 0, rfl, zyj _, ⟨by simp, by simp [maxL]⟩, fun h => absurd h (by simp)⟩, rfl⟩
 ·simp only [Rows.uptoBulk] at hb
  have hl1 : elems.length <= 1048576 := by
   have h1 := yCa (elems.map (·.1));rw [List.length_map] at h1;omega
  have key : ∀ i, i < len -> ∃ (y : T) (cs : List Value), W.cells? 0 (a.add (i * es)) es = some cs /\ (∀ e, repC (hpW W) (ec y) e cs) /\ Q y := fun i hi => by
   have h1 := hget i hi;rw [zz5 (by omega), Option.bind_eq_some_iff] at h1;obtain ⟨cs, h2, h3⟩ := h1;rw [hs] at h2;have hm : elems[i].1 ∈ elems.map (·.1) := List.mem_map_of_mem (List.getElem_mem _);obtain ⟨y, r, q⟩ := h n cs _ h3 (by have := yB9 hm; omega);exact ⟨y, cs, h2, r, q⟩
  have ⟨l, hll, hly⟩ : ∃ l : List T, l.length = len /\ ∀ i, i < len -> ∃ cs : List Value, W.cells? 0 (a.add (i * es)) es = some cs /\ (∀ e, repC (hpW W) (ec (l.getD i default)) e cs) /\ Q (l.getD i default) := by
   clear hget hx hb hle hl1 hlc
   induction len with
   | zero => exact ⟨[], rfl, fun i hi => absurd hi (zyi _)⟩
   | succ len ih =>
    obtain ⟨l, h1, h2⟩ := ih fun i hi => key i (by omega);obtain ⟨y, cs, h3, h4, h5⟩ := key len (by omega);refine ⟨l ++ [y], by simp [h1], fun i hi => ?_⟩;by_cases h6 : i < len
    ·have : (l ++ [y]).getD i default = l.getD i default := by
      rw [zz2, zz2, zyb (by omega)]
     rw [this]; exact h2 i h6
    ·have hi2 : i = len := by omega
     have : (l ++ [y]).getD i default = y := by
      rw [zz2, List.getElem?_append_right (by omega), hi2, h1, Nat.sub_self]; rfl
     rw [this, hi2]; exact ⟨cs, h3, h4, h5⟩
  refine ⟨l, fun e => ?_, by omega, fun y hy => ?_⟩
  ·simp only [repC, rep]
   refine ⟨_, _, rfl, rfl, ⟨some a, cap, by rw [hll], by omega, ⟨hcm, by simp only [maxL]; omega⟩, fun h0 => ?_⟩, rfl⟩;obtain ⟨cs0, g0, -, -⟩ := hly 0 (by omega);rw [show a.add (0 * es) = a by rw [Nat.zero_mul]; rfl] at g0;obtain ⟨hsp, c, T', fr, hw, -, -⟩ := mapM_cells g0 hp;refine ⟨a, c, T', fr, rfl, hsp, hw, fun i hi => ?_⟩;obtain ⟨csi, gi, ri, -⟩ := hly i (by omega);rw [addE hsp] at gi;obtain ⟨-, c', T'', fr', hw', hcut, hsz⟩ := mapM_cells gi hp
   have hcc : c' = c := by
    have := hw'.symm.trans hw;simp only [zz1, Obj.cells.injEq] at this;exact this.1
   subst hcc
   have hlen : csi.length = es := by
    rw [hcut]; unfold cut;rw [zyl, List.length_drop, Array.length_toList];omega
   obtain ⟨u, hu1, hu2, hu3⟩ := hpk _ csi ri hlen;refine ⟨u, hu1, by rw [hu2, hcut], hu3, fun c hc => ?_⟩;exact zW7 (ri ⟨fun _ => 0, fun _ => undef⟩) c (by rw [<- hu2]; simpa using hc)
  ·obtain ⟨i, hi, rfl⟩ := List.getElem_of_mem hy
   obtain ⟨_, _, _, q⟩ := hly i (by omega)
   rwa [zz2, zz5 hi] at q
theorem yE3 {T : Type} {pk : T -> SD} (y : T) (cs : List Value) (h : ∀ e, repC (hpW W) [pk y] e cs) (_ : cs.length = 1) : ∃ u : Value, (∀ e, rep (hpW W) (pk y) e u) /\ u.cells.toList = cs /\ u.cells.size = 1 := by
 have h0 := h ⟨fun _ => 0, fun _ => undef⟩;simp only [repC] at h0;obtain ⟨v, vs', rfl, hv, _, rfl⟩ := h0;refine ⟨v, fun e => ?_, by rw [cells_one hv], by rw [cells_one hv]; rfl⟩;have := h e;simp only [repC] at this;obtain ⟨v', vs', h1, _, h2, _⟩ := this;simp only [List.cons.injEq] at h1;rw [h1.1]; exact h2
theorem rc_slice1 {T : Type} {t el : TypeId} {pk : T -> SD} {Q : T -> Prop} [Inhabited T] (ht : P.underlying t = some (.slice el)) (hs : P.cellsOf el = 1) (h : RC enc P W sp held el (fun y => [pk y]) Q) :
  RC enc P W sp held t (fun l : List T => [.list 1 l.length (fun i => pk (l.getD i default))]) (fun l => l.length <= 1048576 /\ ∀ y ∈ l, Q y) :=
 yA7 ht hs (by omega) h fun y cs h hl => yE3 y cs h hl
theorem rc_arr3 {T : Type} {t el : TypeId} {es : Nat} {ec : T -> List SD} {Q : T -> Prop} (ht : P.underlying t = some (.array 3 el)) (hs : P.cellsOf el = es) (hn : P.cellsOf t = es + (es + es)) (h : RC enc P W sp held el ec Q) :
  RC enc P W sp held t (fun y : T × T × T => ec y.1 ++ (ec y.2.1 ++ ec y.2.2)) (fun y => Q y.1 /\ Q y.2.1 /\ Q y.2.2) := by
 intro fuel cs x hx hb;cases fuel with
 | zero => simp [DataW.trod] at hx
 | succ n =>
  unfold DataW.trod at hx;rw [ht] at hx;simp only at hx;split at hx
  ·rename_i hl
   simp only [Option.map_eq_some_iff] at hx;obtain ⟨xs, hm, rfl⟩ := hx;simp only [Rows.uptoBulk] at hb;rw [show List.range 3 = [0, 1, 2] from rfl] at hm;simp only [List.mapM_cons, List.mapM_nil, Option.bind_eq_bind, Option.bind_eq_some_iff, Option.pure_def, zz1] at hm;obtain ⟨x0, h0, _, ⟨x1, h1, _, ⟨x2, h2, _, rfl, rfl⟩, rfl⟩, rfl⟩ := hm;simp only [List.map_cons, List.map_nil, Rows.uptoBulkAll] at hb;obtain ⟨y0, r0, q0⟩ := h _ _ _ h0 (by omega);obtain ⟨y1, r1, q1⟩ := h _ _ _ h1 (by omega);obtain ⟨y2, r2, q2⟩ := h _ _ _ h2 (by omega);refine ⟨(y0, y1, y2), fun e => ?_, q0, q1, q2⟩
   have hsplit : cs = cs.take es ++ ((cs.drop es).take es ++ (cs.drop (2 * es)).take es) := by
    rw [List.take_of_length_le (l := cs.drop (2 * es)) (by rw [List.length_drop]; omega), show cs.drop (2 * es) = (cs.drop es).drop es by rw [List.drop_drop]; congr 1; omega, List.take_append_drop, List.take_append_drop]
   rw [hs] at r0 r1 r2;simp only [Nat.zero_mul, List.drop_zero, Nat.one_mul] at r0 r1;rw [hsplit];exact zKj (r0 e) (zKj (r1 e) (r2 e))
  ·cases hx
theorem rv_agg {T : Type} {t : TypeId} {ec : T -> List SD} {Q : T -> Prop} (h : RC enc P W sp held t ec Q) {cs : Array Value} {d : DataW H} {p : List MemPlace} (hd : DataW.Trod enc P W 0 sp held t (.agg cs) d p) (hb : Rows.uptoBulk d <= 1048576) :
  ∃ y, (∀ e, rep (hpW W) (.agg (ec y)) e (.agg cs)) /\ Q y := by
 obtain ⟨fuel, hf⟩ := hd;obtain ⟨y, r, q⟩ := h fuel _ _ hf hb;refine ⟨y, fun e => ?_, q⟩;simp only [rep];exact ⟨cs.toList, by simp, r e⟩
end
end Go.Sx
