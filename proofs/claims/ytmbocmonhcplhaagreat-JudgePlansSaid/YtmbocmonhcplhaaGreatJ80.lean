/- Lemmas on the judge: P22, J52p, J70, J71, J72, P23, J80. -/
import Derived.Test.YtmbocmonhcplhaaGreatP10
import Derived.Test.YtmbocmonhcplhaaGreatP16
import Derived.Test.YtmbocmonhcplhaaGreatP4
import Derived.Test.YtmbocmonhcplhaaGreatS4
set_option linter.all false
namespace Go.Sx
open Go.Proofs
theorem CAk.cat {l : List Offer} (h : CAk 6 l) (hl : l.length <= 6) : zL1 l := by
 refine ⟨hl, fun o ho => ?_, fun k hk => ?_, ?_, h.lead⟩
 ·obtain ⟨h1, j, h2, h3⟩ := h.off o ho
  exact ⟨h1, h3 ▸ zY8 h2⟩
 ·have := yA9 h.asc hk
  exact ⟨this, fun hc => yGc this (by rw [hc])⟩
 ·unfold zFu
  rw [List.Nodup, List.pairwise_map];refine h.asc.imp ?_;intro a b hab hc;exact yGc hab (by rw [hc])
theorem zSz : ∀ (d k : Nat) (n : Need), NOk d n -> zAd (d + 1) k n = zAd d k n
 | 0, k, n, h => by rw [zHa h.2, zHa h.2]
 | d + 1, k, n, h => by
  rw [zEd, zEd d]
  congr 1
  have : ∀ L : List Need, (∀ x ∈ L, NOk d x) -> L.flatMap (zAd (d + 1) (k + 1)) = L.flatMap (zAd d (k + 1)) := by
   intro L
   induction L with
   | nil => exact fun _ => rfl
   | cons x r ih => exact fun hL => by rw [List.flatMap_cons, List.flatMap_cons, zSz d (k + 1) x (hL x zym), ih fun y hy => hL y (zyc _ hy)]
  exact this n.L h.2
theorem PRk.pok {p : Programme} (h : PRk p) : POk 4 p /\ zFx 4 p = 0 := by
 have h1 := h.g.pok;have h2 := NOk.up h1.need.1;refine ⟨⟨⟨h2.1, by rw [h2.2]; exact h1.need.2⟩, h1.name, h1.excl⟩, ?_⟩;rw [<- h.chk, zFx, zFx, zSz 3 1 p.Need h1.need.1]
theorem yKe {O : List Offer} (hO : CAk 6 O) {z : Nat} (hz : z < O.length) : (zDy (O.getD z default).Code O).isSome = true := by
 have : (zFu O).Nodup := by
  unfold zFu;rw [List.Nodup, List.pairwise_map];refine hO.asc.imp ?_;intro a b hab hc;exact yGc hab (by rw [hc])
 rw [zTt this hz]; rfl
theorem zYy {f : Int} (hf : 6 <= f /\ f <= 7) : (0 <= IntKind.i64.wrap (IntKind.i64.wrap (100 * f) - 1) /\ IntKind.i64.wrap (IntKind.i64.wrap (100 * f) - 1) <= 100000) /\ zK3 (IntKind.i64.wrap (IntKind.i64.wrap (100 * f) - 1)) <= f := by
 rcases (show f = 6 \/ f = 7 by omega) with rfl | rfl <;> decide
open Go.Proofs Go.RowKit
attribute [local irreducible] Run zAg zAs zH9 zAc SLe OLe
set_option maxHeartbeats 2000000
set_option maxRecDepth 8000
theorem K26h : ∃ G : (List Int × List Int) × List Int × List Int -> Case, (∀ x : (List Int × List Int) × List Int × List Int, True -> zEw (G x) /\ zZ1 (G x)) /\ FnOK Tryz.prog 26 (fun ds d => ∃ x, True /\ ds = [lngs x.1.1, lngs x.1.2, lngs x.2.1, lngs x.2.2] /\ d = zJ6 (G x)) := by
 obtain ⟨G34, g34, K34⟩ := K34h;obtain ⟨G37, g37, K37⟩ := K37h;obtain ⟨G76, g76, K76⟩ := K76h;obtain ⟨G78, g78, K78⟩ := K78h;refine zEg Tryz.call26 Tryz.func26 rfl Tryz.ntmps26 (α := (List Int × List Int) × List Int × List Int) (β := Case) (fun _ => True) (fun _ y => zEw y /\ zZ1 y) (fun x => [lngs x.1.1, lngs x.1.2, lngs x.2.1, lngs x.2.2]) (fun _ y => zJ6 y) ?_;rintro ⟨⟨A, B⟩, C, L⟩ _;refine ⟨by simp, ?_⟩
 repeat' (first | (refine zD (K' := ?_) (s' := ?_) (fun F w0 fn hE => ?_) ?_; rotate_left 2; focus ((first | apply zB | fail); (repeat' (first | refine wA ?_ | refine zC qS qR ?_ ?_ | refine zO [1] K77 qR qD qZ qF ?_ ⟨L, _, _, (by decide), rfl, rfl, rfl, rfl⟩ qS ?_ | refine zG K34 qD ?_ ⟨B, trivial, rfl, rfl⟩ qS ?_ | refine zG K13 qD ?_ ⟨_, rfl, rfl⟩ qS ?_ | refine zG K76 qD ?_ ⟨A, trivial, rfl, rfl⟩ qS ?_ | refine zG K37 qD ?_ ⟨C, trivial, rfl, rfl⟩ qS ?_ | exact qT | exact hE | exact qP | fail)))) | (refine zA3 qS qC qC ?_ ?_ <;> intro hb hc <;> try (simp at hc; done)))
 have b2 := zA7 L 0 2 (by omega);have b3 := zA7 L (nxA L 0) 3 (by omega);have b4 := zA7 L (nxA L (nxA L (nxA L 0))) 5 (by omega);have b5 := zA7 L (nxA L (nxA L 0)) 5 (by omega);have b6 := g76 A trivial;have b6l := b6.2;generalize hT : IntKind.i64.wrap (1 + nxN L (nxA L 0) 3) = tm;have hT1 : 1 <= tm /\ tm <= 3 := by rw [w64] at hT; omega
 generalize hF : IntKind.i64.wrap (6 + nxN L 0 2) = f;have hF1 : 6 <= f /\ f <= 7 := by rw [w64] at hF; omega
 refine zDc [0, 1, 2, 3, 8, 9, 10, 11, 12] (fun x : List Item × Nat × Nat => [(13, .int .i64 x.2.2)]) (fun x => [(1, zD0 L x.2.1), (2, .var (cC ⟨G34 B, ofR 1, (G37 C).take 3, f, tm, G76 A, x.1, IntKind.i64.wrap (5 + IntKind.i64.wrap (5 * nxN L (nxA L (nxA L 0)) 5)), IntKind.i64.wrap (IntKind.i64.wrap (100 * f) - 1)⟩))]) (fun x => (x.2.2 <= 4 /\ x.1.length <= x.2.2) /\ IRt x.1 /\ ∀ y ∈ x.1, (zDy y.Code (G76 A)).isSome = true /\ f <= y.Term /\ y.Term < f + tm) (fun x => 4 - x.2.2) ([], nxA L (nxA L (nxA L (nxA L 0))), 0) (fun x => qS) ?_ qE qE ?_
 ·exact ⟨⟨by simp, by simp⟩, List.Pairwise.nil, fun y hy => (by cases hy)⟩
 rintro ⟨its, p, k⟩ n ⟨⟨h1, h2⟩, his, hit⟩ ih;simp only at h1 h2 his hit
 (refine zD (K' := ?_) (s' := ?_) (fun F w0 fn hE => ?_) ?_; rotate_left 2; focus ((first | apply zB | fail); (repeat' (first | refine wA ?_ | refine zC qS qR ?_ ?_ | exact rfl | exact hE | exact qP | fail))))
 refine zA3 qS qC qC ?_ ?_ <;> intro hb hc <;> try (simp at hc; done)
 ·simp only [zz3, zyf] at hb
  have hip : its.length <= 1000 /\ IRt its := ⟨by omega, his⟩
  repeat' (first | (refine zD (K' := ?_) (s' := ?_) (fun F w0 fn hE => ?_) ?_; rotate_left 2; focus ((first | apply zKd | fail); (repeat' (first | refine wA ?_ | refine zC qS qR ?_ ?_ | refine zM qS qR ?_ ?_ | refine zJ qK qK ?_ | refine zB3 [1] K77 qR qD qZ qF ?_ ⟨L, _, _, (by omega), rfl, rfl, rfl, rfl⟩ qS ?_ | refine zP K78 qD ?_ ⟨(its, ⟨_, _⟩), hip, rfl, rfl⟩ qS ?_ | exact hE | (show zAl _; simp only [zAl, go_sem, zB2]; (repeat' apply And.intro) <;> first | exact zz0 | exact (zA7 _ _ _ (by omega)).1 | exact (zA7 _ _ _ (by omega)).2 | (refine Int.lt_of_lt_of_le (zA7 _ _ _ (by omega)).2 (by omega)) | (intros; omega)) | exact qT | fail)))) | (refine zA3 qS qC qC ?_ ?_ <;> intro hb hc <;> try (simp at hc; done)))
  refine zQ ih ((G78 (its, ⟨_, _⟩), ?u2, k + 1)) ?_ ?_ ⟨rfl, qE, qE⟩
  ·have c1 := zA7 L p tm (by omega)
   have c2 := zA7 L (nxA L p) ((G76 A).length : Int) (by omega);refine ⟨⟨by simp only; omega, Nat.le_trans (g78 _ hip).1.1 (by simp only; omega)⟩, (g78 _ hip).1.2, fun y hy => ?_⟩
   rcases (g78 _ hip).2 y hy with h | h
   ·exact hit y h
   ·subst h
    refine ⟨yKe b6.1 (by omega), ?_⟩;simp only;rw [w64]; omega
  ·simp only; omega
 ·repeat' (first | (refine zD (K' := ?_) (s' := ?_) (fun F w0 fn hE => ?_) ?_; rotate_left 2; focus ((first | refine zF qR ?_ | fail); (repeat' (first | refine wA ?_ | exact qT | exact hE | fail)))) | (refine zA3 qS qC qC ?_ ?_ <;> intro hb hc <;> try (simp at hc; done)))
  (refine zR (ds := ?ds6) (⟨⟨G34 B, ofR 1, (G37 C).take 3, f, tm, G76 A, its, ?u4, ?u5⟩, ?u6⟩ : {y : Case // zEw y /\ zZ1 y}) qR ?qa6 ?qb6; (case qa6 => (simp only [go_sem]; rfl)); case' qb6 => (refine zAc.le qZ ?_; exact qE))
  have hG := g34 B trivial;have hH := g37 C trivial;refine ⟨⟨hG.pok.1, hG.pok.2, (by show zA0 (ofR 1) = true; decide), b6.1.cat b6.2, (by simp only; omega), (by simp only [zyl]; omega), (by simp only; omega), (by simp only; omega), ?_, zYy hF1, hit, fun j hj => ?_⟩, ⟨hG.school, fun a ha => (hH.2 a (List.mem_of_mem_take ha)).src⟩⟩
  ·generalize nxN L (nxA L (nxA L 0)) 5 = z at b5
   simp only
   rcases (show z = 0 \/ z = 1 \/ z = 2 \/ z = 3 \/ z = 4 by omega) with rfl | rfl | rfl | rfl | rfl <;> decide
  ·exact zEz.1 (yA9 his hj)
structure Arg where (Offers Programme Own Rest : List Int) (O1 O2 O3 : Int)
 deriving Inhabited
@[go_sem] def eArg (a : Arg) : SD := .agg [lngs a.Offers, lngs a.Programme, lngs a.Own, lngs a.Rest, eInt a.O1, eInt a.O2, eInt a.O3]
theorem SLe.take4 {l : List Item} (hl : l.length <= 4) : SLe (.list 2 (if (4 : Int) < l.length then (4 : Int) else l.length).toNat fun i => .agg [.int .i64 (l.getD i default).Term, .str (l.getD i default).Code]) (.list 2 l.length fun i => .agg [.int .i64 (l.getD i default).Term, .str (l.getD i default).Code]) := by
 rw [if_neg (by omega), zya];exact SLe.refl _
theorem K9h : ∃ G : Arg -> Case, (∀ x : Arg, True -> zEw (G x) /\ zZ1 (G x)) /\ FnOK Tryz.prog 9 (fun ds d => ∃ x, True /\ ds = [eArg x] /\ d = zJ6 (G x)) := by
 obtain ⟨G26, g26, K26⟩ := K26h;refine ⟨fun x => G26 ((x.Offers, x.Programme), x.Own, x.Rest), fun x _ => g26 _ trivial, ?_⟩;refine zAb Tryz.call9 Tryz.func9 rfl Tryz.ntmps9 ?_;rintro ds d ⟨x, _, rfl, rfl⟩;refine ⟨by simp, fun w0 => ?_⟩;have hl := (g26 ((x.Offers, x.Programme), x.Own, x.Rest) trivial).1.items
 repeat' (first | refine wA ?_ | refine zC qS qR ?_ ?_ | refine zG K26 qD ?_ ⟨((x.Offers, x.Programme), x.Own, x.Rest), trivial, rfl, rfl⟩ qS ?_ | refine zT qR qS ?_ | exact qT | exact qP | fail)
 (refine zAc.le qZ ?_; repeat' (first | exact zz0 | exact SLe.refl _ | refine SLe.agg ?_ | refine SLe.tup ?_ | refine And.intro ?_ ?_ | exact SLe.nils | refine SLe.int ?_ | refine SLe.bool ?_ | refine SLe.str ?_))
 all_goals exact SLe.take4 hl
def yJ5 (d : Nat) (c : Case) : Bool := (List.range (2 ^ c.Items.length)).any fun ch => zXh c (itT c ch c.Items.length) 0 (itT c ch c.Items.length).length && yKk d c.Programme c.Scale (acT c ch c.Items.length) (zCz c)
theorem yHu (d : Nat) (c : Case) (h1 : zIb (zCz c)) (h2 : ∀ ch, ∀ a ∈ acT c ch c.Items.length, zIb a.Day) : zZy d c = yJ5 d c := by
 unfold zZy yJ5
 congr 1
 funext ch
 rw [yB6, zTy d _ _ _ _ h1 (h2 ch)]
def cA1 : ByteArray := ⟨#[65, 49]⟩
def cB1 : ByteArray := ⟨#[66, 49]⟩
def cC1 : ByteArray := ⟨#[67, 49]⟩
def sA (c : ByteArray) (cr src bun : Int) : Ach := ⟨⟨1, c⟩, cr, 60, 0, [src], bun, []⟩
def sP (n : Need) : Programme := ⟨1, 1, 1, 0, ⟨#[76, 97, 119]⟩, n, 0, 0, 0, []⟩
def sS : Scale := ⟨0, 100, 50⟩
def sL : List Ach := [sA cA1 5 1 0, sA cB1 5 2 0]
def n1 : Need := .mk 1 0 0 [⟨1, cA1⟩] []
def nCr : Need := .mk 2 10 0 [⟨1, cA1⟩, ⟨1, cB1⟩] []
def yGs : Need := .mk 3 0 0 [] [n1, n1]
def zUy : Need := .mk 4 1 0 [] [n1, n1]
def nC : Need := .mk 1 0 50 [⟨1, cC1⟩] []
def sC (most : Int) : Case := ⟨sP nC, sS, [], 4, 2, [⟨cA1, 5, 1, [1], []⟩, ⟨cB1, 5, 30, [1], []⟩, ⟨cC1, 5, 30, [], [cA1]⟩], [⟨4, cA1⟩, ⟨4, cB1⟩, ⟨5, cC1⟩], most, 399⟩
theorem yIn : zD1 cA1 := ⟨by decide, by decide, fun i h => by
 have h' : i < 2 := h
 match i, h' with
 | 0, _ => show okB 65; unfold okB; omega
 | 1, _ => show okB 49; unfold okB; omega⟩
theorem yIm : zD1 cB1 := ⟨by decide, by decide, fun i h => by
 have h' : i < 2 := h
 match i, h' with
 | 0, _ => show okB 66; unfold okB; omega
 | 1, _ => show okB 49; unfold okB; omega⟩
theorem yKn : zD1 cC1 := ⟨by decide, by decide, fun i h => by
 have h' : i < 2 := h
 match i, h' with
 | 0, _ => show okB 67; unfold okB; omega
 | 1, _ => show okB 49; unfold okB; omega⟩
theorem nok1 (d : Nat) : NOk d n1 := by
 have hs : zJ8 n1 := fun c hc => by
  obtain rfl := List.mem_singleton.1 hc;exact yIn.asc
 cases d
 ·exact ⟨hs, rfl⟩
 ·exact ⟨hs, fun x hx => by simp [n1, Need.L] at hx⟩
theorem pok (n : Need) (h : NOk 3 n) (hc : (zAd 3 1 n).length <= 1000) : POk 3 (sP n) := ⟨⟨h, hc⟩, by show (3 : Nat) <= 100000; omega, fun x hx => by simp [sP] at hx⟩
theorem yJ6 : POk 3 (sP nCr) := pok _ ⟨fun c hc => by
  rcases List.mem_cons.1 hc with rfl | hc
  ·exact yIn.asc
  ·obtain rfl := List.mem_singleton.1 hc
   exact yIm.asc, fun x hx => by simp [nCr, Need.L] at hx⟩ (by decide)
theorem yHv : POk 3 (sP yGs) := pok _ ⟨fun c hc => by simp [yGs, Need.Set] at hc, fun x hx => by
  have : x = n1 := by simpa [yGs, Need.L] using hx
  subst this;exact nok1 2⟩ (by decide)
theorem yE1 : POk 3 (sP zUy) := pok _ ⟨fun c hc => by simp [zUy, Need.Set] at hc, fun x hx => by
  have : x = n1 := by simpa [zUy, Need.L] using hx
  subst this;exact nok1 2⟩ (by decide)
theorem pokC : POk 3 (sP nC) := pok _ ⟨fun c hc => by
  obtain rfl := List.mem_singleton.1 hc;exact yKn.asc, fun x hx => by simp [nC, Need.L] at hx⟩ (by decide)
theorem yJg : zIb 0 := by unfold zIb; decide
theorem dayW (x : Int) : zIb (zU6 x) := by
 have h : ∀ y : Int, -9223372036854775808 <= IntKind.i64.wrap y /\ IntKind.i64.wrap y < 9223372036854775808 := fun y => by rw [w64]; omega
 exact zV6 _ (h _).1 (h _).2
theorem sLd : ∀ a ∈ sL, zIb a.Day := fun a ha => by
 have : a = sA cA1 5 1 0 \/ a = sA cB1 5 2 0 := by simpa [sL] using ha
 rcases this with rfl | rfl <;> exact yJg
theorem yJ8 : pw pair [sA cA1 5 5 0, sA cB1 5 5 0] = false := by decide +kernel
theorem yJ7 : pw pair [sA cA1 5 5 2, sA cB1 5 5 2] = true := by decide +kernel
theorem yKl : zF7 3 (sP nCr) sS sL 0 = true := (zTy 3 _ _ _ _ yJg sLd).trans (by decide +kernel)
theorem yIh : zF7 3 (sP yGs) sS sL 0 = false := (zTy 3 _ _ _ _ yJg sLd).trans (by decide +kernel)
theorem yF4 : zF7 3 (sP zUy) sS sL 0 = true := (zTy 3 _ _ _ _ yJg sLd).trans (by decide +kernel)
theorem zUf (c : Case) (h : ∀ a ∈ c.Has, zIb a.Day) (ch : Nat) : ∀ k, ∀ a ∈ acT c ch k, zIb a.Day
 | 0 => h
 | k + 1 => fun a ha => by
  rw [acT] at ha
  rcases List.mem_append.1 ha with ha | ha
  ·exact zUf c h ch k a ha
  ·split at ha
   ·obtain rfl := List.mem_singleton.1 ha
    exact dayW _
   ·cases ha
theorem zXe (d : Nat) (c : Case) (h : ∀ a ∈ c.Has, zIb a.Day) : zZy d c = yJ5 d c := yHu d c (dayW _) fun ch => zUf c h ch _
theorem posT : zZy 3 (sC 10) = true := (zXe 3 _ fun a ha => by cases ha).trans (by decide +kernel)
theorem posN : zZy 3 (sC 4) = false := (zXe 3 _ fun a ha => by cases ha).trans (by decide +kernel)
end Go.Sx
namespace Go.Sx
theorem FnOK.sle {P : Program} {f : Nat} {R : List SD -> SD -> Prop} (hf : FnOK P f R) : FnOK P f (fun ds d => ∃ ds0, zCr ds ds0 /\ R ds0 d) :=
 ⟨hf.call, fun ds d ⟨ds0, h1, hr⟩ h e w vs gh sb hv => hf.ok ds0 d hr h e w vs gh sb (h1.repT hv)⟩
theorem zCr.nth : ∀ {l m : List SD} (i : Nat), zCr l m -> i < l.length -> SLe (zBe l i) (zBe m i)
 | [], _, i, _, h => absurd h (zyi i)
 | a :: r, [], i, h, _ => by cases h
 | a :: r, b :: s, 0, h, _ => h.1
 | a :: r, b :: s, i + 1, h, hi => zCr.nth (l := r) (m := s) i h.2 (by simpa using hi)
theorem zPl {α : Type} [Inhabited α] (g : α -> SD) : ∀ (xs : List α) (i : Nat), i < xs.length -> zBe (xs.map g) i = g (xs.getD i default)
 | [], i, h => absurd h (zyi i)
 | a :: r, 0, _ => rfl
 | a :: r, i + 1, h => by
  simp only [List.map_cons, zBe, List.getD_cons_succ];exact zPl g r i (by simpa using h)
theorem SLe.listS {es n n' : Nat} {f f' : Nat -> SD} (hn : n = n') (h : ∀ i, i < n -> SLe (f i) (f' i)) : SLe (.list es n f) (.list es n' f') := fun hp e v x => by
 subst hn;simp only [rep] at x |-;obtain ⟨a, cap, h1, h2, h3, h4⟩ := x;refine ⟨a, cap, h1, h2, h3, fun h0 => ?_⟩;obtain ⟨ad, cs, T, fr, g1, g2, g3, g4⟩ := h4 h0;refine ⟨ad, cs, T, fr, g1, g2, g3, fun i hi => ?_⟩;obtain ⟨u, hu, r⟩ := g4 i hi;exact ⟨u, fun e => h i hi _ _ _ (hu e), r⟩
theorem SLe.lit {α : Type} [Inhabited α] {es n : Nat} {l : List SD} {g : α -> SD} {xs : List α} (hn : n = xs.length) (hl : l.length = xs.length) (h : zCr l (xs.map g)) : SLe (.list es n (zBe l)) (zAj es g xs) :=
 SLe.listS hn fun i hi => by
  have := zCr.nth i h (by omega)
  rwa [zPl g xs i (by omega)] at this
theorem SLe.off {c : ByteArray} {cr pl : Int} {s : List Int} {n : List ByteArray} {d e : SD} (hs : SLe d (ints s)) (hn : SLe e (strs n)) : SLe (.agg [.str c, .int .i64 cr, .int .i64 pl, d, e]) (zAt ⟨c, cr, pl, s, n⟩) :=
 SLe.agg ⟨SLe.refl _, SLe.refl _, SLe.refl _, hs, hn, trivial⟩
theorem SLe.one (x : ByteArray) : SLe (.list 1 1 fun i => .str ([x].getD i ByteArray.empty)) (strs [x]) := SLe.refl _
open Go.Proofs Go.RowKit
attribute [local irreducible] Run zAg zAs zAc SLe OLe
set_option maxHeartbeats 2000000
set_option maxRecDepth 8000
theorem K21 : FnOK Tryz.prog 21 (fun ds d => ∃ (c : ByteArray) (cr src : Int), ds = [.str c, .int .i64 cr, .int .i64 src] /\ d = zCk (sA c cr src 0)) := by
 refine zAb Tryz.call21 Tryz.func21 rfl Tryz.ntmps21 ?_;rintro ds d ⟨c, cr, src, rfl, rfl⟩;refine ⟨by simp, fun w0 => ?_⟩
 repeat' (first | refine wA ?_ | refine zT qR qS ?_ | exact qT | fail)
 refine zAc.le qZ ?_;exact SLe.agg ⟨SLe.refl _, SLe.refl _, SLe.refl _, SLe.refl _, SLe.refl _, SLe.refl _, SLe.refl _, SLe.nil0, trivial⟩
theorem K22 : FnOK Tryz.prog 22 (fun ds d => ∃ n : Need, ds = [zAh n] /\ d = zGx (sP n)) := by
 refine zAb Tryz.call22 Tryz.func22 rfl Tryz.ntmps22 ?_;rintro ds d ⟨n, rfl, rfl⟩;refine ⟨by simp, fun w0 => ?_⟩
 repeat' (first | refine wA ?_ | refine zT qR qS ?_ | exact qT | fail)
 refine zAc.le qZ ?_;exact SLe.agg ⟨SLe.refl _, SLe.refl _, SLe.refl _, SLe.refl _, SLe.refl _, SLe.refl _, SLe.refl _, SLe.refl _, SLe.refl _, SLe.refl _, SLe.refl _, SLe.refl _, SLe.refl _, SLe.nil0, trivial⟩
end Go.Sx
namespace Go.Sx
open Go.Proofs
theorem SLe.two {a b : SD} {x y : Need} (ha : SLe a (zAh x)) (hb : SLe b (zAh y)) : SLe (.list 5 2 (zBe [a, b])) (.list 5 [x, y].length fun i => zBe (zDh [x, y]) i) :=
 by
 have h1 : SLe (.list 5 2 (zBe [a, b])) (zAj 5 zAh [x, y]) := SLe.lit rfl rfl ⟨ha, hb, trivial⟩;exact fun h e v hv => SLe.needs [x, y] h e v (h1 h e v hv)
theorem SLe.hd {α : Type} [Inhabited α] {es : Nat} {a : SD} {r : List SD} {g : α -> SD} {x : α} (h : SLe a (g x)) : SLe (.list es 1 (zBe (a :: r))) (zAj es g [x]) :=
 SLe.listS rfl fun i hi => by
  have : i = 0 := by omega
  subst this;exact h
theorem SLe.cse {m : Int} {a1 a2 a3 b1 b2 b3 d1 d2 : SD} (h1 : SLe a1 (zAt ⟨cA1, 5, 1, [1], []⟩)) (h2 : SLe a2 (zAt ⟨cB1, 5, 30, [1], []⟩)) (h3 : SLe a3 (zAt ⟨cC1, 5, 30, [], [cA1]⟩))
  (k1 : SLe b1 (zCv ⟨4, cA1⟩)) (k2 : SLe b2 (zCv ⟨4, cB1⟩)) (k3 : SLe b3 (zCv ⟨5, cC1⟩)) (e1 : d1 = .list 5 3 (zBe [a1, a2, a3])) (e2 : d2 = .list 2 3 (zBe [b1, b2, b3])) :
  SLe (.agg (zJu (sP nC) ++ [.int .i64 0, .int .i64 100, .int .i64 50, .nils, .int .i64 4, .int .i64 2, d1, d2, .int .i64 m, .int .i64 399])) (zJ6 (sC m)) := by
 subst e1 e2
 exact SLe.agg ⟨SLe.refl _, SLe.refl _, SLe.refl _, SLe.refl _, SLe.refl _, SLe.refl _, SLe.refl _, SLe.refl _, SLe.refl _, SLe.refl _, SLe.refl _, SLe.refl _, SLe.refl _, SLe.refl _, SLe.refl _, SLe.refl _, SLe.refl _, SLe.nil0, SLe.refl _, SLe.refl _,
  SLe.lit rfl rfl ⟨h1, h2, h3, trivial⟩, SLe.lit rfl rfl ⟨k1, k2, k3, trivial⟩, SLe.refl _, SLe.refl _, trivial⟩
theorem SLe.n1 : SLe (.agg [.int .i64 1, .int .i64 0, .int .i64 0, .list 2 1 (zBe [.agg [.int .i64 1, .str cA1], .agg [.int .i64 1, .str cB1]]), .nils]) (zAh n1) :=
 SLe.agg ⟨SLe.refl _, SLe.refl _, SLe.refl _, SLe.hd (SLe.refl _), SLe.nil0, trivial⟩
theorem K16a : FnOK Tryz.prog 16 (fun ds d => zCr ds [zAj 8 zCk [sA cA1 5 5 0, sA cB1 5 5 0]] /\ d = .bool false) := K16.sle.weaken fun ds d ⟨h1, h2⟩ => ⟨_, h1, _, rfl, h2.trans (by rw [yJ8])⟩
theorem K16b : FnOK Tryz.prog 16 (fun ds d => zCr ds [zAj 8 zCk [sA cA1 5 5 2, sA cB1 5 5 2]] /\ d = .bool true) := K16.sle.weaken fun ds d ⟨h1, h2⟩ => ⟨_, h1, _, rfl, h2.trans (by rw [yJ7])⟩
theorem yJn (n : Need) : FnOK Tryz.prog 22 (fun ds d => zCr ds [zAh n] /\ d = zGx (sP n)) := K22.sle.weaken fun ds d ⟨h1, h2⟩ => ⟨_, h1, n, rfl, h2⟩
theorem yKv (n : Need) (hn : POk 3 (sP n)) (b : Bool) (hb : zF7 3 (sP n) sS sL 0 = b) : FnOK Tryz.prog 14 (fun ds d => zCr ds [zGx (sP n), zDz sS, zAj 8 zCk sL, eInt 0] /\ d = .bool b) :=
 (K14 3 (by omega) (by decide)).sle.weaken fun ds d ⟨h1, h2⟩ => ⟨_, h1, _, _, _, _, hn, rfl, h2.trans (by rw [hb])⟩
theorem K10w (m : Int) (b : Bool) (hb : zZy 3 (sC m) = b) : FnOK Tryz.prog 10 (fun ds d => zCr ds [zJ6 (sC m)] /\ d = .bool b) :=
 (K10 3 (by omega) (by decide)).sle.weaken fun ds d ⟨h1, h2⟩ => ⟨_, h1, _, ⟨pokC, by show (3 : Nat) <= 10; omega, by show (0 : Nat) <= 1000; omega⟩, rfl, h2.trans (by rw [hb])⟩
open Go.Proofs Go.RowKit
attribute [local irreducible] Run zAg zAs zAc SLe OLe
set_option maxHeartbeats 2000000
set_option maxRecDepth 8000
theorem K7 : FnOK Tryz.prog 7 (fun ds d => ds = [] /\ d = .bool true) := by
 have K22u := yJn nCr;have K22v := yJn yGs;have K22w := yJn zUy;have K22x := yJn nC;have K14u := yKv nCr yJ6 true yKl;have K14v := yKv yGs yHv false yIh;have K14x := yKv zUy yE1 true yF4;refine zAb Tryz.call7 Tryz.func7 rfl Tryz.ntmps7 ?_;rintro ds d ⟨rfl, rfl⟩;refine ⟨by simp, fun w0 => ?_⟩;have K10a := K10w 10 true posT;have K10b := K10w 4 false posN
 repeat' (first | refine wA ?_ | refine zC qS qR ?_ ?_ | refine zM qS qR ?_ ?_ | refine zJ qK qK ?_ | refine zG K21 qD ?_ ⟨cA1, _, _, rfl, rfl⟩ qS ?_ | refine zG K21 qD ?_ ⟨cB1, _, _, rfl, rfl⟩ qS ?_ | refine zG K16a qD ?_ (by exact ⟨⟨SLe.lit rfl rfl ⟨SLe.refl _, SLe.refl _, trivial⟩, trivial⟩, rfl⟩) qS ?_ | refine zN 23 qR qS K16b qD (fun hg => ?_) (fun _ => (by exact ⟨⟨SLe.lit rfl rfl ⟨SLe.refl _, SLe.refl _, trivial⟩, trivial⟩, rfl⟩)) qS ?_ | refine zP K22u qD ?_ (by exact ⟨⟨SLe.agg ⟨SLe.refl _, SLe.refl _, SLe.refl _, SLe.lit rfl rfl ⟨SLe.refl _, SLe.refl _, trivial⟩, SLe.nil0, trivial⟩, trivial⟩, rfl⟩) qS ?_ | refine zP K22v qD ?_ (by exact ⟨⟨SLe.agg ⟨SLe.refl _, SLe.refl _, SLe.refl _, SLe.nil0, SLe.two (x := n1) (y := n1) SLe.n1 SLe.n1, trivial⟩, trivial⟩, rfl⟩) qS ?_ | refine zP K22w qD ?_ (by exact ⟨⟨SLe.agg ⟨SLe.refl _, SLe.refl _, SLe.refl _, SLe.nil0, SLe.two (x := n1) (y := n1) SLe.n1 SLe.n1, trivial⟩, trivial⟩, rfl⟩) qS ?_ | refine zP K22x qD ?_ (by exact ⟨⟨SLe.agg ⟨SLe.refl _, SLe.refl _, SLe.refl _, SLe.hd (SLe.refl _), SLe.nil0, trivial⟩, trivial⟩, rfl⟩) qS ?_ | refine zP K14u qD ?_ (by exact ⟨⟨SLe.refl _, SLe.refl _, SLe.lit rfl rfl ⟨SLe.refl _, SLe.refl _, trivial⟩, SLe.refl _, trivial⟩, rfl⟩) qS ?_ | refine zP K14v qD ?_ (by exact ⟨⟨SLe.refl _, SLe.refl _, SLe.lit rfl rfl ⟨SLe.refl _, SLe.refl _, trivial⟩, SLe.refl _, trivial⟩, rfl⟩) qS ?_ | refine zP K14x qD ?_ (by exact ⟨⟨SLe.refl _, SLe.refl _, SLe.lit rfl rfl ⟨SLe.refl _, SLe.refl _, trivial⟩, SLe.refl _, trivial⟩, rfl⟩) qS ?_ | refine zN 93 qR qS K10a qD (fun hg => ?_) (fun _ => (by exact ⟨⟨SLe.cse (SLe.off (SLe.refl _) SLe.nil0) (SLe.off (SLe.refl _) SLe.nil0) (SLe.off SLe.nil0 (SLe.one _)) (SLe.refl _) (SLe.refl _) (SLe.refl _) rfl rfl, trivial⟩, rfl⟩)) qS ?_ | refine zN 97 qR qS K10b qD (fun hg => ?_) (fun _ => (by exact ⟨⟨SLe.cse (SLe.off (SLe.refl _) SLe.nil0) (SLe.off (SLe.refl _) SLe.nil0) (SLe.off SLe.nil0 (SLe.one _)) (SLe.refl _) (SLe.refl _) (SLe.refl _) rfl rfl, trivial⟩, rfl⟩)) qS ?_ | refine zBg 23 qR qD ?_ | refine zE qR ?_ | exact qT | exact zAc.bool rfl | exact qP | fail)
 all_goals skip
end Go.Sx
namespace Go.Sx
open Go.Proofs
theorem K10p : FnOK Tryz.prog 10 (fun ds v => ∃ c : Case, (POk 4 c.Programme /\ c.Items.length <= 10 /\ c.Has.length <= 1000) /\ ds = [zJ6 c] /\ v = .bool (zZy 4 c)) := K10 4 (by omega) (by decide)
theorem yE2 (c : Case) : zXf c = 0 \/ zXf c = 60 := by
 unfold zXf;split
 ·exact .inl rfl
 ·exact .inr rfl
open Go.Proofs Go.RowKit
attribute [local irreducible] Run zAg zAs zAc SLe OLe
set_option maxHeartbeats 2000000
set_option maxRecDepth 8000
theorem K6 : FnOK Tryz.prog 6 (fun ds d => ∃ a : Arg, True /\ ds = [eArg a] /\ d = .bool true) := by
 obtain ⟨G9, g9, K9⟩ := K9h;refine zAb Tryz.call6 Tryz.func6 rfl Tryz.ntmps6 ?_;rintro ds d ⟨a, -, rfl, rfl⟩;refine ⟨by simp, fun w0 => ?_⟩;obtain ⟨c1, c2⟩ := g9 a trivial;have hl := yBa c1 c2;have hp : POk 4 (G9 a).Programme /\ (G9 a).Items.length <= 10 /\ (G9 a).Has.length <= 1000 := ⟨c1.prog, Nat.le_trans c1.items (by omega), Nat.le_trans c1.has (by omega)⟩
 rcases yE2 (G9 a) with h0 | h0
 ·rw [h0] at hl
  repeat' (first | refine wB ?_ | refine zC (by simp only [go_sem, hl, h0]; rfl) qR ?_ ?_ | refine zG K7 (by simp only [go_sem, hl, h0]; first | done | rfl) ?_ ⟨rfl, rfl⟩ (by simp only [go_sem, hl, h0]; rfl) ?_ | refine zG K9 (by simp only [go_sem, hl, h0]; first | done | rfl) ?_ ⟨_, trivial, rfl, rfl⟩ (by simp only [go_sem, hl, h0]; rfl) ?_ | refine zG K20 (by simp only [go_sem, hl, h0]; first | done | rfl) ?_ ⟨_, c1, rfl, rfl⟩ (by simp only [go_sem, hl, h0]; rfl) ?_ | refine zN 26 qR (by simp only [go_sem, hl, h0]; rfl) K10p (by simp only [go_sem, hl, h0]; first | done | rfl) (fun hg => ?_) (fun _ => ⟨_, hp, rfl, rfl⟩) (by simp only [go_sem, hl, h0]; rfl) ?_ | refine zE qR ?_ | exact qT | exact zAc.bool rfl | exact qP | fail)
  all_goals trace_state
 ·rw [h0] at hl
  repeat' (first | refine wB ?_ | refine zC (by simp only [go_sem, hl, h0]; rfl) qR ?_ ?_ | refine zG K7 (by simp only [go_sem, hl, h0]; first | done | rfl) ?_ ⟨rfl, rfl⟩ (by simp only [go_sem, hl, h0]; rfl) ?_ | refine zG K9 (by simp only [go_sem, hl, h0]; first | done | rfl) ?_ ⟨_, trivial, rfl, rfl⟩ (by simp only [go_sem, hl, h0]; rfl) ?_ | refine zG K20 (by simp only [go_sem, hl, h0]; first | done | rfl) ?_ ⟨_, c1, rfl, rfl⟩ (by simp only [go_sem, hl, h0]; rfl) ?_ | refine zN 26 qR (by simp only [go_sem, hl, h0]; rfl) K10p (by simp only [go_sem, hl, h0]; first | done | rfl) (fun hg => ?_) (fun _ => ⟨_, hp, rfl, rfl⟩) (by simp only [go_sem, hl, h0]; rfl) ?_ | refine zE qR ?_ | exact qT | exact zAc.bool rfl | exact qP | fail)
  all_goals trace_state
end Go.Sx
