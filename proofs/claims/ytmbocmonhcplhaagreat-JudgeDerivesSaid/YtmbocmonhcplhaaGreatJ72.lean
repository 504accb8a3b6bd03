/- Part of the proof that the laws of the judge return true for every input: J70, J71, J72. -/
import Derived.Test.YtmbocmonhcplhaaGreatJ52
set_option linter.all false
namespace Go.Sx
def cA1 : ByteArray := ⟨#[65, 49]⟩
def cB1 : ByteArray := ⟨#[66, 49]⟩
def cC1 : ByteArray := ⟨#[67, 49]⟩
def sA (c : ByteArray) (cr src bun : Int) : Ach := ⟨⟨1, c⟩, cr, 60, 0, [src], bun, []⟩
def sP (n : Need) : Programme := ⟨1, 1, 1, 0, ⟨#[76, 97, 119]⟩, n, 0, 0, 0, []⟩
def sS : Scale := ⟨0, 100, 50⟩
def sL : List Ach := [sA cA1 5 1 0, sA cB1 5 2 0]
def n1 : Need := .mk 1 0 0 [⟨1, cA1⟩] []
def nCr : Need := .mk 2 10 0 [⟨1, cA1⟩, ⟨1, cB1⟩] []
def nAll : Need := .mk 3 0 0 [] [n1, n1]
def nSome : Need := .mk 4 1 0 [] [n1, n1]
def nC : Need := .mk 1 0 50 [⟨1, cC1⟩] []
def sC (most : Int) : Case := ⟨sP nC, sS, [], 4, 2, [⟨cA1, 5, 1, [1], []⟩, ⟨cB1, 5, 30, [1], []⟩, ⟨cC1, 5, 30, [], [cA1]⟩], [⟨4, cA1⟩, ⟨4, cB1⟩, ⟨5, cC1⟩], most, 399⟩
theorem codeA : CodeOk cA1 := ⟨by decide, by decide, fun i h => by
 have h' : i < 2 := h
 match i, h' with
 | 0, _ => show okB 65; unfold okB; omega
 | 1, _ => show okB 49; unfold okB; omega⟩
theorem codeBo : CodeOk cB1 := ⟨by decide, by decide, fun i h => by
 have h' : i < 2 := h
 match i, h' with
 | 0, _ => show okB 66; unfold okB; omega
 | 1, _ => show okB 49; unfold okB; omega⟩
theorem codeC : CodeOk cC1 := ⟨by decide, by decide, fun i h => by
 have h' : i < 2 := h
 match i, h' with
 | 0, _ => show okB 67; unfold okB; omega
 | 1, _ => show okB 49; unfold okB; omega⟩
theorem nok1 (d : Nat) : NOk d n1 := by
 have hs : SetOk n1 := fun c hc => by
  obtain rfl := List.mem_singleton.1 hc
  exact codeA.asc
 cases d
 ·exact ⟨hs, rfl⟩
 ·exact ⟨hs, fun x hx => by simp [n1, Need.L] at hx⟩
theorem pok (n : Need) (h : NOk 3 n) (hc : (nodesF 3 1 n).length ≤ 1000) : POk 3 (sP n) := ⟨⟨h, hc⟩, by show (3 : Nat) ≤ 100000; omega, fun x hx => by simp [sP] at hx⟩
theorem pokCr : POk 3 (sP nCr) := pok _ ⟨fun c hc => by
  rcases List.mem_cons.1 hc with rfl | hc
  ·exact codeA.asc
  ·obtain rfl := List.mem_singleton.1 hc
   exact codeBo.asc, fun x hx => by simp [nCr, Need.L] at hx⟩ (by decide)
theorem pokAll : POk 3 (sP nAll) := pok _ ⟨fun c hc => by simp [nAll, Need.Set] at hc, fun x hx => by
  have : x = n1 := by simpa [nAll, Need.L] using hx
  subst this
  exact nok1 2⟩ (by decide)
theorem pokSome : POk 3 (sP nSome) := pok _ ⟨fun c hc => by simp [nSome, Need.Set] at hc, fun x hx => by
  have : x = n1 := by simpa [nSome, Need.L] using hx
  subst this
  exact nok1 2⟩ (by decide)
theorem pokC : POk 3 (sP nC) := pok _ ⟨fun c hc => by
  obtain rfl := List.mem_singleton.1 hc
  exact codeC.asc, fun x hx => by simp [nC, Need.L] at hx⟩ (by decide)
theorem day0 : DayOk 0 := by unfold DayOk; decide
theorem dayW (x : Int) : DayOk (lastP x) := by
 have h : ∀ y : Int, -9223372036854775808 ≤ IntKind.i64.wrap y ∧ IntKind.i64.wrap y < 9223372036854775808 := fun y => by rw [w64]; omega
 exact term_eq _ (h _).1 (h _).2
theorem sLd : ∀ a ∈ sL, DayOk a.Day := fun a ha => by
 have : a = sA cA1 5 1 0 ∨ a = sA cB1 5 2 0 := by simpa [sL] using ha
 rcases this with rfl | rfl <;> exact day0
theorem onceF : pw pair [sA cA1 5 5 0, sA cB1 5 5 0] = false := by decide +kernel
theorem onceT : pw pair [sA cA1 5 5 2, sA cB1 5 5 2] = true := by decide +kernel
theorem derCr : derF 3 (sP nCr) sS sL 0 = true := (der_eq 3 _ _ _ _ day0 sLd).trans (by decide +kernel)
theorem derAll : derF 3 (sP nAll) sS sL 0 = false := (der_eq 3 _ _ _ _ day0 sLd).trans (by decide +kernel)
theorem derSome : derF 3 (sP nSome) sS sL 0 = true := (der_eq 3 _ _ _ _ day0 sLd).trans (by decide +kernel)
theorem acT_days (c : Case) (h : ∀ a ∈ c.Has, DayOk a.Day) (ch : Nat) : ∀ k, ∀ a ∈ acT c ch k, DayOk a.Day
 | 0 => h
 | k + 1 => fun a ha => by
  rw [acT] at ha
  rcases List.mem_append.1 ha with ha | ha
  ·exact acT_days c h ch k a ha
  ·split at ha
   ·obtain rfl := List.mem_singleton.1 ha
    exact dayW _
   ·cases ha
theorem pos_eq' (d : Nat) (c : Case) (h : ∀ a ∈ c.Has, DayOk a.Day) : posF d c = posR d c := pos_eq d c (dayW _) fun ch => acT_days c h ch _
theorem posT : posF 3 (sC 10) = true := (pos_eq' 3 _ fun a ha => by cases ha).trans (by decide +kernel)
theorem posN : posF 3 (sC 4) = false := (pos_eq' 3 _ fun a ha => by cases ha).trans (by decide +kernel)
end Go.Sx
namespace Go.Sx
theorem FnOK.sle {P : Program} {f : Nat} {R : List SD → SD → Prop} (hf : FnOK P f R) : FnOK P f (fun ds d => ∃ ds0, SLeL ds ds0 ∧ R ds0 d) :=
 ⟨hf.call, fun ds d ⟨ds0, h1, hr⟩ h e w vs gh sb hv => hf.ok ds0 d hr h e w vs gh sb (h1.repT hv)⟩
theorem SLeL.nth : ∀ {l m : List SD} (i : Nat), SLeL l m → i < l.length → SLe (nthSD l i) (nthSD m i)
 | [], _, i, _, h => absurd h (Nat.not_lt_zero i)
 | a :: r, [], i, h, _ => by cases h
 | a :: r, b :: s, 0, h, _ => h.1
 | a :: r, b :: s, i + 1, h, hi => SLeL.nth (l := r) (m := s) i h.2 (by simpa using hi)
theorem nthSD_map {α : Type} [Inhabited α] (g : α → SD) : ∀ (xs : List α) (i : Nat), i < xs.length → nthSD (xs.map g) i = g (xs.getD i default)
 | [], i, h => absurd h (Nat.not_lt_zero i)
 | a :: r, 0, _ => rfl
 | a :: r, i + 1, h => by
  simp only [List.map_cons, nthSD, List.getD_cons_succ]
  exact nthSD_map g r i (by simpa using h)
theorem SLe.listS {es n n' : Nat} {f f' : Nat → SD} (hn : n = n') (h : ∀ i, i < n → SLe (f i) (f' i)) : SLe (.list es n f) (.list es n' f') := fun hp e v x => by
 subst hn
 simp only [rep] at x ⊢
 obtain ⟨a, cap, h1, h2, h3, h4⟩ := x
 refine ⟨a, cap, h1, h2, h3, fun h0 => ?_⟩
 obtain ⟨ad, cs, T, fr, g1, g2, g3, g4⟩ := h4 h0
 refine ⟨ad, cs, T, fr, g1, g2, g3, fun i hi => ?_⟩
 obtain ⟨u, hu, r⟩ := g4 i hi
 exact ⟨u, fun e => h i hi _ _ _ (hu e), r⟩
theorem SLe.lit {α : Type} [Inhabited α] {es n : Nat} {l : List SD} {g : α → SD} {xs : List α} (hn : n = xs.length) (hl : l.length = xs.length) (h : SLeL l (xs.map g)) : SLe (.list es n (nthSD l)) (eList es g xs) :=
 SLe.listS hn fun i hi => by
  have := SLeL.nth i h (by omega)
  rwa [nthSD_map g xs i (by omega)] at this
theorem SLe.off {c : ByteArray} {cr pl : Int} {s : List Int} {n : List ByteArray} {d e : SD} (hs : SLe d (ints s)) (hn : SLe e (strs n)) : SLe (.agg [.str c, .int .i64 cr, .int .i64 pl, d, e]) (eOffer ⟨c, cr, pl, s, n⟩) :=
 SLe.agg ⟨SLe.refl _, SLe.refl _, SLe.refl _, hs, hn, trivial⟩
theorem SLe.one (x : ByteArray) : SLe (.list 1 1 fun i => .str ([x].getD i ByteArray.empty)) (strs [x]) := SLe.refl _
open Go.Proofs Go.RowKit
attribute [local irreducible] Run RunL RunD SLe0 SLe OLe
set_option maxHeartbeats 2000000
set_option maxRecDepth 8000
theorem K21 : FnOK Tryz.prog 21 (fun ds d => ∃ (c : ByteArray) (cr src : Int), ds = [.str c, .int .i64 cr, .int .i64 src] ∧ d = eAch (sA c cr src 0)) := by
 refine fn_intro Tryz.call21 Tryz.func21 rfl Tryz.ntmps21 ?_
 rintro ds d ⟨c, cr, src, rfl, rfl⟩
 refine ⟨by simp, fun w0 => ?_⟩
 repeat' (first | apply zC | apply zA | apply zB | refine zF qS qR ?_ ?_ | refine yA qR qS ?_ | exact True.intro | exact rfl | fail)
 refine SLe0.le qZ ?_
 exact SLe.agg ⟨SLe.refl _, SLe.refl _, SLe.refl _, SLe.refl _, SLe.refl _, SLe.refl _, SLe.refl _, SLe.nil0, trivial⟩
theorem K22 : FnOK Tryz.prog 22 (fun ds d => ∃ n : Need, ds = [eNeedU n] ∧ d = eProg (sP n)) := by
 refine fn_intro Tryz.call22 Tryz.func22 rfl Tryz.ntmps22 ?_
 rintro ds d ⟨n, rfl, rfl⟩
 refine ⟨by simp, fun w0 => ?_⟩
 repeat' (first | apply zC | apply zA | apply zB | refine zF qS qR ?_ ?_ | refine yA qR qS ?_ | exact True.intro | exact rfl | fail)
 refine SLe0.le qZ ?_
 exact SLe.agg ⟨SLe.refl _, SLe.refl _, SLe.refl _, SLe.refl _, SLe.refl _, SLe.refl _, SLe.refl _, SLe.refl _, SLe.refl _, SLe.refl _, SLe.refl _, SLe.refl _, SLe.refl _, SLe.nil0, trivial⟩
end Go.Sx
namespace Go.Sx
open Go.Proofs
theorem SLe.two {a b : SD} {x y : Need} (ha : SLe a (eNeedU x)) (hb : SLe b (eNeedU y)) : SLe (.list 5 2 (nthSD [a, b])) (.list 5 [x, y].length fun i => nthSD (eNeeds [x, y]) i) :=
 by
 have h1 : SLe (.list 5 2 (nthSD [a, b])) (eList 5 eNeedU [x, y]) := SLe.lit rfl rfl ⟨ha, hb, trivial⟩
 exact fun h e v hv => SLe.needs [x, y] h e v (h1 h e v hv)
theorem SLe.hd {α : Type} [Inhabited α] {es : Nat} {a : SD} {r : List SD} {g : α → SD} {x : α} (h : SLe a (g x)) : SLe (.list es 1 (nthSD (a :: r))) (eList es g [x]) :=
 SLe.listS rfl fun i hi => by
  have : i = 0 := by omega
  subst this
  exact h
theorem SLe.cse {m : Int} {a1 a2 a3 b1 b2 b3 d1 d2 : SD} (h1 : SLe a1 (eOffer ⟨cA1, 5, 1, [1], []⟩)) (h2 : SLe a2 (eOffer ⟨cB1, 5, 30, [1], []⟩)) (h3 : SLe a3 (eOffer ⟨cC1, 5, 30, [], [cA1]⟩))
  (k1 : SLe b1 (eItem ⟨4, cA1⟩)) (k2 : SLe b2 (eItem ⟨4, cB1⟩)) (k3 : SLe b3 (eItem ⟨5, cC1⟩)) (e1 : d1 = .list 5 3 (nthSD [a1, a2, a3])) (e2 : d2 = .list 2 3 (nthSD [b1, b2, b3])) :
  SLe (.agg (pCells (sP nC) ++ [.int .i64 0, .int .i64 100, .int .i64 50, .nils, .int .i64 4, .int .i64 2, d1, d2, .int .i64 m, .int .i64 399])) (eCase (sC m)) := by
 subst e1 e2
 exact SLe.agg ⟨SLe.refl _, SLe.refl _, SLe.refl _, SLe.refl _, SLe.refl _, SLe.refl _, SLe.refl _, SLe.refl _, SLe.refl _, SLe.refl _, SLe.refl _, SLe.refl _, SLe.refl _, SLe.refl _, SLe.refl _, SLe.refl _, SLe.refl _, SLe.nil0, SLe.refl _, SLe.refl _,
  SLe.lit rfl rfl ⟨h1, h2, h3, trivial⟩, SLe.lit rfl rfl ⟨k1, k2, k3, trivial⟩, SLe.refl _, SLe.refl _, trivial⟩
theorem SLe.n1 : SLe (.agg [.int .i64 1, .int .i64 0, .int .i64 0, .list 2 1 (nthSD [.agg [.int .i64 1, .str cA1], .agg [.int .i64 1, .str cB1]]), .nils]) (eNeedU n1) :=
 SLe.agg ⟨SLe.refl _, SLe.refl _, SLe.refl _, SLe.hd (SLe.refl _), SLe.nil0, trivial⟩
theorem K16a : FnOK Tryz.prog 16 (fun ds d => SLeL ds [eList 8 eAch [sA cA1 5 5 0, sA cB1 5 5 0]] ∧ d = .bool false) := K16.sle.weaken fun ds d ⟨h1, h2⟩ => ⟨_, h1, _, rfl, h2.trans (by rw [onceF])⟩
theorem K16b : FnOK Tryz.prog 16 (fun ds d => SLeL ds [eList 8 eAch [sA cA1 5 5 2, sA cB1 5 5 2]] ∧ d = .bool true) := K16.sle.weaken fun ds d ⟨h1, h2⟩ => ⟨_, h1, _, rfl, h2.trans (by rw [onceT])⟩
theorem K22a (n : Need) : FnOK Tryz.prog 22 (fun ds d => SLeL ds [eNeedU n] ∧ d = eProg (sP n)) := K22.sle.weaken fun ds d ⟨h1, h2⟩ => ⟨_, h1, n, rfl, h2⟩
theorem K14w (n : Need) (hn : POk 3 (sP n)) (b : Bool) (hb : derF 3 (sP n) sS sL 0 = b) : FnOK Tryz.prog 14 (fun ds d => SLeL ds [eProg (sP n), eScale sS, eList 8 eAch sL, eInt 0] ∧ d = .bool b) :=
 (K14 3 (by omega) (by decide)).sle.weaken fun ds d ⟨h1, h2⟩ => ⟨_, h1, _, _, _, _, hn, rfl, h2.trans (by rw [hb])⟩
theorem K10w (m : Int) (b : Bool) (hb : posF 3 (sC m) = b) : FnOK Tryz.prog 10 (fun ds d => SLeL ds [eCase (sC m)] ∧ d = .bool b) :=
 (K10 3 (by omega) (by decide)).sle.weaken fun ds d ⟨h1, h2⟩ => ⟨_, h1, _, ⟨pokC, by show (3 : Nat) ≤ 10; omega, by show (0 : Nat) ≤ 1000; omega⟩, rfl, h2.trans (by rw [hb])⟩
open Go.Proofs Go.RowKit
attribute [local irreducible] Run RunL RunD SLe0 SLe OLe
set_option maxHeartbeats 2000000
set_option maxRecDepth 8000
theorem K7 : FnOK Tryz.prog 7 (fun ds d => ds = [] ∧ d = .bool true) := by
 have K22u := K22a nCr
 have K22v := K22a nAll
 have K22w := K22a nSome
 have K22x := K22a nC
 have K14u := K14w nCr pokCr true derCr
 have K14v := K14w nAll pokAll false derAll
 have K14x := K14w nSome pokSome true derSome
 refine fn_intro Tryz.call7 Tryz.func7 rfl Tryz.ntmps7 ?_
 rintro ds d ⟨rfl, rfl⟩
 refine ⟨by simp, fun w0 => ?_⟩
 have K10a := K10w 10 true posT
 have K10b := K10w 4 false posN
 repeat' (first | apply zC | apply zA | apply zP | apply zB | refine zF qS qR ?_ ?_ | refine zU qS qR ?_ ?_ | refine zQ qK qK ?_ | refine zM K21 qD ?_ ⟨cA1, _, _, rfl, rfl⟩ qS ?_ | refine zM K21 qD ?_ ⟨cB1, _, _, rfl, rfl⟩ qS ?_ | refine zM K16a qD ?_ (by exact ⟨⟨SLe.lit rfl rfl ⟨SLe.refl _, SLe.refl _, trivial⟩, trivial⟩, rfl⟩) qS ?_ | refine zV 23 qR qS K16b qD (fun hg => ?_) (fun _ => (by exact ⟨⟨SLe.lit rfl rfl ⟨SLe.refl _, SLe.refl _, trivial⟩, trivial⟩, rfl⟩)) qS ?_ | refine zX K22u qD ?_ (by exact ⟨⟨SLe.agg ⟨SLe.refl _, SLe.refl _, SLe.refl _, SLe.lit rfl rfl ⟨SLe.refl _, SLe.refl _, trivial⟩, SLe.nil0, trivial⟩, trivial⟩, rfl⟩) qS ?_ | refine zX K22v qD ?_ (by exact ⟨⟨SLe.agg ⟨SLe.refl _, SLe.refl _, SLe.refl _, SLe.nil0, SLe.two (x := n1) (y := n1) SLe.n1 SLe.n1, trivial⟩, trivial⟩, rfl⟩) qS ?_ | refine zX K22w qD ?_ (by exact ⟨⟨SLe.agg ⟨SLe.refl _, SLe.refl _, SLe.refl _, SLe.nil0, SLe.two (x := n1) (y := n1) SLe.n1 SLe.n1, trivial⟩, trivial⟩, rfl⟩) qS ?_ | refine zX K22x qD ?_ (by exact ⟨⟨SLe.agg ⟨SLe.refl _, SLe.refl _, SLe.refl _, SLe.hd (SLe.refl _), SLe.nil0, trivial⟩, trivial⟩, rfl⟩) qS ?_ | refine zX K14u qD ?_ (by exact ⟨⟨SLe.refl _, SLe.refl _, SLe.lit rfl rfl ⟨SLe.refl _, SLe.refl _, trivial⟩, SLe.refl _, trivial⟩, rfl⟩) qS ?_ | refine zX K14v qD ?_ (by exact ⟨⟨SLe.refl _, SLe.refl _, SLe.lit rfl rfl ⟨SLe.refl _, SLe.refl _, trivial⟩, SLe.refl _, trivial⟩, rfl⟩) qS ?_ | refine zX K14x qD ?_ (by exact ⟨⟨SLe.refl _, SLe.refl _, SLe.lit rfl rfl ⟨SLe.refl _, SLe.refl _, trivial⟩, SLe.refl _, trivial⟩, rfl⟩) qS ?_ | refine zV 93 qR qS K10a qD (fun hg => ?_) (fun _ => (by exact ⟨⟨SLe.cse (SLe.off (SLe.refl _) SLe.nil0) (SLe.off (SLe.refl _) SLe.nil0) (SLe.off SLe.nil0 (SLe.one _)) (SLe.refl _) (SLe.refl _) (SLe.refl _) rfl rfl, trivial⟩, rfl⟩)) qS ?_ | refine zV 97 qR qS K10b qD (fun hg => ?_) (fun _ => (by exact ⟨⟨SLe.cse (SLe.off (SLe.refl _) SLe.nil0) (SLe.off (SLe.refl _) SLe.nil0) (SLe.off SLe.nil0 (SLe.one _)) (SLe.refl _) (SLe.refl _) (SLe.refl _) rfl rfl, trivial⟩, rfl⟩)) qS ?_ | refine runL_gT 23 qR qD ?_ | refine zI qR ?_ | exact True.intro | exact rfl | exact SLe0.bool rfl | exact qP | fail)
 all_goals skip
end Go.Sx
