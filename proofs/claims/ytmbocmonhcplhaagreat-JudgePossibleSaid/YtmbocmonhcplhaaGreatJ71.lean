/- Part of the proof that the laws of the judge return true for every input: J70, J71. -/
import Derived.Test.YtmbocmonhcplhaaGreatJ52
import Derived.Test.YtmbocmonhcplhaaGreatJ69
set_option linter.all false
namespace Go.Sx
def cA1 : ByteArray := ⟨#[65, 49]⟩
def cB1 : ByteArray := ⟨#[66, 49]⟩
def cC1 : ByteArray := ⟨#[67, 49]⟩
def sA (c : ByteArray) (cr src bun : Int) : Ach := ⟨⟨1, c⟩, cr, 60, 0, [src], bun, []⟩
def sP (n : Need) : Programme := ⟨1, 1, 1, 0, ⟨#[76, 97, 119]⟩, n, 0, 0, 0, []⟩
def sS : Scale := ⟨0, 100, 50⟩
def sL : List Ach := [sA cA1 5 1 0, sA cB1 5 2 0]
def n1 : Need := .mk 1 0 0 [⟨1, cA1⟩] []
def nCr : Need := .mk 2 10 0 [⟨1, cA1⟩, ⟨1, cB1⟩] []
def nAll : Need := .mk 3 0 0 [] [n1, n1]
def nSome : Need := .mk 4 1 0 [] [n1, n1]
def nC : Need := .mk 1 0 50 [⟨1, cC1⟩] []
def sC (most : Int) : Case := ⟨sP nC, sS, [], 4, 2, [⟨cA1, 5, 1, [1], []⟩, ⟨cB1, 5, 30, [1], []⟩, ⟨cC1, 5, 30, [], [cA1]⟩], [⟨4, cA1⟩, ⟨4, cB1⟩, ⟨5, cC1⟩], most, 399⟩
theorem codeA : CodeOk cA1 := ⟨by decide, by decide, fun i h => by
 have h' : i < 2 := h
 match i, h' with
 | 0, _ => show okB 65; unfold okB; omega
 | 1, _ => show okB 49; unfold okB; omega⟩
theorem codeB : CodeOk cB1 := ⟨by decide, by decide, fun i h => by
 have h' : i < 2 := h
 match i, h' with
 | 0, _ => show okB 66; unfold okB; omega
 | 1, _ => show okB 49; unfold okB; omega⟩
theorem codeC : CodeOk cC1 := ⟨by decide, by decide, fun i h => by
 have h' : i < 2 := h
 match i, h' with
 | 0, _ => show okB 67; unfold okB; omega
 | 1, _ => show okB 49; unfold okB; omega⟩
theorem nok1 (d : Nat) : NOk d n1 := by
 have hs : SetOk n1 := fun c hc => by
  obtain rfl := List.mem_singleton.1 hc
  exact codeA
 cases d
 ·exact ⟨hs, rfl⟩
 ·exact ⟨hs, by simp [n1, Need.L], fun _ => rfl, fun x hx => by simp [n1, Need.L] at hx⟩
theorem pok (n : Need) (h : NOk 3 n) : POk 3 (sP n) := ⟨h, by show (3 : Nat) ≤ 100000; omega, fun x hx => by simp [sP] at hx⟩
theorem pokCr : POk 3 (sP nCr) := pok _ ⟨fun c hc => by
  rcases List.mem_cons.1 hc with rfl | hc
  ·exact codeA
  ·obtain rfl := List.mem_singleton.1 hc
   exact codeB, by simp [nCr, Need.L], fun _ => rfl, fun x hx => by simp [nCr, Need.L] at hx⟩
theorem pokAll : POk 3 (sP nAll) := pok _ ⟨fun c hc => by simp [nAll, Need.Set] at hc, by simp [nAll, Need.L], fun h => by simp [leafR, nAll, Need.Kind] at h, fun x hx => by
  have : x = n1 := by simpa [nAll, Need.L] using hx
  subst this
  exact nok1 2⟩
theorem pokSome : POk 3 (sP nSome) := pok _ ⟨fun c hc => by simp [nSome, Need.Set] at hc, by simp [nSome, Need.L], fun h => by simp [leafR, nSome, Need.Kind] at h, fun x hx => by
  have : x = n1 := by simpa [nSome, Need.L] using hx
  subst this
  exact nok1 2⟩
theorem pokC : POk 3 (sP nC) := pok _ ⟨fun c hc => by
  obtain rfl := List.mem_singleton.1 hc
  exact codeC, by simp [nC, Need.L], fun _ => rfl, fun x hx => by simp [nC, Need.L] at hx⟩
theorem day0 : DayOk 0 := by unfold DayOk; decide
theorem dayW (x : Int) : DayOk (lastP x) := by
 have h : ∀ y : Int, -9223372036854775808 ≤ IntKind.i64.wrap y ∧ IntKind.i64.wrap y < 9223372036854775808 := fun y => by rw [w64]; omega
 exact term_eq _ (h _).1 (h _).2
theorem sLd : ∀ a ∈ sL, DayOk a.Day := fun a ha => by
 have : a = sA cA1 5 1 0 ∨ a = sA cB1 5 2 0 := by simpa [sL] using ha
 rcases this with rfl | rfl <;> exact day0
theorem onceF : pw pair [sA cA1 5 5 0, sA cB1 5 5 0] = false := by decide +kernel
theorem onceT : pw pair [sA cA1 5 5 2, sA cB1 5 5 2] = true := by decide +kernel
theorem derCr : derF 3 (sP nCr) sS sL 0 = true := (der_eq 3 _ _ _ _ day0 sLd).trans (by decide +kernel)
theorem derAll : derF 3 (sP nAll) sS sL 0 = false := (der_eq 3 _ _ _ _ day0 sLd).trans (by decide +kernel)
theorem derSome : derF 3 (sP nSome) sS sL 0 = true := (der_eq 3 _ _ _ _ day0 sLd).trans (by decide +kernel)
theorem acT_days (c : Case) (h : ∀ a ∈ c.Has, DayOk a.Day) (ch : Nat) : ∀ k, ∀ a ∈ acT c ch k, DayOk a.Day
 | 0 => h
 | k + 1 => fun a ha => by
  rw [acT] at ha
  rcases List.mem_append.1 ha with ha | ha
  ·exact acT_days c h ch k a ha
  ·split at ha
   ·obtain rfl := List.mem_singleton.1 ha
    exact dayW _
   ·cases ha
theorem pos_eq' (d : Nat) (c : Case) (h : ∀ a ∈ c.Has, DayOk a.Day) : posF d c = posR d c := pos_eq d c (dayW _) fun ch => acT_days c h ch _
theorem posT : posF 3 (sC 10) = true := (pos_eq' 3 _ fun a ha => by cases ha).trans (by decide +kernel)
theorem posN : posF 3 (sC 4) = false := (pos_eq' 3 _ fun a ha => by cases ha).trans (by decide +kernel)
end Go.Sx
namespace Go.Sx
theorem FnOK.sle {P : Program} {f : Nat} {R : List SD → SD → Prop} (hf : FnOK P f R) : FnOK P f (fun ds d => ∃ ds0, SLeL ds ds0 ∧ R ds0 d) :=
 ⟨hf.call, fun ds d ⟨ds0, h1, hr⟩ h e w vs gh sb hv => hf.ok ds0 d hr h e w vs gh sb (h1.repT hv)⟩
theorem SLeL.nth : ∀ {l m : List SD} (i : Nat), SLeL l m → i < l.length → SLe (nthSD l i) (nthSD m i)
 | [], _, i, _, h => absurd h (Nat.not_lt_zero i)
 | a :: r, [], i, h, _ => by cases h
 | a :: r, b :: s, 0, h, _ => h.1
 | a :: r, b :: s, i + 1, h, hi => SLeL.nth (l := r) (m := s) i h.2 (by simpa using hi)
theorem nthSD_map {α : Type} [Inhabited α] (g : α → SD) : ∀ (xs : List α) (i : Nat), i < xs.length → nthSD (xs.map g) i = g (xs.getD i default)
 | [], i, h => absurd h (Nat.not_lt_zero i)
 | a :: r, 0, _ => rfl
 | a :: r, i + 1, h => by
  simp only [List.map_cons, nthSD, List.getD_cons_succ]
  exact nthSD_map g r i (by simpa using h)
theorem SLe.listS {es n n' : Nat} {f f' : Nat → SD} (hn : n = n') (h : ∀ i, i < n → SLe (f i) (f' i)) : SLe (.list es n f) (.list es n' f') := fun hp e v x => by
 subst hn
 simp only [rep] at x ⊢
 obtain ⟨a, cap, h1, h2, h3, h4⟩ := x
 refine ⟨a, cap, h1, h2, h3, fun h0 => ?_⟩
 obtain ⟨ad, cs, T, fr, g1, g2, g3, g4⟩ := h4 h0
 refine ⟨ad, cs, T, fr, g1, g2, g3, fun i hi => ?_⟩
 obtain ⟨u, hu, r⟩ := g4 i hi
 exact ⟨u, fun e => h i hi _ _ _ (hu e), r⟩
theorem SLe.lit {α : Type} [Inhabited α] {es n : Nat} {l : List SD} {g : α → SD} {xs : List α} (hn : n = xs.length) (hl : l.length = xs.length) (h : SLeL l (xs.map g)) : SLe (.list es n (nthSD l)) (eList es g xs) :=
 SLe.listS hn fun i hi => by
  have := SLeL.nth i h (by omega)
  rwa [nthSD_map g xs i (by omega)] at this
open Go.Proofs Go.RowKit
attribute [local irreducible] Run RunL RunD SLe0 SLe OLe
set_option maxHeartbeats 2000000
set_option maxRecDepth 8000
theorem K21 : FnOK Tryz.prog 21 (fun ds d => ∃ (c : ByteArray) (cr src : Int), ds = [.str c, .int .i64 cr, .int .i64 src] ∧ d = eAch (sA c cr src 0)) := by
 refine fn_intro Tryz.call21 Tryz.func21 rfl Tryz.ntmps21 ?_
 rintro ds d ⟨c, cr, src, rfl, rfl⟩
 refine ⟨by simp, fun w0 => ?_⟩
 repeat' (first | apply zC | apply zA | apply zB | refine zF qS qR ?_ ?_ | refine zZ qR qS ?_ | exact True.intro | exact rfl | fail)
 refine SLe0.le qZ ?_
 exact SLe.agg ⟨SLe.refl _, SLe.refl _, SLe.refl _, SLe.refl _, SLe.refl _, SLe.refl _, SLe.refl _, SLe.nil0, trivial⟩
theorem K22 : FnOK Tryz.prog 22 (fun ds d => ∃ n : Need, ds = [eNeedU n] ∧ d = eProg (sP n)) := by
 refine fn_intro Tryz.call22 Tryz.func22 rfl Tryz.ntmps22 ?_
 rintro ds d ⟨n, rfl, rfl⟩
 refine ⟨by simp, fun w0 => ?_⟩
 repeat' (first | apply zC | apply zA | apply zB | refine zF qS qR ?_ ?_ | refine zZ qR qS ?_ | exact True.intro | exact rfl | fail)
 refine SLe0.le qZ ?_
 exact SLe.agg ⟨SLe.refl _, SLe.refl _, SLe.refl _, SLe.refl _, SLe.refl _, SLe.refl _, SLe.refl _, SLe.refl _, SLe.refl _, SLe.refl _, SLe.refl _, SLe.refl _, SLe.refl _, SLe.nil0, trivial⟩
end Go.Sx
