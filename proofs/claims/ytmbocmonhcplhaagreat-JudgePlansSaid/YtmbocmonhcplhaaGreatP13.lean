/- Lemmas on the judge: P11, P12, P13. -/
import Derived.Test.YtmbocmonhcplhaaGreatP10
import Derived.Test.YtmbocmonhcplhaaGreatS4
import Derived.Test.YtmbocmonhcplhaaGreatS5
set_option linter.all false
set_option maxHeartbeats 20000000
set_option maxRecDepth 8000
namespace Go.Sx
open Go.Proofs Tryz
theorem FnOK.weakR {P : Program} {f : Nat} {R R' : List SD -> SD -> Prop} (hf : FnOK P f R) (h : ∀ ds d', R' ds d' -> ∃ d, R ds d /\ SLe d d') : FnOK P f R' := ⟨hf.call, fun ds d' hr h1 e w vs gh hs hv => by
 obtain ⟨d, hd, hle⟩ := h ds d' hr;refine (hf.ok ds d hd h1 e w vs gh hs hv).mono fun en w' hq => ?_;obtain ⟨v, h', rfl, g1, g2, g3, g4, g5⟩ := hq;exact ⟨v, h', rfl, g1, g2, g3, g4, fun e' => hle _ _ _ (g5 e')⟩⟩
theorem use_any (x : Option (List Int × List Int)) (z : Int) : SLe (.tup [.agg (yJb x), eInt z]) (.tup [.agg [.any, .any], eInt z]) := fun h e v hx => by
 simp only [rep, repT] at hx |-;obtain ⟨vs, rfl, v1, r1, rfl, h1, h2⟩ := hx;refine ⟨_, rfl, v1, r1, rfl, ?_, h2⟩
 have ha : SLe (.agg (yJb x)) (.agg [.any, .any]) := by
  cases x
  ·exact SLe.agg ⟨SLe.any _, SLe.any _, trivial⟩
  ·exact SLe.agg ⟨SLe.any _, SLe.any _, trivial⟩
 have := ha h e v1 (by simp only [rep]; exact h1);simpa only [rep] using this
open Go.Proofs Go.RowKit
attribute [local irreducible] Run zAg zAs OpT zAc SLe OLe
attribute [go_sem] zP7 yJb
@[go_sem] def oPl (c : Case) (l : List Offer) : OB := .var (cC c ++ [zAj 5 zAt l, .omap 1001])
def zZo (c : Case) (l : List Offer) (k : Nat) : Ach := ⟨⟨c.Programme.School, (c.Items.getD k default).Code⟩, (l.getD k default).Credits, c.Scale.Pass, zU6 (c.Items.getD k default).Term, [wr (wr (wr (1000000 * c.Programme.School) + 900000) + (k : Int))], 0, []⟩
def zKv (c : Case) (l : List Offer) (o : Nat) : Nat -> List Ach
 | 0 => c.Has
 | k + 1 => zKv c l o k ++ if o.testBit k then [] else [zZo c l k]
theorem zOv (c : Case) (l : List Offer) (o : Nat) : ∀ k, (zKv c l o k).length <= c.Has.length + k
 | 0 => zyj _
 | k + 1 => by
  have := zOv c l o k;rw [zKv, zye];split <;> simp <;> omega
noncomputable def gE (c : Case) (l : List Offer) (o : Nat) : Bool := (zCa c.Programme c.Scale (zKv c l o c.Items.length) (zCz c)).2 == 0
def dE (D : List Nat) : MK -> Bool
 | .i z => decide (0 <= z) && D.contains z.toNat
 | .s _ => false
noncomputable def vE (c : Case) (l : List Offer) : MK -> SD
 | .i z => .bool (gE c l z.toNat)
 | .s _ => .bool false
@[go_sem] noncomputable def oEn (c : Case) (l : List Offer) (D : List Nat) : OB := .mp ⟨some .u16, D.length, dE D, vE c l, none⟩ []
def zU9 (D : List Nat) (o : Nat) : List Nat := if D.contains o then D else D ++ [o]
theorem yKm (D : List Nat) (o : Nat) : dE D (.i (o : Int)) = D.contains o := by simp [dE]
theorem yIj (D : List Nat) (o : Nat) : zC9 (.i (o : Int)) (dE D) = dE (D ++ [o]) := by
 funext q
 cases q with
 | s b => simp [zC9, dE]
 | i z =>
  simp only [zC9, dE];rw [Bool.eq_iff_iff];simp only [Bool.or_eq_true, zyf, zz3, List.contains_iff_mem, zyn, zyh, MK.i.injEq]
  constructor
  ·rintro (rfl | ⟨h1, h2⟩)
   ·exact ⟨by omega, .inr (by simp)⟩
   ·exact ⟨h1, .inl h2⟩
  ·rintro ⟨h1, h2 | h2⟩
   ·exact .inr ⟨h1, h2⟩
   ·exact .inl (by omega)
theorem setE (c : Case) (l : List Offer) (o : Nat) : zJ0 (.i (o : Int)) (.bool (gE c l o)) (vE c l) = vE c l := by
 funext q
 simp only [zJ0];split
 ·rename_i h; subst h; simp [vE]
 ·rfl
theorem yGk (c : Case) (l : List Offer) (k : Nat) : SLe (.agg [.int .i64 c.Programme.School, .str (c.Items.getD k default).Code, .int .i64 (l.getD k default).Credits, .int .i64 c.Scale.Pass, .int .i64 (zU6 (c.Items.getD k default).Term), .list 1 1 (fun i => .int .i64 ([wr (wr (wr (1000000 * c.Programme.School) + 900000) + (k : Int))].getD i 0)), .int .i64 0, .nils]) (zCk (zZo c l k)) := by
 refine SLe.agg ⟨SLe.refl _, SLe.refl _, SLe.refl _, SLe.refl _, SLe.refl _, SLe.list rfl fun i hi => ?_, SLe.refl _, SLe.nil0 (α := Int), trivial⟩;have : i = 0 := by omega
 subst this; rfl
theorem K19w : FnOK prog 19 (fun ds d => ∃ (p : Programme) (s : Scale) (l : List Ach) (day : Int), (POk 4 p /\ l.length <= 1000) /\ ds = [zGx p, zDz s, zAj 8 zCk l, eInt day] /\ d = .tup [.agg [.any, .any], eInt (zCa p s l day).2]) :=
 K19.weakR fun ds d' ⟨p, s, l, day, h1, h2, h3⟩ => ⟨_, ⟨p, s, l, day, h1, h2, rfl⟩, by rw [h3]; exact use_any _ _⟩
theorem K136 : FnM prog 136 (fun ds os d os' => ∃ (c : Case) (l : List Offer) (D : List Nat) (i o : Nat), (c.Items.length <= 4 /\ l.length = c.Items.length /\ i < 65536 /\ o < 65536 /\ c.Has.length <= 3 /\ POk 4 c.Programme /\ D.length <= 1000) /\ ds = [.loc 1000 0, zRq i o] /\ os = [oPl c l, oEn c l D] /\ d = .bool (!gE c l o) /\ os' = zAy 1000 [oPl c l, oEn c l (zU9 D o)]) := by
 refine zA8 call136 func136 rfl ntmps136 ?_;rintro ds os d os' ⟨c, l, D, i, o, ⟨h4, hl, hi, ho, hh, hp, hD⟩, rfl, rfl, rfl, rfl⟩;refine ⟨by simp, fun F w0 => ?_⟩;have q0 := yKm D o;have q1 : vE c l (.i (o : Int)) = .bool (gE c l o) := by simp [vE]
 cases hc : D.contains o
 ·rw [hc] at q0
  have hI : zU9 D o = D ++ [o] := by rw [zU9, if_neg (by rw [hc]; simp)]
  repeat' (first | refine wB ?_ | refine zC (by simp only [go_sem, q0, q1]; rfl) qR ?_ ?_ | refine zM (by simp only [go_sem, q0, q1]; rfl) qR ?_ ?_ | refine zJ qK qK ?_ | refine zSj (by simp only [go_sem, q0, q1]; rfl) ?_ (by simp only [go_sem, q0, q1]; rfl) ?_ | exact qT | fail)
  (refine zAa qS qC qC ?_ ?_ <;> intro hb hc <;> try (simp at hc; done))
  repeat' (first | refine wA ?_ | exact qT | fail)
  refine zS A27 qD ?_ ⟨c.Has, rfl, rfl, rfl, rfl, rfl⟩ qS ?_
  ·repeat' (first | exact zz0 | fail)
  repeat' (first | refine wA ?_ | exact qT | fail)
  refine zH [0, 3, 7, 36, 37] (fun x : Nat × Unit => [(38, .int .i64 x.1)]) (fun x => [(1, zZs (zKv c l o x.1))]) (fun x => x.1 <= c.Items.length) (fun x => c.Items.length - x.1) (0, ()) (fun x => qS) ?_ qL qL ?_
  ·exact zz7 _
  rintro ⟨k, _⟩ g1;simp only at g1;have l2 := zOv c l o k
  repeat' (first | refine wA ?_ | exact qT | fail)
  (refine zAa qS qC qC ?_ ?_ <;> intro hb hc <;> try (simp at hc; done))
  ·have hk : k < c.Items.length := by assumption
   repeat' (first | refine wA ?_ | refine zC qS qR ?_ ?_ | refine zG K71 qD ?_ ⟨o, k, ⟨ho, by omega⟩, rfl, rfl⟩ qS ?_ | exact qT | exact qP | fail)
   cases hb : o.testBit k
   ·have e1 : zKv c l o (k + 1) = zKv c l o k ++ [zZo c l k] := by rw [zKv, hb]; rfl
    repeat' (first | (show Run _ _ _ _ _ _; first | refine wB ?_ | refine zE qR ?_ | refine zBj qR qR qR ?_ ?_ | refine zCd qR qR ?_ | refine zT qR (by simp only [go_sem, hb]; rfl) ?_ | refine zT qR qS ?_ | refine zV qR (by simp only [go_sem, hb]; rfl) ?_ ?_ | refine zV qR qS ?_ ?_ | refine zBr qR ?_ ?_ | refine zBu qR (by simp only [go_sem, hb]; rfl) ?_ ?_ | refine zBu qR qS ?_ ?_ | refine zF qR ?_) | (show zAg _ _ _ _ _ _ _; first | apply zA | refine zC (by simp only [go_sem, hb]; rfl) qR ?_ ?_ | refine zC qS qR ?_ ?_ | refine zY (by simp only [go_sem, hb]; rfl) (by simp only [go_sem, hb]) (by simp only [go_sem, hb]) (fun bn hbn => ?_) | refine zY qS qZ qZ (fun bn hbn => ?_) | refine zBt (by first | (simp only [go_sem, hb]; done) | (simp only [go_sem, hb]; rfl)) qR (by simp only [go_sem, hb]; rfl) ?_ | refine zBt qF qR qS ?_) | (show zAs _ _ _ _ _ _ _ _ _ _; first | refine zM (by simp only [go_sem, hb]; rfl) qR ?_ ?_ | refine zM qS qR ?_ ?_ | refine zJ qK qK ?_) | exact qT | exact SLe.refl _ | omega | exact zAc.bool rfl | refine zAc.bool ?_ | refine zAc.int ?_ | refine zAc.str ?_ | exact zAc.pure rfl | (show SLe _ _; simp only [go_sem, hb]; exact qL) | exact qM | (show zEu _ _; simp only [go_sem, hb]; exact qL) | exact qN | exact qP | fail)
    (refine zAa qS qC qC ?_ ?_ <;> intro hb hc <;> try (simp at hc; done))
    repeat' (first | refine wA ?_ | refine zC qS qR ?_ ?_ | refine zM qS qR ?_ ?_ | refine zJ qK qK ?_ | refine zF3 qS ?_ qS ?_ | refine zP K29 qD ?_ ⟨_, rfl, rfl⟩ qS ?_ | exact qT | exact qP | fail)
    refine zHz 3 1 qS ?_;refine zK (o' := zZs (zKv c l o (k + 1))) 1 qR (by rw [e1]; exact OLe.snoc zCk _ (zZo c l k) (yGk c l k)) ?_;refine zL (k + 1, ()) ?_ ?_ ⟨rfl, qL, qL⟩
    ·show k + 1 <= c.Items.length
     omega
    ·show c.Items.length - (k + 1) < c.Items.length - k
     omega
   ·have e1 : zKv c l o (k + 1) = zKv c l o k := by rw [zKv, hb, if_pos rfl, List.append_nil]
    repeat' (first | (show Run _ _ _ _ _ _; first | refine wB ?_ | refine zE qR ?_ | refine zBj qR qR qR ?_ ?_ | refine zCd qR qR ?_ | refine zT qR (by simp only [go_sem, hb]; rfl) ?_ | refine zT qR qS ?_ | refine zV qR (by simp only [go_sem, hb]; rfl) ?_ ?_ | refine zV qR qS ?_ ?_ | refine zBr qR ?_ ?_ | refine zBu qR (by simp only [go_sem, hb]; rfl) ?_ ?_ | refine zBu qR qS ?_ ?_ | refine zF qR ?_) | (show zAg _ _ _ _ _ _ _; first | apply zA | refine zC (by simp only [go_sem, hb]; rfl) qR ?_ ?_ | refine zC qS qR ?_ ?_ | refine zY (by simp only [go_sem, hb]; rfl) (by simp only [go_sem, hb]) (by simp only [go_sem, hb]) (fun bn hbn => ?_) | refine zY qS qZ qZ (fun bn hbn => ?_) | refine zBt (by first | (simp only [go_sem, hb]; done) | (simp only [go_sem, hb]; rfl)) qR (by simp only [go_sem, hb]; rfl) ?_ | refine zBt qF qR qS ?_) | (show zAs _ _ _ _ _ _ _ _ _ _; first | refine zM (by simp only [go_sem, hb]; rfl) qR ?_ ?_ | refine zM qS qR ?_ ?_ | refine zJ qK qK ?_) | exact qT | exact SLe.refl _ | omega | exact zAc.bool rfl | refine zAc.bool ?_ | refine zAc.int ?_ | refine zAc.str ?_ | exact zAc.pure rfl | (show SLe _ _; simp only [go_sem, hb]; exact qL) | exact qM | (show zEu _ _; simp only [go_sem, hb]; exact qL) | exact qN | exact qP | fail)
    (refine zAa qS qC qC ?_ ?_ <;> intro hb hc <;> try (simp at hc; done))
    repeat' (first | refine wA ?_ | refine zF qR ?_ | exact qT | fail)
    refine zK (o' := zZs (zKv c l o (k + 1))) 1 qR (zC2 (by rw [e1]; rfl)) ?_;refine zL (k + 1, ()) ?_ ?_ ⟨rfl, qL, qL⟩
    ·show k + 1 <= c.Items.length
     omega
    ·show c.Items.length - (k + 1) < c.Items.length - k
     omega
  ·have hkl : k = c.Items.length := by omega
   subst hkl;refine zI 1 qS ?_;have hgE : gE c l o = ((zCa c.Programme c.Scale (zKv c l o c.Items.length) (zCz c)).2 == 0) := rfl;have hlen : (zKv c l o c.Items.length).length <= 1000 := by omega
   generalize zKv c l o c.Items.length = A at hgE hlen;have hu1 := yIj D o;have hu2 := setE c l o;rw [hgE] at hu2
   repeat' (first | refine wB ?_ | refine zC (by simp only [go_sem, q0, hu1]; rfl) qR ?_ ?_ | refine zM (by simp only [go_sem, q0, hu1]; rfl) qR ?_ ?_ | refine zJ qK qK ?_ | refine zP K29 (by simp only [go_sem, q0, hu1]; first | done | rfl) ?_ ⟨_, rfl, rfl⟩ (by simp only [go_sem, q0, hu1]; rfl) ?_ | refine zP K19w (by simp only [go_sem, q0, hu1]; first | done | rfl) ?_ ⟨c.Programme, c.Scale, A, zCz c, ⟨hp, hlen⟩, rfl, rfl⟩ (by simp only [go_sem, q0, hu1]; rfl) ?_ | refine yCw (by simp only [go_sem, q0, hu1]; rfl) ?_ ?_ (by simp only [go_sem, q0, hu1]; rfl) ?_ | refine zF qR ?_ | exact qT | fail)
   ·show D.length < 68719476736
    omega
   refine zK (o' := oEn c l (zU9 D o)) 1001 qR (zC2 (by rw [hI, hu2]; simp only [oEn, zye, List.length_singleton])) ?_;refine zV qR qS ?_ ?_
   ·exact SLe.bool (by rw [hgE]; rfl)
   ·exact qO
 ·rw [hc] at q0
  have hI : zU9 D o = D := by rw [zU9, if_pos hc]
  rw [hI]
  repeat' (first | refine wB ?_ | refine zC (by simp only [go_sem, q0, q1]; rfl) qR ?_ ?_ | refine zM (by simp only [go_sem, q0, q1]; rfl) qR ?_ ?_ | refine zJ qK qK ?_ | refine zSj (by simp only [go_sem, q0, q1]; rfl) ?_ (by simp only [go_sem, q0, q1]; rfl) ?_ | exact qT | fail)
  (refine zAa qS qC qC ?_ ?_ <;> intro hb hc <;> try (simp at hc; done))
  repeat' (first | refine wA ?_ | exact qT | fail)
  refine zV qR qS ?_ ?_
  ·exact SLe.refl _
  ·exact qO
end Go.Sx
namespace Go.Sx
open Go.Proofs Tryz
theorem FnM.ofA {P : Program} {f : Nat} {R : List SD -> List OB -> SD -> List (Nat × OB) -> Prop} (n : Nat) (hR : ∀ ds os d os', R ds os d os' -> os.length = n) (h : ∀ h0 bl, bl.length = n -> zZw P f h0 bl R) : FnM P f R :=
 ⟨(h (fun _ => none) (List.replicate n 0) (by simp)).call, fun ds os d os' hr h1 e w vs gh hs hv ho hb hap => (h h1 (zFq e os) (by simp [zFq, hR _ _ _ _ hr])).ok ds os d os' hr h1 e w vs gh (Le.refl h1) (fun i b hib => by
  have hi : i < os.length := by
   have := (List.getElem?_eq_some_iff.1 hib).1;simpa [zFq] using this
  rw [zCo hi] at hib;simpa using hib) hs hv ho hb hap⟩
noncomputable def zHw (c : Case) (l : List Offer) (i o : Nat) : Int := if zT3 c l i then 1 else if ndF c l i o then 2 else if moF c l i then 3 else if plF c l i then 5 else if gE c l o then 0 else 4
def zGj (c : Case) (l : List Offer) (i o : Nat) (D : List Nat) : List Nat := if zT3 c l i || ndF c l i o || moF c l i || plF c l i then D else zU9 D o
theorem zCr.snoc2 (x a b : SD) (h : SLe a b) : ∀ l : List SD, zCr (l ++ [x, a]) (l ++ [x, b])
 | [] => ⟨SLe.refl _, h, trivial⟩
 | _ :: r => ⟨SLe.refl _, zCr.snoc2 x a b h r⟩
theorem zOp (c : Case) (l : List Offer) : zGh (cC c ++ [zAj 5 zAt l, .any]) = true := rfl
open Go.Proofs Go.RowKit
attribute [local irreducible] Run zAg zAs OpT zAc SLe OLe
abbrev WhyR : List SD -> List OB -> SD -> List (Nat × OB) -> Prop := fun ds os d os' => ∃ (c : Case) (l : List Offer) (D : List Nat) (i o : Nat), (c.Items.length <= 4 /\ l.length = c.Items.length /\ i < 65536 /\ o < 65536 /\ c.Has.length <= 3 /\ POk 4 c.Programme /\ D.length <= 1000) /\ ds = [.loc 1000 0, zRq i o] /\ os = [oPl c l, oEn c l D] /\ d = eInt (zHw c l i o) /\ os' = zAy 1000 [oPl c l, oEn c l (zGj c l i o D)]
theorem K70A (h0 : Hp) (bl : List Nat) (hbl : bl.length = 2) : zZw prog 70 h0 bl WhyR := by
 obtain ⟨b0, b1, rfl⟩ : ∃ b0 b1, bl = [b0, b1] := by
  match bl, hbl with
  | [b0, b1], _ => exact ⟨b0, b1, rfl⟩
 refine zFo call70 func70 rfl ntmps70 ?_;rintro ds os d os' ⟨c, l, D, i, o, ⟨h4, hl, hi, ho, hh, hp, hD⟩, rfl, rfl, rfl, rfl⟩;refine ⟨by simp, by simp, fun F w0 han => ?_⟩;have hfx : w0.std.fix[0]? = some b0 := han.fx 0 b0 rfl;refine yAq (i := 0) (b := b0) 0 hfx qR ?_
 repeat' (first | refine wA ?_ | exact qT | fail)
 refine zH [3, 4, 22, 23] (fun x : Nat × Unit => [(24, .int .i64 x.1)]) (fun x => [(1001, oEn c l (if x.1 <= 4 then D else zU9 D o))]) (fun x => x.1 <= 5 /\ (0 < x.1 -> zT3 c l i = false) /\ (1 < x.1 -> ndF c l i o = false) /\ (2 < x.1 -> moF c l i = false) /\ (3 < x.1 -> plF c l i = false) /\ (4 < x.1 -> gE c l o = true)) (fun x => 5 - x.1) (0, ()) (fun x => qS) ?_ qL qL ?_
 ·exact ⟨by decide, by simp, by simp, by simp, by simp, by simp⟩
 rintro ⟨k, _⟩ ⟨g0, g1, g2, g3, g4, g5⟩;simp only at g0 g1 g2 g3 g4 g5
 match k, g0 with
 | 0, _ =>
  repeat' (first | refine wA ?_ | exact qT | fail)
  (refine zAa qS qC qC ?_ ?_ <;> intro hb hc <;> try (simp at hc; done))
  repeat' (first | refine wA ?_ | refine zC qS qR ?_ ?_ | exact qT | exact qP | fail)
  refine zG2 (i := 0) (b := b0) (l := cC c ++ [zAj 5 zAt l, .omap 1001]) (cC c ++ [zAj 5 zAt l, .any]) K132 hfx qF qR (zCr.snoc2 _ _ _ (SLe.any _) _) (zOp c l) qD ?_ ⟨c, l, i, o, ⟨h4, hl, hi, ho⟩, rfl, rfl⟩ qR qS ?_
  ·exact trivial
  repeat' (first | apply zA | fail)
  (refine zAa qS qC qC ?_ ?_ <;> intro hb hc <;> try (simp at hc; done))
  ·have hw : zHw c l i o = 1 := by simp [zHw, hb]
   have hd : zGj c l i o D = D := by simp [zGj, hb]
   rw [hw, hd]
   repeat' (first | refine wA ?_ | exact qT | fail)
   refine zV qR qS ?_ ?_
   ·exact SLe.refl _
   ·exact qO
  ·have g1 : zT3 c l i = false := hb
   repeat' (first | refine wA ?_ | exact qT | fail)
   refine zL (1, ()) ?_ ?_ ⟨rfl, qL, qL⟩
   ·exact ⟨by decide, fun _ => g1, by simp, by simp, by simp, by simp⟩
   ·simp
 | 1, _ =>
  have g1 := g1 (by decide)
  repeat' (first | refine wA ?_ | exact qT | fail)
  (refine zAa qS qC qC ?_ ?_ <;> intro hb hc <;> try (simp at hc; done))
  repeat' (first | refine wA ?_ | refine zC qS qR ?_ ?_ | exact qT | exact qP | fail)
  refine zG2 (i := 0) (b := b0) (l := cC c ++ [zAj 5 zAt l, .omap 1001]) (cC c ++ [zAj 5 zAt l, .any]) K133 hfx qF qR (zCr.snoc2 _ _ _ (SLe.any _) _) (zOp c l) qD ?_ ⟨c, l, i, o, ⟨h4, hl, hi, ho⟩, rfl, rfl⟩ qR qS ?_
  ·exact trivial
  repeat' (first | apply zA | fail)
  (refine zAa qS qC qC ?_ ?_ <;> intro hb hc <;> try (simp at hc; done))
  ·have hw : zHw c l i o = 2 := by simp [zHw, hb, g1]
   have hd : zGj c l i o D = D := by simp [zGj, hb, g1]
   rw [hw, hd]
   repeat' (first | refine wA ?_ | exact qT | fail)
   refine zV qR qS ?_ ?_
   ·exact SLe.refl _
   ·exact qO
  ·have g2 : ndF c l i o = false := hb
   repeat' (first | refine wA ?_ | exact qT | fail)
   refine zL (2, ()) ?_ ?_ ⟨rfl, qL, qL⟩
   ·exact ⟨by decide, fun _ => g1, fun _ => g2, by simp, by simp, by simp⟩
   ·simp
 | 2, _ =>
  have g1 := g1 (by decide);have g2 := g2 (by decide)
  repeat' (first | refine wA ?_ | exact qT | fail)
  (refine zAa qS qC qC ?_ ?_ <;> intro hb hc <;> try (simp at hc; done))
  repeat' (first | refine wA ?_ | refine zC qS qR ?_ ?_ | exact qT | exact qP | fail)
  refine zG2 (i := 0) (b := b0) (l := cC c ++ [zAj 5 zAt l, .omap 1001]) (cC c ++ [zAj 5 zAt l, .any]) K134 hfx qF qR (zCr.snoc2 _ _ _ (SLe.any _) _) (zOp c l) qD ?_ ⟨c, l, i, o, ⟨h4, hl, hi, ho⟩, rfl, rfl⟩ qR qS ?_
  ·exact trivial
  repeat' (first | apply zA | fail)
  (refine zAa qS qC qC ?_ ?_ <;> intro hb hc <;> try (simp at hc; done))
  ·have hw : zHw c l i o = 3 := by simp [zHw, hb, g1, g2]
   have hd : zGj c l i o D = D := by simp [zGj, hb, g1, g2]
   rw [hw, hd]
   repeat' (first | refine wA ?_ | exact qT | fail)
   refine zV qR qS ?_ ?_
   ·exact SLe.refl _
   ·exact qO
  ·have g3 : moF c l i = false := hb
   repeat' (first | refine wA ?_ | exact qT | fail)
   refine zL (3, ()) ?_ ?_ ⟨rfl, qL, qL⟩
   ·exact ⟨by decide, fun _ => g1, fun _ => g2, fun _ => g3, by simp, by simp⟩
   ·simp
 | 3, _ =>
  have g1 := g1 (by decide);have g2 := g2 (by decide);have g3 := g3 (by decide)
  repeat' (first | refine wA ?_ | exact qT | fail)
  (refine zAa qS qC qC ?_ ?_ <;> intro hb hc <;> try (simp at hc; done))
  repeat' (first | refine wA ?_ | refine zC qS qR ?_ ?_ | exact qT | exact qP | fail)
  refine zG2 (i := 0) (b := b0) (l := cC c ++ [zAj 5 zAt l, .omap 1001]) (cC c ++ [zAj 5 zAt l, .any]) K135 hfx qF qR (zCr.snoc2 _ _ _ (SLe.any _) _) (zOp c l) qD ?_ ⟨c, l, i, o, ⟨h4, hl, hi, ho⟩, rfl, rfl⟩ qR qS ?_
  ·exact trivial
  repeat' (first | apply zA | fail)
  (refine zAa qS qC qC ?_ ?_ <;> intro hb hc <;> try (simp at hc; done))
  ·have hw : zHw c l i o = 5 := by simp [zHw, hb, g1, g2, g3]
   have hd : zGj c l i o D = D := by simp [zGj, hb, g1, g2, g3]
   rw [hw, hd]
   repeat' (first | refine wA ?_ | exact qT | fail)
   refine zV qR qS ?_ ?_
   ·exact SLe.refl _
   ·exact qO
  ·have g4 : plF c l i = false := hb
   repeat' (first | refine wA ?_ | exact qT | fail)
   refine zL (4, ()) ?_ ?_ ⟨rfl, qL, qL⟩
   ·exact ⟨by decide, fun _ => g1, fun _ => g2, fun _ => g3, fun _ => g4, by simp⟩
   ·simp
 | 4, _ =>
  have g1 := g1 (by decide);have g2 := g2 (by decide);have g3 := g3 (by decide);have g4 := g4 (by decide);have hd : zGj c l i o D = zU9 D o := by simp [zGj, g1, g2, g3, g4]
  repeat' (first | refine wA ?_ | exact qT | fail)
  (refine zAa qS qC qC ?_ ?_ <;> intro hb hc <;> try (simp at hc; done))
  repeat' (first | refine wA ?_ | refine zC qS qR ?_ ?_ | exact qT | exact qP | fail)
  refine zUj (i := 0) (b := b0) [1000, 1001] K136 hfx qF qR qD (by first | (simp only [go_sem]; done) | rfl) qF ?_ ⟨c, l, D, i, o, ⟨h4, hl, hi, ho, hh, hp, hD⟩, rfl, rfl, rfl, rfl⟩ qS ?_
  ·exact trivial
  repeat' (first | apply zA | fail)
  (refine zAa qS qC qC ?_ ?_ <;> intro hb hc <;> try (simp at hc; done))
  ·have hw : zHw c l i o = 4 := by simp [zHw, g1, g2, g3, g4, show gE c l o = false by simpa using hb]
   rw [hw, hd]
   repeat' (first | refine wA ?_ | exact qT | fail)
   refine zV qR qS ?_ ?_
   ·exact SLe.refl _
   ·exact qO
  ·have g5 : gE c l o = true := by simpa using hb
   repeat' (first | refine wA ?_ | exact qT | fail)
   refine zL (5, ()) ?_ ?_ ⟨rfl, qL, qL⟩
   ·exact ⟨by decide, fun _ => g1, fun _ => g2, fun _ => g3, fun _ => g4, fun _ => g5⟩
   ·simp
 | 5, _ =>
  have g1 := g1 (by decide);have g2 := g2 (by decide);have g3 := g3 (by decide);have g4 := g4 (by decide);have g5 := g5 (by decide);have hd : zGj c l i o D = zU9 D o := by simp [zGj, g1, g2, g3, g4]
  have hw : zHw c l i o = 0 := by simp [zHw, g1, g2, g3, g4, g5]
  rw [hw, hd];refine zK (o' := oEn c l (zU9 D o)) 1001 qR (zC2 rfl) ?_
  repeat' (first | refine wA ?_ | (refine zAa qS qC qC ?_ ?_ <;> intro hb hc <;> try (simp at hc; done)) | refine zF qR ?_ | exact qT | fail)
  refine zV qR qS ?_ ?_
  ·exact SLe.refl _
  ·exact qO
theorem K70 : FnM prog 70 WhyR := FnM.ofA 2 (fun ds os d os' ⟨c, l, D, i, o, _, _, h, _⟩ => by rw [h]; rfl) K70A
end Go.Sx
namespace Go.Sx
open Go.Proofs Tryz
theorem yBo (D : List Nat) (o : Nat) : (zU9 D o).length <= D.length + 1 := by
 unfold zU9; split <;> simp
theorem zJ9 (c : Case) (l : List Offer) (i o : Nat) (D : List Nat) : (zGj c l i o D).length <= D.length + 1 := by
 unfold zGj; split
 ·omega
 ·exact yBo D o
noncomputable def zHs (c : Case) (l : List Offer) : Nat -> Nat -> Nat -> List Nat -> Option Nat × List Nat
 | 0, i, o, D => (if zHw c l i o = 0 then some i else none, zGj c l i o D)
 | m + 1, i, o, D => if zHw c l i o = 0 then
   (if (zHs c l m (i ||| 2 ^ (c.Items.length - (m + 1))) o (zGj c l i o D)).1.isSome then zHs c l m (i ||| 2 ^ (c.Items.length - (m + 1))) o (zGj c l i o D)
    else zHs c l m i (o ||| 2 ^ (c.Items.length - (m + 1))) (zHs c l m (i ||| 2 ^ (c.Items.length - (m + 1))) o (zGj c l i o D)).2)
  else (none, zGj c l i o D)
theorem zOk (c : Case) (l : List Offer) : ∀ (m i o : Nat) (D : List Nat), (zHs c l m i o D).2.length + 1 <= D.length + 2 ^ (m + 1)
 | 0, i, o, D => by have := zJ9 c l i o D; simp only [zHs]; omega
 | m + 1, i, o, D => by
  have h0 := zJ9 c l i o D;have h1 := zOk c l m (i ||| 2 ^ (c.Items.length - (m + 1))) o (zGj c l i o D);have h2 := zOk c l m i (o ||| 2 ^ (c.Items.length - (m + 1))) (zHs c l m (i ||| 2 ^ (c.Items.length - (m + 1))) o (zGj c l i o D)).2;have h3 : 2 ^ (m + 1 + 1) = 2 * 2 ^ (m + 1) := by rw [Nat.pow_succ]; omega
  have h4 := Nat.two_pow_pos (m + 1);rw [zHs];split
  ·split
   ·omega
   ·omega
  ·simp only; omega
open Go.Proofs Go.RowKit
attribute [local irreducible] Run zAg zAs OpT zAc SLe OLe
attribute [go_sem] zC7
@[go_sem] def oPA : OB := .var [.loc 1001 0]
@[go_sem] def oP2 (c : Case) (l : List Offer) : OB := .var (cC c ++ [zAj 5 zAt l, .omap 1002])
@[go_sem] def oPN : OB := .var [.nils]
def oPR (c : Case) : Option Nat -> OB
 | none => .var [.nils]
 | some i => .var [zAj 2 zCv (itT c i c.Items.length)]
@[go_sem] def oPC : OB := .var [.fn 69 [.loc 1000 0, .loc 1003 0, .loc 1004 0]]
@[go_sem] def zJ7 : SD := .agg [.any, .any, .any, .any]
abbrev DecR (m : Nat) : List SD -> List OB -> SD -> List (Nat × OB) -> Prop := fun ds os d os' => ∃ (c : Case) (l : List Offer) (D : List Nat) (i o a : Nat), ((c.Items.length <= 4 /\ l.length = c.Items.length /\ c.Has.length <= 3 /\ POk 4 c.Programme) /\ a + m = c.Items.length /\ i < 2 ^ a /\ o < 2 ^ a /\ D.length + 2 ^ (m + 1) <= 1000) /\ ds = [zRq i o, eInt (a : Nat), .loc 1000 0, .loc 1003 0, .loc 1004 0] /\ os = [oPA, oP2 c l, oEn c l D, oPN, oPC] /\ d = .tup [zJ7, .bool (zHs c l m i o D).1.isSome] /\ os' = zAy 1000 [oPA, oP2 c l, oEn c l (zHs c l m i o D).2, oPR c (zHs c l m i o D).1, oPC]
theorem zSs {a : Nat} (h : a <= 4) : 2 ^ a <= 16 := Nat.le_trans (Nat.pow_le_pow_right (n := 2) (by omega) h) (by decide)
theorem zSw {i a : Nat} (h : i < 2 ^ a) : i ||| 2 ^ a < 2 ^ (a + 1) := Nat.or_lt_two_pow (Nat.lt_trans h (Nat.pow_lt_pow_right (by omega) (by omega))) (Nat.pow_lt_pow_right (by omega) (by omega))
theorem yG0 (a b c d : SD) (x : Bool) : SLe (.tup [.agg [a, b, c, d], .bool x]) (.tup [zJ7, .bool x]) := SLe.tup ⟨SLe.agg ⟨SLe.any _, SLe.any _, SLe.any _, SLe.any _, trivial⟩, SLe.refl _, trivial⟩
theorem K69 (m : Nat) : FnM prog 69 (DecR m) := by
 induction m with
 | zero =>
  refine zA8 call69 func69 rfl ntmps69 ?_;rintro ds os d os' ⟨c, l, D, i, o, a, ⟨⟨h4, hl, hh, hp⟩, ha, hi, ho, hD⟩, rfl, rfl, rfl, rfl⟩;refine ⟨by simp, fun F w0 => ?_⟩;have hp2 := zSs (show a <= 4 by omega);have b1 : (((a : Nat) : Int) == ((c.Items.length : Nat) : Int)) = true := by rw [show a = c.Items.length by omega]; simp
  have hwl := zJ9 c l i o D;have hdec : zHs c l 0 i o D = (if zHw c l i o = 0 then some i else none, zGj c l i o D) := rfl;rw [hdec];by_cases hw : zHw c l i o = 0
  ·have w1 : (zHw c l i o != 0) = false := by rw [hw]; rfl
   rw [if_pos hw]
   repeat' (first | refine wB ?_ | refine zC (by simp only [go_sem, w1, b1]; rfl) qR ?_ ?_ | refine zO [1001, 1002] K70 qR (by simp only [go_sem, w1, b1]; first | done | rfl) (by simp only [go_sem, w1, b1]) (by first | (simp only [go_sem, w1, b1]; done) | (simp only [go_sem, w1, b1]; rfl)) ?_ ⟨c, l, D, i, o, ⟨h4, hl, by omega, by omega, hh, hp, by omega⟩, rfl, rfl, rfl, rfl⟩ (by simp only [go_sem, w1, b1]; rfl) ?_ | exact qT | fail)
   (refine zAa qS qC qC ?_ ?_ <;> intro hb hc <;> try (simp at hc; done))
   repeat' (first | refine wB ?_ | refine zC (by simp only [go_sem, b1]; rfl) qR ?_ ?_ | exact qT | fail)
   (refine zAa qS qC qC ?_ ?_ <;> intro hb hc <;> try (simp at hc; done))
   repeat' (first | refine wA ?_ | exact qT | fail)
   refine zCe 1003 0 78 2 (fun i => zCv (([] : List Item).getD i default)) rfl rfl (by simp only [List.set]; rfl) rfl ?_;refine zH [3, 5, 7, 8, 34, 35] (fun x : Nat × Unit => [(36, .int .i64 x.1)]) (fun x => [(2, zZr (itT c i x.1))]) (fun x => x.1 <= c.Items.length) (fun x => c.Items.length - x.1) (0, ()) (fun x => qS) ?_ qL qL ?_
   ·exact zz7 _
   rintro ⟨k, _⟩ g1;simp only at g1;have l1 := zRi c i k
   repeat' (first | refine wA ?_ | exact qT | fail)
   (refine zAa qS qC qC ?_ ?_ <;> intro hb hc <;> try (simp at hc; done))
   ·have hk : k < c.Items.length := by assumption
    repeat' (first | refine wA ?_ | refine zC qS qR ?_ ?_ | refine zG K71 qD ?_ ⟨i, k, ⟨by omega, by omega⟩, rfl, rfl⟩ qS ?_ | exact qT | exact qP | fail)
    cases hb2 : i.testBit k
    ·have e2 : itT c i (k + 1) = itT c i k := by rw [itT, hb2, if_neg (by simp), List.append_nil]
     repeat' (first | (show Run _ _ _ _ _ _; first | refine wB ?_ | refine zE qR ?_ | refine zBj qR qR qR ?_ ?_ | refine zCd qR qR ?_ | refine zT qR (by simp only [go_sem, hb2]; rfl) ?_ | refine zT qR qS ?_ | refine zV qR (by simp only [go_sem, hb2]; rfl) ?_ ?_ | refine zV qR qS ?_ ?_ | refine zBr qR ?_ ?_ | refine zBu qR (by simp only [go_sem, hb2]; rfl) ?_ ?_ | refine zBu qR qS ?_ ?_ | refine zF qR ?_) | (show zAg _ _ _ _ _ _ _; first | apply zA | refine zC (by simp only [go_sem, hb2]; rfl) qR ?_ ?_ | refine zC qS qR ?_ ?_ | refine zY (by simp only [go_sem, hb2]; rfl) (by simp only [go_sem, hb2]) (by simp only [go_sem, hb2]) (fun bn hbn => ?_) | refine zY qS qZ qZ (fun bn hbn => ?_) | refine zBt (by first | (simp only [go_sem, hb2]; done) | (simp only [go_sem, hb2]; rfl)) qR (by simp only [go_sem, hb2]; rfl) ?_ | refine zBt qF qR qS ?_) | (show zAs _ _ _ _ _ _ _ _ _ _; first | refine zM (by simp only [go_sem, hb2]; rfl) qR ?_ ?_ | refine zM qS qR ?_ ?_ | refine zJ qK qK ?_) | exact qT | exact SLe.refl _ | omega | exact zAc.bool rfl | refine zAc.bool ?_ | refine zAc.int ?_ | refine zAc.str ?_ | exact zAc.pure rfl | (show SLe _ _; simp only [go_sem, hb2]; exact qL) | exact qM | (show zEu _ _; simp only [go_sem, hb2]; exact qL) | exact qN | exact qP | fail)
     (refine zAa qS qC qC ?_ ?_ <;> intro hb hc <;> try (simp at hc; done))
     repeat' (first | refine wA ?_ | exact qT | fail)
     refine zK (o' := zZr (itT c i (k + 1))) 2 qR (zC2 (by rw [e2]; rfl)) ?_;refine zL (k + 1, ()) ?_ ?_ ⟨rfl, qL, qL⟩
     ·show k + 1 <= c.Items.length
      omega
     ·show c.Items.length - (k + 1) < c.Items.length - k
      omega
    ·have e2 : itT c i (k + 1) = itT c i k ++ [c.Items.getD k default] := by rw [itT, hb2, if_pos rfl]
     repeat' (first | (show Run _ _ _ _ _ _; first | refine wB ?_ | refine zE qR ?_ | refine zBj qR qR qR ?_ ?_ | refine zCd qR qR ?_ | refine zT qR (by simp only [go_sem, hb2]; rfl) ?_ | refine zT qR qS ?_ | refine zV qR (by simp only [go_sem, hb2]; rfl) ?_ ?_ | refine zV qR qS ?_ ?_ | refine zBr qR ?_ ?_ | refine zBu qR (by simp only [go_sem, hb2]; rfl) ?_ ?_ | refine zBu qR qS ?_ ?_ | refine zF qR ?_) | (show zAg _ _ _ _ _ _ _; first | apply zA | refine zC (by simp only [go_sem, hb2]; rfl) qR ?_ ?_ | refine zC qS qR ?_ ?_ | refine zY (by simp only [go_sem, hb2]; rfl) (by simp only [go_sem, hb2]) (by simp only [go_sem, hb2]) (fun bn hbn => ?_) | refine zY qS qZ qZ (fun bn hbn => ?_) | refine zBt (by first | (simp only [go_sem, hb2]; done) | (simp only [go_sem, hb2]; rfl)) qR (by simp only [go_sem, hb2]; rfl) ?_ | refine zBt qF qR qS ?_) | (show zAs _ _ _ _ _ _ _ _ _ _; first | refine zM (by simp only [go_sem, hb2]; rfl) qR ?_ ?_ | refine zM qS qR ?_ ?_ | refine zJ qK qK ?_) | exact qT | exact SLe.refl _ | omega | exact zAc.bool rfl | refine zAc.bool ?_ | refine zAc.int ?_ | refine zAc.str ?_ | exact zAc.pure rfl | (show SLe _ _; simp only [go_sem, hb2]; exact qL) | exact qM | (show zEu _ _; simp only [go_sem, hb2]; exact qL) | exact qN | exact qP | fail)
     (refine zAa qS qC qC ?_ ?_ <;> intro hb hc <;> try (simp at hc; done))
     repeat' (first | refine wA ?_ | refine zC qS qR ?_ ?_ | exact qT | exact qP | fail)
     refine zK (o' := zZr (itT c i (k + 1))) 2 qR (by rw [e2]; exact OLe.snoc zCv _ (c.Items.getD k default) (SLe.refl _)) ?_;refine zL (k + 1, ()) ?_ ?_ ⟨rfl, qL, qL⟩
     ·show k + 1 <= c.Items.length
      omega
     ·show c.Items.length - (k + 1) < c.Items.length - k
      omega
   ·have hk : k = c.Items.length := by omega
    subst hk;refine zI 2 qS ?_
    repeat' (first | refine wA ?_ | refine zF qR ?_ | exact qT | fail)
    refine zV qR qS ?_ ?_
    ·exact yG0 _ _ _ _ _
    ·show zEu _ (zAy 1000 [oPA, oP2 c l, oEn c l (zGj c l i o D), .var [zAj 2 zCv (itT c i c.Items.length)], oPC])
     exact qO
  ·have w1 : (zHw c l i o != 0) = true := by simpa using hw
   rw [if_neg hw]
   repeat' (first | refine wB ?_ | refine zC (by simp only [go_sem, w1]; rfl) qR ?_ ?_ | refine zO [1001, 1002] K70 qR (by simp only [go_sem, w1]; first | done | rfl) (by simp only [go_sem, w1]) (by first | (simp only [go_sem, w1]; done) | (simp only [go_sem, w1]; rfl)) ?_ ⟨c, l, D, i, o, ⟨h4, hl, by omega, by omega, hh, hp, by omega⟩, rfl, rfl, rfl, rfl⟩ (by simp only [go_sem, w1]; rfl) ?_ | exact qT | fail)
   (refine zAa qS qC qC ?_ ?_ <;> intro hb hc <;> try (simp at hc; done))
   repeat' (first | refine wA ?_ | exact qT | fail)
   refine zV qR qS ?_ ?_
   ·exact yG0 _ _ _ _ _
   ·show zEu _ (zAy 1000 [oPA, oP2 c l, oEn c l (zGj c l i o D), oPN, oPC])
    exact qO
 | succ m ih =>
  refine zA8 call69 func69 rfl ntmps69 ?_;rintro ds os d os' ⟨c, l, D, i, o, a, ⟨⟨h4, hl, hh, hp⟩, ha, hi, ho, hD⟩, rfl, rfl, rfl, rfl⟩;refine ⟨by simp, fun F w0 => ?_⟩;have hp2 := zSs (show a + 1 <= 4 by omega);have hp3 : 2 ^ a < 2 ^ (a + 1) := Nat.pow_lt_pow_right (by omega) (by omega);have hp4 : 2 ^ (m + 1 + 1) = 2 * 2 ^ (m + 1) := by rw [Nat.pow_succ]; omega
  have hp5 := Nat.two_pow_pos (m + 1);have b1 : (((a : Nat) : Int) == ((c.Items.length : Nat) : Int)) = false := by rw [beq_eq_false_iff_ne]; omega
  have hwl := zJ9 c l i o D;have hat : c.Items.length - (m + 1) = a := by omega
  have hdec : zHs c l (m + 1) i o D = if zHw c l i o = 0 then
   (if (zHs c l m (i ||| 2 ^ a) o (zGj c l i o D)).1.isSome then zHs c l m (i ||| 2 ^ a) o (zGj c l i o D)
    else zHs c l m i (o ||| 2 ^ a) (zHs c l m (i ||| 2 ^ a) o (zGj c l i o D)).2)
   else (none, zGj c l i o D) := by rw [zHs, hat]
  rw [hdec];by_cases hw : zHw c l i o = 0
  ·have w1 : (zHw c l i o != 0) = false := by rw [hw]; rfl
   rw [if_pos hw];have e1 : IntKind.i64.wrap ((a : Int) + 1) = ((a + 1 : Nat) : Int) := by rw [w64]; omega
   have hor := zSw hi;have hor2 := zSw ho;have hib : i.testBit a = false := Nat.testBit_lt_two_pow hi
   repeat' (first | refine wB ?_ | refine zC (by simp only [go_sem, w1, b1]; rfl) qR ?_ ?_ | refine zO [1001, 1002] K70 qR (by simp only [go_sem, w1, b1]; first | done | rfl) (by simp only [go_sem, w1, b1]) (by first | (simp only [go_sem, w1, b1]; done) | (simp only [go_sem, w1, b1]; rfl)) ?_ ⟨c, l, D, i, o, ⟨h4, hl, by omega, by omega, hh, hp, by omega⟩, rfl, rfl, rfl, rfl⟩ (by simp only [go_sem, w1, b1]; rfl) ?_ | exact qT | fail)
   (refine zAa qS qC qC ?_ ?_ <;> intro hb hc <;> try (simp at hc; done))
   generalize zGj c l i o D = D1 at hwl |-
   have ihA : ∀ (i' o' : Nat) (D' D2 : List Nat) (r : Option Nat), i' < 2 ^ (a + 1) -> o' < 2 ^ (a + 1) -> D'.length + 2 ^ (m + 1) <= 1000 -> zHs c l m i' o' D' = (r, D2) -> FnM prog 69 (fun ds os d os' => ds = [zRq i' o', eInt ((a + 1 : Nat) : Int), .loc 1000 0, .loc 1003 0, .loc 1004 0] /\ os = [oPA, oP2 c l, oEn c l D', oPN, oPC] /\ d = .tup [zJ7, .bool r.isSome] /\ os' = zAy 1000 [oPA, oP2 c l, oEn c l D2, oPR c r, oPC]) := fun i' o' D' D2 r q1 q2 q3 q4 =>
    ⟨ih.call, fun ds os d os' ⟨e1, e2, e3, e4⟩ => ih.ok ds os d os' ⟨c, l, D', i', o', a + 1, ⟨⟨h4, hl, hh, hp⟩, by omega, q1, q2, q3⟩, e1, e2, by rw [q4]; exact e3, by rw [q4]; exact e4⟩⟩
   have hl1 := zOk c l m (i ||| 2 ^ a) o D1
   repeat' (first | refine wB ?_ | refine zC (by simp only [go_sem, b1]; rfl) qR ?_ ?_ | exact qT | fail)
   (refine zAa qS qC qC ?_ ?_ <;> intro hb hc <;> try (simp at hc; done))
   cases hR1 : zHs c l m (i ||| 2 ^ a) o D1 with
   | mk r D2 =>
   rw [hR1] at hl1;simp only at hl1;cases r with
   | some r =>
    rw [if_pos qR];have ih1 : FnM prog 69 (fun ds os d os' => ds = [zRq (i ||| 2 ^ a) o, eInt ((a + 1 : Nat) : Int), .loc 1000 0, .loc 1003 0, .loc 1004 0] /\ os = [oPA, oP2 c l, oEn c l D1, oPN, oPC] /\ d = .tup [zJ7, .bool true] /\ os' = zAy 1000 [oPA, oP2 c l, oEn c l D2, .var [zAj 2 zCv (itT c r c.Items.length)], oPC]) := ihA _ _ _ _ _ hor (by omega) (by omega) hR1
    repeat' (first | refine wB ?_ | refine zC (by simp only [go_sem, e1]; rfl) qR ?_ ?_ | refine zM (by simp only [go_sem, e1]; rfl) qR ?_ ?_ | refine zJ qK qK ?_ | refine zP K72 (by simp only [go_sem, e1]; first | done | rfl) ?_ ⟨i, a, ⟨by omega, by omega⟩, rfl, rfl⟩ (by simp only [go_sem, e1]; rfl) ?_ | refine zG3 [1000, 1001, 1002, 1003, 1004] ih1 (by first | (simp only [go_sem, e1]; done) | (simp only [go_sem, e1]; rfl)) qR (by simp only [go_sem, e1]; first | done | rfl) (by first | (simp only [go_sem, e1]; done) | rfl) (by first | (simp only [go_sem, e1]; done) | (simp only [go_sem, e1]; rfl)) ?_ ⟨rfl, rfl, rfl, rfl⟩ (by simp only [go_sem, e1]; rfl) ?_ | exact qT | fail)
    (refine zAa qS qC qC ?_ ?_ <;> intro hb hc <;> try (simp at hc; done))
    repeat' (first | refine wA ?_ | exact qT | fail)
    refine zV qR qS ?_ ?_
    ·exact yG0 _ _ _ _ _
    ·show zEu _ (zAy 1000 [oPA, oP2 c l, oEn c l D2, .var [zAj 2 zCv (itT c r c.Items.length)], oPC])
     exact qO
   | none =>
    rw [if_neg (by simp)];have ih1 : FnM prog 69 (fun ds os d os' => ds = [zRq (i ||| 2 ^ a) o, eInt ((a + 1 : Nat) : Int), .loc 1000 0, .loc 1003 0, .loc 1004 0] /\ os = [oPA, oP2 c l, oEn c l D1, oPN, oPC] /\ d = .tup [zJ7, .bool false] /\ os' = zAy 1000 [oPA, oP2 c l, oEn c l D2, oPN, oPC]) := ihA _ _ _ _ _ hor (by omega) (by omega) hR1;cases hR2 : zHs c l m i (o ||| 2 ^ a) D2 with
    | mk r2 D3 =>
    repeat' (first | refine wB ?_ | refine zC (by simp only [go_sem, e1]; rfl) qR ?_ ?_ | refine zM (by simp only [go_sem, e1]; rfl) qR ?_ ?_ | refine zJ qK qK ?_ | refine zP K72 (by simp only [go_sem, e1]; first | done | rfl) ?_ ⟨i, a, ⟨by omega, by omega⟩, rfl, rfl⟩ (by simp only [go_sem, e1]; rfl) ?_ | refine zG3 [1000, 1001, 1002, 1003, 1004] ih1 (by first | (simp only [go_sem, e1]; done) | (simp only [go_sem, e1]; rfl)) qR (by simp only [go_sem, e1]; first | done | rfl) (by first | (simp only [go_sem, e1]; done) | rfl) (by first | (simp only [go_sem, e1]; done) | (simp only [go_sem, e1]; rfl)) ?_ ⟨rfl, rfl, rfl, rfl⟩ (by simp only [go_sem, e1]; rfl) ?_ | exact qT | fail)
    (refine zAa qS qC qC ?_ ?_ <;> intro hb hc <;> try (simp at hc; done))
    cases r2 with
    | some r2 =>
     have ih2 : FnM prog 69 (fun ds os d os' => ds = [zRq i (o ||| 2 ^ a), eInt ((a + 1 : Nat) : Int), .loc 1000 0, .loc 1003 0, .loc 1004 0] /\ os = [oPA, oP2 c l, oEn c l D2, oPN, oPC] /\ d = .tup [zJ7, .bool true] /\ os' = zAy 1000 [oPA, oP2 c l, oEn c l D3, .var [zAj 2 zCv (itT c r2 c.Items.length)], oPC]) := ihA _ _ _ _ _ (by omega) hor2 (by omega) hR2
     repeat' (first | refine wB ?_ | refine zC (by simp only [go_sem, e1]; rfl) qR ?_ ?_ | refine zM (by simp only [go_sem, e1]; rfl) qR ?_ ?_ | refine zJ qK qK ?_ | refine zP K73 (by simp only [go_sem, e1]; first | done | rfl) ?_ ⟨i, a, ⟨by omega, by omega, hib⟩, rfl, rfl⟩ (by simp only [go_sem, e1]; rfl) ?_ | refine zP K72 (by simp only [go_sem, e1]; first | done | rfl) ?_ ⟨o, a, ⟨by omega, by omega⟩, rfl, rfl⟩ (by simp only [go_sem, e1]; rfl) ?_ | refine zG3 [1000, 1001, 1002, 1003, 1004] ih2 (by first | (simp only [go_sem, e1]; done) | (simp only [go_sem, e1]; rfl)) qR (by simp only [go_sem, e1]; first | done | rfl) (by first | (simp only [go_sem, e1]; done) | rfl) (by first | (simp only [go_sem, e1]; done) | (simp only [go_sem, e1]; rfl)) ?_ ⟨rfl, rfl, rfl, rfl⟩ (by simp only [go_sem, e1]; rfl) ?_ | exact qT | fail)
     (refine zAa qS qC qC ?_ ?_ <;> intro hb hc <;> try (simp at hc; done))
     repeat' (first | refine wA ?_ | exact qT | fail)
     refine zV qR qS ?_ ?_
     ·exact yG0 _ _ _ _ _
     ·show zEu _ (zAy 1000 [oPA, oP2 c l, oEn c l D3, .var [zAj 2 zCv (itT c r2 c.Items.length)], oPC])
      exact qO
    | none =>
     have ih2 : FnM prog 69 (fun ds os d os' => ds = [zRq i (o ||| 2 ^ a), eInt ((a + 1 : Nat) : Int), .loc 1000 0, .loc 1003 0, .loc 1004 0] /\ os = [oPA, oP2 c l, oEn c l D2, oPN, oPC] /\ d = .tup [zJ7, .bool false] /\ os' = zAy 1000 [oPA, oP2 c l, oEn c l D3, oPN, oPC]) := ihA _ _ _ _ _ (by omega) hor2 (by omega) hR2
     repeat' (first | refine wB ?_ | refine zC (by simp only [go_sem, e1]; rfl) qR ?_ ?_ | refine zM (by simp only [go_sem, e1]; rfl) qR ?_ ?_ | refine zJ qK qK ?_ | refine zP K73 (by simp only [go_sem, e1]; first | done | rfl) ?_ ⟨i, a, ⟨by omega, by omega, hib⟩, rfl, rfl⟩ (by simp only [go_sem, e1]; rfl) ?_ | refine zP K72 (by simp only [go_sem, e1]; first | done | rfl) ?_ ⟨o, a, ⟨by omega, by omega⟩, rfl, rfl⟩ (by simp only [go_sem, e1]; rfl) ?_ | refine zG3 [1000, 1001, 1002, 1003, 1004] ih2 (by first | (simp only [go_sem, e1]; done) | (simp only [go_sem, e1]; rfl)) qR (by simp only [go_sem, e1]; first | done | rfl) (by first | (simp only [go_sem, e1]; done) | rfl) (by first | (simp only [go_sem, e1]; done) | (simp only [go_sem, e1]; rfl)) ?_ ⟨rfl, rfl, rfl, rfl⟩ (by simp only [go_sem, e1]; rfl) ?_ | exact qT | fail)
     (refine zAa qS qC qC ?_ ?_ <;> intro hb hc <;> try (simp at hc; done))
     repeat' (first | refine wA ?_ | exact qT | fail)
     refine zV qR qS ?_ ?_
     ·exact yG0 _ _ _ _ _
     ·show zEu _ (zAy 1000 [oPA, oP2 c l, oEn c l D3, oPN, oPC])
      exact qO
  ·have w1 : (zHw c l i o != 0) = true := by simpa using hw
   rw [if_neg hw]
   repeat' (first | refine wB ?_ | refine zC (by simp only [go_sem, w1]; rfl) qR ?_ ?_ | refine zO [1001, 1002] K70 qR (by simp only [go_sem, w1]; first | done | rfl) (by simp only [go_sem, w1]) (by first | (simp only [go_sem, w1]; done) | (simp only [go_sem, w1]; rfl)) ?_ ⟨c, l, D, i, o, ⟨h4, hl, by omega, by omega, hh, hp, by omega⟩, rfl, rfl, rfl, rfl⟩ (by simp only [go_sem, w1]; rfl) ?_ | exact qT | fail)
   (refine zAa qS qC qC ?_ ?_ <;> intro hb hc <;> try (simp at hc; done))
   repeat' (first | refine wA ?_ | exact qT | fail)
   refine zV qR qS ?_ ?_
   ·exact yG0 _ _ _ _ _
   ·show zEu _ (zAy 1000 [oPA, oP2 c l, oEn c l (zGj c l i o D), oPN, oPC])
    exact qO
end Go.Sx
