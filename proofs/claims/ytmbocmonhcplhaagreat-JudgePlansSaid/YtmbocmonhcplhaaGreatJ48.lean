/- Lemmas on the judge: A32, J11, J48. -/
import Derived.Test.YtmbocmonhcplhaaGreatA31
import Derived.Test.YtmbocmonhcplhaaGreatJ25
import Derived.Test.YtmbocmonhcplhaaGreatS4
import Derived.Test.YtmbocmonhcplhaaGreatJ21
import Derived.Test.YtmbocmonhcplhaaGreatJ40
set_option linter.all false
set_option maxHeartbeats 40000000
set_option maxRecDepth 8000
namespace Go.Sx
open Go.Proofs Tryz
theorem yDv {P : Program} {F : List Nat} {w0 : Base} {fin : Exit -> Act -> World -> Prop} {k : List It} {s : St} {g : Operand} {ps : Array Nat} {ac bd : Code} (ks : List Nat) (X : LR -> Hp -> List Nat -> Prop)
  (hY : ∀ (h0 : Hp) (bl : List Nat) (r : LR), r.ps = ps -> r.as = ac -> r.bd = bd -> r.tm.size = s.n -> (∀ h e, Le h0 h -> (∀ (i b : Nat), bl[i]? = some b -> e.bs (1000 + i) = b) -> ∀ t, rep h (lkp (yF0 s ks) t) e (r.tm.getD t undef)) -> bl.length = ks.length + 1 -> X r h0 bl)
  (hn : (∀ (h0 : Hp) (bl : List Nat) (r : LR), r.ps = ps -> r.as = ac -> r.bd = bd -> r.tm.size = s.n -> (∀ h e, Le h0 h -> (∀ (i b : Nat), bl[i]? = some b -> e.bs (1000 + i) = b) -> ∀ t, rep h (lkp (yF0 s ks) t) e (r.tm.getD t undef)) -> bl.length = ks.length + 1 -> X r h0 bl) -> Run P F w0 fin (.code (.rangeFunc g ps ac bd) :: k) s) : Run P F w0 fin (.code (.rangeFunc g ps ac bd) :: k) s := hn hY
open Go.Proofs Go.RowKit
attribute [local irreducible] Run zAg zAs OpT zAc SLe OLe
@[go_sem] def yJb : Option (List Int × List Int) -> List SD
 | none => [.nils, .nils]
 | some u => [ints u.1, ints u.2]
theorem K19 : FnOK prog 19 (fun ds d => ∃ (p : Programme) (s : Scale) (l : List Ach) (day : Int), (POk 4 p /\ l.length <= 1000) /\ ds = [zGx p, zDz s, zAj 8 zCk l, eInt day] /\ d = .tup [.agg (yJb (zCa p s l day).1), eInt (zCa p s l day).2]) := by
 refine zPw call19 func19 rfl ntmps19 ?_;rintro ds v ⟨p, s, l, day, ⟨hp, hl⟩, rfl, rfl⟩;refine ⟨by simp, fun w0 => ?_⟩;obtain ⟨E, hE⟩ : ∃ E, (if (zFx 4 p != 0) = true then zFx 4 p else if zA0 s = true then 0 else 10) = E := ⟨_, rfl⟩;have K58v : FnOK prog 58 (fun ds v => ∃ _ : Unit, ds = [zGx p, zDz s] /\ v = eInt E) := (K58 4 (by omega)).weaken fun ds v ⟨_, e1, e2⟩ => ⟨p, s, hp, e1, by rw [e2, hE]⟩;by_cases hE0 : E = 0
 ·subst hE0
  have hck : zFx 4 p = 0 := by
   by_cases h : zFx 4 p = 0
   ·exact h
   ·rw [if_pos (by simpa using h)] at hE
    exact absurd hE h
  have hs : zA0 s = true := by
   cases h : zA0 s
   ·rw [hck, h] at hE
    simp at hE
   ·rfl
  have hdl : 10 < (zAu p day l).length -> zCa p s l day = (none, 2) := fun h => by
   unfold zCa;rw [if_neg (by simp [hck]), if_neg (by rw [hs]; simp), if_pos h]
  have hdn : ¬ 10 < (zAu p day l).length -> yDc (gD p s (zAu p day l) (zL9 p day l 0) day) (zAu p day l).length = none -> zCa p s l day = (none, 31) := fun h hf => by
   unfold zCa;rw [if_neg (by simp [hck]), if_neg (by rw [hs]; simp), if_neg h, hf]
  have hds : ∀ u, ¬ 10 < (zAu p day l).length -> yDc (gD p s (zAu p day l) (zL9 p day l 0) day) (zAu p day l).length = some u -> zCa p s l day = (some u, 0) := fun u h hf => by
   unfold zCa;rw [if_neg (by simp [hck]), if_neg (by rw [hs]; simp), if_neg h, hf]
  have f0 : ((0 : Int) != 0) = false := rfl
  repeat' (first | refine wB ?_ | refine zC (by simp only [go_sem, f0]; rfl) qR ?_ ?_ | refine zPc rfl zP4 ?_ | refine zG K58v (by simp only [go_sem, f0]; first | done | rfl) ?_ ⟨(), rfl, rfl⟩ (by simp only [go_sem, f0]; rfl) ?_ | exact qT | fail)
  (refine zAa qS qC qC ?_ ?_ <;> intro hb hc <;> try (simp at hc; done))
  repeat' (first | refine wA ?_ | exact qT | fail)
  refine zCe 5 0 3 1 (fun i => eInt (([] : List Int).getD i default)) rfl rfl (by simp only [List.set]; rfl) rfl ?_;refine zH [2, 4, 5, 7, 8, 9, 11, 28, 29] (fun x : Nat × List Int => [(30, .int .i64 x.1)]) (fun x => [(6, .acc 3 1 x.2.length (fun i => eInt (x.2.getD i default)))]) (fun x => (x.1 <= l.length /\ x.2.length <= x.1) /\ zL9 p day l 0 = x.2 ++ zL9 p day (l.drop x.1) x.1) (fun x => l.length - x.1) (0, []) (fun x => qS) ?_ qL qL ?_
  ·exact ⟨⟨zz7 _, zyj _⟩, rfl⟩
  rintro ⟨k, acc⟩ ⟨⟨g1, g2⟩, g3⟩;simp only at g1 g2 g3
  repeat' (first | refine wA ?_ | exact qT | fail)
  (refine zAa qS qC qC ?_ ?_ <;> intro hb hc <;> try (simp at hc; done))
  ·have hk : k < l.length := by omega
   rw [zAr _ _ hk, zL9] at g3
   repeat' (first | refine wA ?_ | refine zC qS qR ?_ ?_ | refine zG K59 qD ?_ ⟨p, _, day, rfl, rfl⟩ qS ?_ | exact qT | exact qP | fail)
   (refine zAa qS qC qC ?_ ?_ <;> intro hb hc <;> try (simp at hc; done))
   ·have ho : zAz p day (l.getD k default) = false := by simpa using hb
    rw [ho, if_neg (by simp)] at g3
    repeat' (first | refine wA ?_ | refine zC qS qR ?_ ?_ | exact qT | exact qP | fail)
    refine zK (o' := .acc 3 1 (acc ++ [(k : Int)]).length fun i => eInt ((acc ++ [(k : Int)]).getD i default)) 6 qR (zBl eInt acc _ rfl) ?_;refine zL (k + 1, acc ++ [(k : Int)]) ?_ ?_ ⟨rfl, qL, qL⟩
    ·exact ⟨⟨by simp only; omega, by simp; omega⟩, by rw [g3]; simp⟩
    ·simp only; omega
   ·have ho : zAz p day (l.getD k default) = true := by simpa using hb
    rw [ho, if_pos rfl] at g3
    repeat' (first | refine wA ?_ | exact qT | fail)
    refine zL (k + 1, acc) ?_ ?_ ⟨rfl, qL, qL⟩
    ·exact ⟨⟨by simp only; omega, by simp only; omega⟩, g3⟩
    ·simp only; omega
  have hkd : l.drop k = [] := List.drop_eq_nil_of_le (by omega);rw [hkd, zL9, List.append_nil] at g3;have hil := zQ3 p day l 0;have hmm := zNp p day l 0;have hpk := zNo p day l l 0 rfl;rw [g3] at hil hmm hpk hdn hds;have hfo : ∀ a ∈ zAu p day l, zAz p day a = false := zI8;generalize zAu p day l = y at hil hpk hdl hdn hds hfo
  repeat' (first | refine wA ?_ | refine zF qR ?_ | exact qT | fail)
  (refine zAa qS qC qC ?_ ?_ <;> intro hb hc <;> try (simp at hc; done))
  ·have hly : 10 < y.length := by omega
   rw [hdl hly]
   repeat' (first | refine wA ?_ | exact qT | fail)
   refine zSi qR qS ?_;exact zAc.le qZ (SLe.refl _)
  have hly : ¬ 10 < y.length := by omega
  have hK60 : FnOK prog 60 (fun ds d => ∃ _ : Unit, ds = [zAj 8 zCk l, ints acc] /\ d = zAj 8 zCk y) := K60.weaken fun ds d ⟨_, e1, e2⟩ => ⟨l, acc, ⟨by omega, fun x hx => by have := hmm x hx; omega⟩, e1, by rw [e2, hpk]⟩;have hq := QOk.of hp hck;have hM : 2 ^ y.length <= 1024 := Nat.pow_le_pow_right (n := 2) (by omega) (show y.length <= 10 by omega)
  repeat' (first | refine zI 6 qS ?_ | refine zI 5 qS ?_ | refine zI 0 qS ?_ | refine zI 1 qS ?_ | refine zI 2 qS ?_ | refine zI 7 qS ?_ | refine wB ?_ | refine zC (by simp only [go_sem, f0]; rfl) qR ?_ ?_ | refine zG hK60 (by simp only [go_sem, f0]; first | done | rfl) ?_ ⟨(), rfl, rfl⟩ (by simp only [go_sem, f0]; rfl) ?_ | refine zG K61 (by simp only [go_sem, f0]; first | done | rfl) ?_ ⟨p.Need, s, y, ⟨hq, by omega⟩, rfl, rfl⟩ (by simp only [go_sem, f0]; rfl) ?_ | exact qT | fail)
  (refine zAa qS qC qC ?_ ?_ <;> intro hb hc <;> try (simp at hc; done))
  repeat' (first | refine zI 8 qS ?_ | refine wA ?_ | apply zWw | refine zG K62 qD ?_ ⟨_, rfl, rfl⟩ qS ?_ | exact qT | fail)
  refine zNj [4, 5, 7, 8, 9, 11, 14, 15, 66] qS ?_;refine yDv [3, 4] (fun r h1 bl => YD r bl h1 (gD p s y acc day) (2 ^ y.length)) (fun h1 bl r hps has hbd htm hsl hbl1 => ?Y) (fun hY => ?rest)
  case rest =>
   cases hf : yDc (gD p s y acc day) y.length with
   | none =>
    rw [hdn hly hf];refine zE5 [3, 4] (gf := 121) (os := [oU0, oEr]) (osu' := [oU0, oEr]) (pe := none) rfl qS qR qR qR qR (fun r K => by rfl) (fun h1 bl r hps has hbd htm hbl1 hle hfx hsl => ?hit) (fun r K => by simp only [go_sem]; rfl) (fun r K => by rfl) (fun r K => ?hk)
    case hk =>
     refine zSh (s' := ?_) qS ?_;simp only [zVh];change Run _ _ ⟨w0, none, [{ target := .collected K, args := #[] }]⟩ _ _ _
     repeat' (first | refine wA ?_ | exact qT | fail)
     refine zK8 9 K qR qR qS ?_;exact zAc.le qZ (SLe.refl _)
    case hit =>
     refine (K121 r h1 bl (by simpa using hbl1) (gD p s y acc day) y.length (by omega) (hY h1 bl r hps has hbd htm hsl hbl1)).weaken ?_;rintro ds os d os' ⟨rfl, rfl, rfl, rfl⟩;exact ⟨(), rfl, rfl, rfl, by rw [hf]; rfl⟩
   | some u =>
    rw [hds u hly hf];refine zE5 [3, 4] (gf := 121) (os := [oU0, oEr]) (osu' := [oU u, oEr]) (pe := some .ret) rfl qS qR qR qR qR (fun r K => by rfl) (fun h1 bl r hps has hbd htm hbl1 hle hfx hsl => ?hit2) (fun r K => by simp only [go_sem]; rfl) (fun r K => by rfl) (fun r K => ?hk2)
    case hk2 =>
     refine zSh (s' := ?_) qS ?_;simp only [zVh];change Run _ _ ⟨w0, none, [{ target := .collected K, args := #[] }]⟩ _ _ _;refine zK8 9 K qR qR qS ?_;exact zAc.le qZ (SLe.refl _)
    case hit2 =>
     refine (K121 r h1 bl (by simpa using hbl1) (gD p s y acc day) y.length (by omega) (hY h1 bl r hps has hbd htm hsl hbl1)).weaken ?_;rintro ds os d os' ⟨rfl, rfl, rfl, rfl⟩;exact ⟨(), rfl, rfl, rfl, by rw [hf]; rfl⟩
  case Y =>
   obtain ⟨c0, c1, c2, rfl⟩ : ∃ b0 b1 b2, bl = [b0, b1, b2] := by
    match bl, hbl1 with
    | [b0, b1, b2], _ => exact ⟨b0, b1, b2, rfl⟩
   refine zKx r [(4, .fp (zJu p)), (5, .fp (scC s)), (7, .fp [.int .i64 day]), (8, .loc 1000 0), (9, .loc 1001 0), (11, .fp [ints acc]), (14, .fp [zAj 8 zCk y]), (15, .fp [.list 1 (2 ^ y.length) fun i => .bool (zQn s y 4 p.Need i)]), (66, .fn 121 [.fp [.int .i64 (y.length : Nat)]])] 93 r.l rfl htm (by rw [hps]; simp) (fun h e hl hb t => hsl h e hl hb t) ?_;clear hsl hdl hdn hds hmm hfo hK60 K58v hpk;rintro ds os v os' ⟨m, hm, rfl, rfl, rfl, rfl⟩;have hjs2 : ∀ k ∈ zC8 m, 0 <= k /\ k < (acc.length : Int) := by rw [hil]; exact zQ8 hm
   have hml := zNy m;have hjs := zQ8 hm;have hm2 : m < 1024 := by omega
   have hpl : (zA2 y (zC8 m)).length <= 1000 := by rw [zKk]; omega
   cases htg : tgF p day (zA2 y (zC8 m))
   ·have hg : gD p s y acc day m = none := by unfold gD; rw [htg]; rfl
    rw [hg];refine ⟨[oU0, oEr], [oU0, oEr], none, ?_, rfl, rfl, rfl, rfl, rfl, by rw [hps]; rfl, fun F w0 han2 => ?_, ?_, fun F w0 han2 => ?_⟩;rotate_left
    ·rw [has, hps]
     change Run _ F _ _ _ ⟨93, 0, upd _ 67 (eInt (m : Nat)), _⟩
     repeat' (first | refine wA ?_ | exact qT | fail)
     exact zIp
    ·rfl
    ·rw [hbd]
     repeat' (first | refine wB ?_ | refine zC (by simp only [go_sem, zC7, htg]; rfl) qR ?_ ?_ | refine zM (by simp only [go_sem, zC7, htg]; rfl) qR ?_ ?_ | refine zJ qK qK ?_ | refine zG K63 (by simp only [go_sem, zC7, htg]; first | done | rfl) ?_ ⟨m, hm2, rfl, rfl⟩ (by simp only [go_sem, zC7, htg]; rfl) ?_ | refine zP K60 (by simp only [go_sem, zC7, htg]; first | done | rfl) ?_ ⟨y, zC8 m, ⟨by omega, hjs⟩, rfl, rfl⟩ (by simp only [go_sem, zC7, htg]; rfl) ?_ | refine zP K64 (by simp only [go_sem, zC7, htg]; first | done | rfl) ?_ ⟨p, zA2 y (zC8 m), day, hpl, rfl, rfl⟩ (by simp only [go_sem, zC7, htg]; rfl) ?_ | exact qT | fail)
     (refine zAa qS qC qC ?_ ?_ <;> intro hb hc <;> try (simp at hc; done))
     repeat' (first | refine zF qR ?_ | fail)
     refine zD6 ?_;show zEu _ (zAy 1000 [oU0, oEr, zDi r .busy none]);exact qO
   ·cases hlv : (lvF p.Need s y m (m + 1) ([], false)).2
    ·have hg : gD p s y acc day m = none := by unfold gD; rw [htg, hlv]; rfl
     rw [hg];refine ⟨[oU0, oEr], [oU0, oEr], none, ?_, rfl, rfl, rfl, rfl, rfl, by rw [hps]; rfl, fun F w0 han2 => ?_, ?_, fun F w0 han2 => ?_⟩;rotate_left
     ·rw [has, hps]
      change Run _ F _ _ _ ⟨93, 0, upd _ 67 (eInt (m : Nat)), _⟩
      repeat' (first | refine wA ?_ | exact qT | fail)
      exact zIp
     ·rfl
     ·rw [hbd]
      repeat' (first | refine wB ?_ | refine zC (by simp only [go_sem, zC7, htg]; rfl) qR ?_ ?_ | refine zM (by simp only [go_sem, zC7, htg]; rfl) qR ?_ ?_ | refine zJ qK qK ?_ | refine zG K63 (by simp only [go_sem, zC7, htg]; first | done | rfl) ?_ ⟨m, hm2, rfl, rfl⟩ (by simp only [go_sem, zC7, htg]; rfl) ?_ | refine zP K60 (by simp only [go_sem, zC7, htg]; first | done | rfl) ?_ ⟨y, zC8 m, ⟨by omega, hjs⟩, rfl, rfl⟩ (by simp only [go_sem, zC7, htg]; rfl) ?_ | refine zP K64 (by simp only [go_sem, zC7, htg]; first | done | rfl) ?_ ⟨p, zA2 y (zC8 m), day, hpl, rfl, rfl⟩ (by simp only [go_sem, zC7, htg]; rfl) ?_ | exact qT | fail)
      (refine zAa qS qC qC ?_ ?_ <;> intro hb hc <;> try (simp at hc; done))
      repeat' (first | refine wB ?_ | refine zC (by simp only [go_sem, zC7, hlv]; rfl) qR ?_ ?_ | refine zG K65 (by simp only [go_sem, zC7, hlv]; first | done | rfl) ?_ ⟨p, s, y, m, ⟨hp, hck, by omega, hm⟩, rfl, rfl⟩ (by simp only [go_sem, zC7, hlv]; rfl) ?_ | exact qT | fail)
      (refine zAa qS qC qC ?_ ?_ <;> intro hb hc <;> try (simp at hc; done))
      repeat' (first | refine wA ?_ | fail)
      refine zD6 ?_;show zEu _ (zAy 1000 [oU0, oEr, zDi r .busy none]);exact qO
    ·have hg : gD p s y acc day m = some (zA2 acc (zC8 m), (lvF p.Need s y m (m + 1) ([], false)).1) := by unfold gD; rw [htg, hlv]; rfl
     rw [hg];refine ⟨[oU0, oEr], [oU (zA2 acc (zC8 m), (lvF p.Need s y m (m + 1) ([], false)).1), oEr], some .ret, ?_, rfl, rfl, rfl, rfl, rfl, by rw [hps]; rfl, fun F w0 han2 => ?_, ?_, fun F w0 han2 => ?_⟩;rotate_left
     ·rw [has, hps]
      change Run _ F _ _ _ ⟨93, 0, upd _ 67 (eInt (m : Nat)), _⟩
      repeat' (first | refine wA ?_ | exact qT | fail)
      exact zIp
     ·rfl
     ·rw [hbd]
      repeat' (first | refine wB ?_ | refine zC (by simp only [go_sem, zC7, htg]; rfl) qR ?_ ?_ | refine zM (by simp only [go_sem, zC7, htg]; rfl) qR ?_ ?_ | refine zJ qK qK ?_ | refine zG K63 (by simp only [go_sem, zC7, htg]; first | done | rfl) ?_ ⟨m, hm2, rfl, rfl⟩ (by simp only [go_sem, zC7, htg]; rfl) ?_ | refine zP K60 (by simp only [go_sem, zC7, htg]; first | done | rfl) ?_ ⟨y, zC8 m, ⟨by omega, hjs⟩, rfl, rfl⟩ (by simp only [go_sem, zC7, htg]; rfl) ?_ | refine zP K64 (by simp only [go_sem, zC7, htg]; first | done | rfl) ?_ ⟨p, zA2 y (zC8 m), day, hpl, rfl, rfl⟩ (by simp only [go_sem, zC7, htg]; rfl) ?_ | exact qT | fail)
      (refine zAa qS qC qC ?_ ?_ <;> intro hb hc <;> try (simp at hc; done))
      repeat' (first | refine wB ?_ | refine zC (by simp only [go_sem, zC7, hlv]; rfl) qR ?_ ?_ | refine zG K65 (by simp only [go_sem, zC7, hlv]; first | done | rfl) ?_ ⟨p, s, y, m, ⟨hp, hck, by omega, hm⟩, rfl, rfl⟩ (by simp only [go_sem, zC7, hlv]; rfl) ?_ | exact qT | fail)
      (refine zAa qS qC qC ?_ ?_ <;> intro hb hc <;> try (simp at hc; done))
      repeat' (first | refine wA ?_ | refine zG K66 qD ?_ ⟨acc, zC8 m, ⟨by omega, hjs2⟩, rfl, rfl⟩ qS ?_ | exact qT | fail)
      refine zNg ?_;show zEu _ (zAy 1000 [oU (zA2 acc (zC8 m), (lvF p.Need s y m (m + 1) ([], false)).1), oEr, zDi r .busy none]);exact qO
 ·have hd : zCa p s l day = (none, E) := by
   unfold zCa;by_cases h : zFx 4 p = 0
   ·rw [if_neg (by simp [h])]
    have hs : zA0 s = false := by
     cases hh : zA0 s
     ·rfl
     ·rw [h, hh] at hE
      simp at hE;exact absurd hE.symm hE0
    rw [if_pos hs];rw [h, hs] at hE;simp at hE;rw [hE]
   ·rw [if_pos h]
    rw [if_pos (by simpa using h)] at hE;rw [hE]
  rw [hd];have f0 : (E != 0) = true := by simpa using hE0
  repeat' (first | refine wB ?_ | refine zC (by simp only [go_sem, f0]; rfl) qR ?_ ?_ | refine zPc rfl zP4 ?_ | refine zG K58v (by simp only [go_sem, f0]; first | done | rfl) ?_ ⟨(), rfl, rfl⟩ (by simp only [go_sem, f0]; rfl) ?_ | exact qT | fail)
  (refine zAa qS qC qC ?_ ?_ <;> intro hb hc <;> try (simp at hc; done))
  repeat' (first | refine wA ?_ | exact qT | fail)
  refine zSi qR qS ?_;exact zAc.le qZ (SLe.refl _)
attribute [go_sem] zP7
def zAf (c : Case) (code : ByteArray) : Offer := (zDy code c.Offers).getD default
def zLu (a b : Offer) : Bool := a.Slots.any fun n => b.Slots.any fun y => n == y
def zPs (c : Case) (x : Item) (k : Nat) : List Item -> Nat -> Int -> Option Int
 | [], _, cr => some cr
 | y :: r, i, cr =>
  if decide (i < k) && (y.Code == x.Code || (y.Term == x.Term && zLu (zAf c x.Code) (zAf c y.Code))) then none
  else zPs c x k r (i + 1) (if y.Term == x.Term then wr (cr + (zAf c y.Code).Credits) else cr)
def zSx (c : Case) (l : List Item) (k : Nat) : Bool :=
 let x := l.getD k default
 if (!(zDy x.Code c.Offers).isSome || decide ((zAf c x.Code).Places < 1) || zOc c x.Code || !zGt c l x (zAf c x.Code)) then false else
  match zPs c x k l 0 0 with
  | none => false
  | some cr => !decide (c.Most < cr)
def zXh (c : Case) (l : List Item) : Nat -> Nat -> Bool
 | _, 0 => true
 | k, n + 1 => zSx c l k && zXh c l (k + 1) n
end Go.Sx
namespace Go.Sx
open Go.Proofs Tryz
def crT (c : Case) : List Item -> Int -> Int -> Int
 | [], _, cr => cr
 | y :: r, t, cr => crT c r t (if y.Term == t then wr (cr + (zAf c y.Code).Credits) else cr)
def clI (c : Case) (x y : Item) : Bool := y.Code == x.Code || (y.Term == x.Term && zLu (zAf c y.Code) (zAf c x.Code))
def okA (c : Case) (l : List Item) (x : Item) : Bool := !(zDy x.Code c.Offers).isSome || decide ((zAf c x.Code).Places < 1) || zOc c x.Code || decide (c.Most < crT c l x.Term 0)
def okI (c : Case) (l : List Item) (k : Nat) : Bool := !okA c l (l.getD k default) && !((l.take k).any (clI c (l.getD k default))) && zGt c l (l.getD k default) (zAf c (l.getD k default).Code)
def zQa (c : Case) (l : List Item) : Bool := (List.range l.length).all (okI c l)
theorem zRx (a b : Offer) : zLu a b = zLu b a := by
 rw [Bool.eq_iff_iff];simp only [zLu, zyo, beq_iff_eq]
 constructor
 ·rintro ⟨n, h1, y, h2, rfl⟩; exact ⟨n, h2, n, h1, rfl⟩
 ·rintro ⟨n, h1, y, h2, rfl⟩; exact ⟨n, h2, n, h1, rfl⟩
theorem zPr (c : Case) (x : Item) (k : Nat) : ∀ (l : List Item) (i : Nat) (cr : Int), zPs c x k l i cr = if (l.take (k - i)).any (clI c x) then none else some (crT c l x.Term cr)
 | [], i, cr => by simp [zPs, crT]
 | y :: r, i, cr => by
  rw [zPs, zPr c x k r, crT];by_cases hi : i < k
  ·have e : k - i = (k - (i + 1)) + 1 := by omega
   rw [e, List.take_succ_cons, List.any_cons, zyr hi, zyg];have hcl : clI c x y = (y.Code == x.Code || y.Term == x.Term && zLu (zAf c x.Code) (zAf c y.Code)) := by rw [clI, zRx]
   rw [<- hcl];cases clI c x y <;> simp
  ·have e : k - i = 0 := by omega
   have e2 : k - (i + 1) = 0 := by omega
   rw [e, e2, zyq hi];simp
theorem zXp (c : Case) (l : List Item) (k : Nat) : zSx c l k = okI c l k := by
 unfold zSx okI okA;simp only;generalize l.getD k default = x;rw [zPr, Nat.sub_zero];cases (l.take k).any (clI c x)
 ·simp only [Bool.false_eq_true, if_false]
  generalize decide (c.Most < crT c l x.Term 0) = b2;generalize decide ((zAf c x.Code).Places < 1) = b1;cases (zDy x.Code c.Offers).isSome <;> cases b1 <;> cases zOc c x.Code <;> cases zGt c l x (zAf c x.Code) <;> cases b2 <;> rfl
 ·simp only [if_true]
  generalize decide (c.Most < crT c l x.Term 0) = b2;generalize decide ((zAf c x.Code).Places < 1) = b1;cases (zDy x.Code c.Offers).isSome <;> cases b1 <;> cases zOc c x.Code <;> cases zGt c l x (zAf c x.Code) <;> cases b2 <;> rfl
theorem zSu (c : Case) (l : List Item) : ∀ (n k : Nat), zXh c l k n = (List.range n).all fun i => zSx c l (k + i)
 | 0, k => rfl
 | n + 1, k => by
  rw [zXh, zSu c l n, Bool.eq_iff_iff];simp only [zz3, List.all_eq_true, zyp]
  constructor
  ·rintro ⟨h1, h2⟩ i hi
   cases i with
   | zero => exact h1
   | succ i => rw [show k + (i + 1) = k + 1 + i by omega]; exact h2 i (by omega)
  ·intro h
   exact ⟨h 0 (by omega), fun i hi => by rw [show k + 1 + i = k + (i + 1) by omega]; exact h (i + 1) (by omega)⟩
theorem yB6 (c : Case) (l : List Item) : zQa c l = zXh c l 0 l.length := by
 rw [zSu, zQa]
 congr 1
 funext i
 rw [zXp, Nat.zero_add]
theorem zT0 (c : Case) (y : Item) (t : Int) : ∀ (l : List Item) (cr : Int), crT c (l ++ [y]) t cr = if y.Term == t then wr (crT c l t cr + (zAf c y.Code).Credits) else crT c l t cr
 | [], cr => rfl
 | z :: r, cr => by simp only [List.cons_append, crT]; exact zT0 c y t r _
theorem zLv {c : Case} {l : List Item} {k : Nat} (hk : k < l.length) (h : okI c l k = false) : zQa c l = false := by
 rw [zQa, List.all_eq_false];exact ⟨k, List.mem_range.2 hk, by rw [h]; simp⟩
theorem zTk (c : Case) (code : ByteArray) : zOc c code = c.Has.any fun a => (a.Course.School == c.Programme.School) && (a.Course.Code == code) := rfl
open Go.Proofs Go.RowKit
attribute [local irreducible] Run zAg zAs OpT zAc SLe OLe
attribute [go_sem] zP7
def tD (d : MK -> Bool) (n : Nat) : OB := .mp ⟨none, n, d, fun _ => .bool true, none⟩ []
def cD (d : MK -> Bool) (g : MK -> Int) (n : Nat) : OB := .mp ⟨some .i64, n, d, fun q => .int .i64 (g q), none⟩ []
attribute [go_sem] tD cD
@[go_sem] theorem set_true (q : MK) : zJ0 q (.bool true) (fun _ => .bool true) = fun _ => .bool true := by
 funext r; simp only [zJ0]; split <;> rfl
theorem zWl (d : MK -> Bool) (n : Nat) (g : MK -> Int) (t v : Int) : (.mp ⟨some .i64, n, d, zJ0 (.i t) (.int .i64 v) fun q => .int .i64 (g q), none⟩ [] : OB) = cD d (fun q => if q = .i t then v else g q) n := by
 simp only [cD]
 congr 2
 funext r
 simp only [zJ0];split <;> rfl
theorem K30 : FnOK prog 30 (fun ds v => ∃ c l, ds = [zJ6 c, zAj 2 zCv l] /\ v = .bool (zQa c l)) := by
 refine zAb call30 func30 rfl ntmps30 ?_;rintro ds d ⟨c, l, rfl, rfl⟩;refine ⟨by simp, fun w0 => ?_⟩;refine zBf 1 rfl fun ll => ?_;refine zNi 0 17 rfl rfl fun la => ?_
 repeat' (first | refine wA ?_ | refine zFe ((fun _ => .bool true)) qS qS ?_ | exact qT | fail)
 refine zH [1, 2, 5, 25, 26] (fun x : Nat × Nat × (MK -> Bool) => [(27, .int .i64 x.1)]) (fun x => [(1, tD x.2.2 x.2.1)]) (fun x => (x.1 <= c.Has.length /\ x.2.1 <= x.1) /\ ∀ code, x.2.2 (.s code) = (c.Has.take x.1).any fun a => (a.Course.School == c.Programme.School) && (a.Course.Code == code)) (fun x => c.Has.length - x.1) (0, 0, fun _ => false) (fun x => qS) ?_ qL qL ?_
 ·exact ⟨⟨zz7 _, zz7 _⟩, fun code => rfl⟩
 rintro ⟨k, n, dm⟩ ⟨⟨g1, g2⟩, g3⟩;simp only at g1 g2 g3
 repeat' (first | refine wA ?_ | exact qT | fail)
 (refine zAa qS qC qC ?_ ?_ <;> intro hb hc <;> try (simp at hc; done))
 ·have hk : k < c.Has.length := by assumption
  have htk : ∀ code, ((c.Has.take (k + 1)).any fun a => (a.Course.School == c.Programme.School) && (a.Course.Code == code)) = (dm (.s code) || (((c.Has.getD k default).Course.School == c.Programme.School) && ((c.Has.getD k default).Course.Code == code))) := fun code => by
   rw [List.take_add_one, List.any_append, g3, zz2, zz5 hk];simp
  repeat' (first | refine wA ?_ | refine zC qS qR ?_ ?_ | exact qT | exact qP | fail)
  (refine zAa qS qC qC ?_ ?_ <;> intro hb hc <;> try (simp at hc; done))
  ·repeat' (first | refine wA ?_ | refine zIi qS ?_ ?_ ?_ | refine zL (k+1,(bif dm (.s (c.Has.getD k default).Course.Code) then n else n+1),zC9 (.s (c.Has.getD k default).Course.Code) dm) ?_ ?_ ⟨rfl, qL, qL⟩ | exact qT | omega)
   ·simp only [zAl, maxN]; exact ⟨by omega, trivial⟩
   ·refine ⟨⟨by simp only; omega, ?_⟩, fun code => ?_⟩
    ·simp only
     cases dm (.s (c.Has.getD k default).Course.Code) <;> simp <;> omega
    ·simp only
     rw [htk, hb, zyg, Bool.or_comm, zC9]
     congr 1
     rw [Bool.eq_iff_iff, zyf, beq_iff_eq]
     constructor
     ·intro h; injection h with h; exact h.symm
     ·intro h; rw [h]
  ·repeat' (first | refine wA ?_ | refine zL (k+1,n,dm) ?_ ?_ ⟨rfl, qL, qL⟩ | exact qT | omega)
   refine ⟨⟨by simp only; omega, by simp only; omega⟩, fun code => ?_⟩;simp only;rw [htk, hb, Bool.false_and, Bool.or_false]
 have hdm : ∀ code, (bif dm (.s code) then true else false) = zOc c code := fun code => by
  rw [zTk, g3, List.take_of_length_le (by omega)];cases (c.Has.any fun a => (a.Course.School == c.Programme.School) && (a.Course.Code == code)) <;> rfl
 clear g3
 repeat' (first | refine wA ?_ | refine zFe ((fun _ => .int .i64 0)) qS qS ?_ | refine zF qR ?_ | exact qT | fail)
 refine zH [1, 2, 5, 8, 44, 45] (fun x : Nat × Nat × (MK -> Bool) × (MK -> Int) => [(46, .int .i64 x.1)]) (fun x => [(2, cD x.2.2.1 x.2.2.2 x.2.1)]) (fun x => (x.1 <= l.length /\ x.2.1 <= x.1) /\ ∀ t, (bif x.2.2.1 (.i t) then x.2.2.2 (.i t) else 0) = crT c (l.take x.1) t 0) (fun x => l.length - x.1) (0, 0, (fun _ => false), fun _ => 0) (fun x => qS) ?_ qL qL ?_
 ·exact ⟨⟨zz7 _, zz7 _⟩, fun t => rfl⟩
 rintro ⟨k2, n2, dc, gc⟩ ⟨⟨q1, q2⟩, q3⟩;simp only at q1 q2 q3
 repeat' (first | refine wA ?_ | exact qT | fail)
 (refine zAa qS qC qC ?_ ?_ <;> intro hb hc <;> try (simp at hc; done))
 ·have hk : k2 < l.length := by assumption
  have htk : ∀ t, crT c (l.take (k2 + 1)) t 0 = if (l.getD k2 default).Term == t then wr (crT c (l.take k2) t 0 + (zAf c (l.getD k2 default).Code).Credits) else crT c (l.take k2) t 0 := fun t => by
   rw [List.take_add_one, zz5 hk, zz2, zz5 hk];exact zT0 c _ t _ 0
  have hof : (zDy (l.getD k2 default).Code c.Offers).getD default = zAf c (l.getD k2 default).Code := rfl
  repeat' (first | refine wB ?_ | refine zC (by simp only [go_sem, q3, hof]; rfl) qR ?_ ?_ | refine zG K28 (by simp only [go_sem, q3, hof]; first | done | rfl) ?_ ⟨c.Offers, _, rfl, rfl⟩ (by simp only [go_sem, q3, hof]; rfl) ?_ | refine zIi (by simp only [go_sem, q3, hof]; rfl) ?_ ?_ ?_ | refine zSb (by simp only [go_sem, q3, hof]; rfl) ?_ (by simp only [go_sem, q3, hof]; rfl) ?_ | exact qT | exact qP | fail)
  ·simp only [zAl, maxN]; exact ⟨by omega, trivial⟩
  obtain ⟨v, hv⟩ : ∃ v, v = wr (crT c (l.take k2) (l.getD k2 default).Term 0 + (zAf c (l.getD k2 default).Code).Credits) := ⟨_, rfl⟩;refine zK (o' := cD (zC9 (.i (l.getD k2 default).Term) dc) (fun q => if q = .i (l.getD k2 default).Term then v else gc q) (bif dc (.i (l.getD k2 default).Term) then n2 else n2 + 1)) 2 qR (zC2 (by rw [hv]; exact zWl _ _ _ _ _)) ?_;refine zL (k2 + 1, (bif dc (.i (l.getD k2 default).Term) then n2 else n2 + 1), zC9 (.i (l.getD k2 default).Term) dc, fun q => if q = .i (l.getD k2 default).Term then v else gc q) ?_ ?_ ⟨rfl, qL, qL⟩
  ·refine ⟨⟨by simp only; omega, ?_⟩, fun t => ?_⟩
   ·simp only
    cases dc (.i (l.getD k2 default).Term) <;> simp <;> omega
   ·simp only
    rw [htk, <- q3 t];by_cases ht : t = (l.getD k2 default).Term
    ·subst ht
     rw [if_pos (by simp), hv, <- q3];simp [zC9]
    ·have h1 : decide (MK.i t = MK.i (l.getD k2 default).Term) = false := zyq fun h => ht (by injection h)
     have h2 : ((l.getD k2 default).Term == t) = false := by rw [beq_eq_false_iff_ne]; exact fun h => ht h.symm
     have h3 : ¬ MK.i t = MK.i (l.getD k2 default).Term := fun h => ht (by injection h);rw [h2, zC9, h1, Bool.false_or, if_neg h3];rfl
  ·simp only; omega
 have hcr : ∀ t, (bif dc (.i t) then gc (.i t) else 0) = crT c l t 0 := fun t => by rw [q3, List.take_of_length_le (by omega)]
 clear q3
 repeat' (first | refine wA ?_ | refine zF qR ?_ | exact qT | fail)
 refine zX 13 76 5 (fun i => zAt (([] : List Offer).getD i default)) rfl rfl rfl ?_;refine zH [1, 2, 5, 8, 13, 66, 67] (fun x : Nat × List Offer => [(68, .int .i64 x.1)]) (fun x => [(3, .acc 76 5 x.2.length (fun i => zAt (x.2.getD i default)))]) (fun x => (x.1 <= l.length /\ x.2.length = x.1) /\ (∀ j, j < x.1 -> okI c l j = true) /\ ∀ j, j < x.1 -> x.2.getD j default = zAf c (l.getD j default).Code) (fun x => l.length - x.1) (0, []) (fun x => qS) ?_ qL qL ?_
 ·exact ⟨⟨zz7 _, rfl⟩, fun j h => absurd h (zyi j), fun j h => absurd h (zyi j)⟩
 rintro ⟨k3, of⟩ ⟨⟨r1, r2⟩, r3, r4⟩;simp only at r1 r2 r3 r4
 repeat' (first | refine wA ?_ | exact qT | fail)
 (refine zAa qS qC qC ?_ ?_ <;> intro hb hc <;> try (simp at hc; done))
 ·have hk : k3 < l.length := by assumption
  have hof : (zDy (l.getD k3 default).Code c.Offers).getD default = zAf c (l.getD k3 default).Code := rfl
  repeat' (first | refine wB ?_ | refine zC (by simp only [go_sem, hdm, hcr, hof]; rfl) qR ?_ ?_ | refine zG K28 (by simp only [go_sem, hdm, hcr, hof]; first | done | rfl) ?_ ⟨c.Offers, _, rfl, rfl⟩ (by simp only [go_sem, hdm, hcr, hof]; rfl) ?_ | refine zWb 88 qR (by simp only [go_sem, hdm, hcr, hof]; rfl) (by simp only [go_sem, hdm, hcr, hof]; rfl) (fun hg => ?_) (by simp only [go_sem, hdm, hcr, hof]; rfl) ?_ | refine zWb 94 qR (by simp only [go_sem, hdm, hcr, hof]; rfl) (by simp only [go_sem, hdm, hcr, hof]; rfl) (fun hg => ?_) (by simp only [go_sem, hdm, hcr, hof]; rfl) ?_ | exact qT | exact qP | fail)
  (refine zAa qS qC qC ?_ ?_ <;> intro hb hc <;> try (simp at hc; done))
  ·have hA : okA c l (l.getD k3 default) = true := hb
   rw [zLv hk (by rw [okI, hA]; rfl)]
   repeat' (first | refine wA ?_ | refine zE qR ?_ | exact qT | exact zAc.bool rfl | fail)
   all_goals skip
  have hA : okA c l (l.getD k3 default) = false := hb
  repeat' (first | refine wA ?_ | refine zC qS qR ?_ ?_ | exact rfl | exact qP | fail)
  refine zH [1, 2, 5, 8, 13, 14, 15, 16, 66, 67, 68, 105, 106] (fun x : Nat × Unit => [(107, .int .i64 x.1)]) (fun x => []) (fun x => x.1 <= k3 /\ ∀ j, j < x.1 -> clI c (l.getD k3 default) (l.getD j default) = false) (fun x => k3 - x.1) (0, ()) (fun x => qS) ?_ qL qL ?_
  ·exact ⟨zz7 _, fun j h => absurd h (zyi j)⟩
  rintro ⟨i, _⟩ ⟨p1, p2⟩;simp only at p1 p2
  repeat' (first | refine wA ?_ | exact qT | fail)
  (refine zAa qS qC qC ?_ ?_ <;> intro hb hc <;> try (simp at hc; done))
  ·have hi : i < k3 := by assumption
   have ho := r4 i hi
   repeat' (first | refine wA ?_ | refine zC qS qR ?_ ?_ | refine zM qS qR ?_ ?_ | refine zJ qK qK ?_ | refine zBv 123 qR qS K83 qD (fun hg => ?_) (fun _ => ⟨of.getD i default, zAf c (l.getD k3 default).Code, rfl, rfl⟩) qS ?_ | exact rfl | exact qP | fail)
   (refine zAa qS qC qC ?_ ?_ <;> intro hb hc <;> try (simp at hc; done))
   ·have hcl : clI c (l.getD k3 default) (l.getD i default) = true := by rw [clI, <- ho]; exact hb
    have hany : (l.take k3).any (clI c (l.getD k3 default)) = true := by
     rw [zyo];refine ⟨l.getD i default, ?_, hcl⟩;apply List.mem_of_getElem? (i := i);rw [List.getElem?_take, if_pos hi, zz2, zz5 (by omega)]; rfl
    rw [zLv hk (by rw [okI, hA, hany]; rfl)]
    repeat' (first | refine wA ?_ | refine zE qR ?_ | exact qT | exact zAc.bool rfl | fail)
    all_goals skip
   ·have hcl : clI c (l.getD k3 default) (l.getD i default) = false := by rw [clI, <- ho]; exact hb
    repeat' (first | refine wA ?_ | refine zL (i+1,()) ?_ ?_ ⟨rfl, qL, qL⟩ | exact qT | omega)
    refine ⟨by simp only; omega, fun j hj => ?_⟩;by_cases hji : j = i
    ·subst hji; exact hcl
    ·exact p2 j (by simp only at hj; omega)
  have hany : (l.take k3).any (clI c (l.getD k3 default)) = false := by
   rw [List.any_eq_false];intro y hy;obtain ⟨j, hj⟩ := List.getElem?_of_mem hy;rw [List.getElem?_take] at hj;split at hj
   ·rename_i hjk
    have := p2 j (by omega);rw [zz2, zz2, hj] at this;rw [zz2, show clI c (l[k3]?.getD default) y = false from this]; simp
   ·cases hj
  refine zNh 5 4 rfl rfl fun lb => ?_;refine zI 4 qS ?_
  repeat' (first | refine wA ?_ | refine zC qS qR ?_ ?_ | refine zF qR ?_ | exact qT | exact qP | fail)
  refine zK (o' := .acc 76 5 (of ++ [zAf c (l.getD k3 default).Code]).length (fun i => zAt ((of ++ [zAf c (l.getD k3 default).Code]).getD i default))) 3 qR (zBl zAt of (zAf c (l.getD k3 default).Code) rfl) ?_;refine zH [1, 2, 5, 8, 13, 14, 15, 66, 67, 68, 138, 139] (fun x : Nat × Unit => [(140, .int .i64 x.1)]) (fun x => []) (fun x => x.1 <= (zAf c (l.getD k3 default).Code).Needs.length /\ ∀ j, j < x.1 -> (zOc c ((zAf c (l.getD k3 default).Code).Needs.getD j default) || l.any fun y => y.Code == (zAf c (l.getD k3 default).Code).Needs.getD j default && decide (y.Term < (l.getD k3 default).Term)) = true) (fun x => (zAf c (l.getD k3 default).Code).Needs.length - x.1) (0, ()) (fun x => qS) ?_ qL qL ?_
  ·exact ⟨zz7 _, fun j h => absurd h (zyi j)⟩
  rintro ⟨i, _⟩ ⟨p1, p3⟩;simp only at p1 p3
  repeat' (first | refine wA ?_ | exact qT | fail)
  (refine zAa qS qC qC ?_ ?_ <;> intro hb hc <;> try (simp at hc; done))
  ·have hi : i < (zAf c (l.getD k3 default).Code).Needs.length := by assumption
   obtain ⟨nd, hnd⟩ : ∃ nd, nd = (zAf c (l.getD k3 default).Code).Needs.getD i default := ⟨_, rfl⟩;have hv : ∀ j, j < l.length -> FnV prog 84 [.fp [.str ((zAf c (l.getD k3 default).Code).Needs.getD i default)], .fp [.int .i64 (l.getD k3 default).Term, .str (l.getD k3 default).Code]] [zCv (l.getD j default)] (.bool ((l.getD j default).Code == (zAf c (l.getD k3 default).Code).Needs.getD i default && decide ((l.getD j default).Term < (l.getD k3 default).Term))) := fun j _ => ⟨_, K84, _, _, _, rfl, rfl⟩
   repeat' (first | refine zBc 6 qS ?_ | refine wB ?_ | refine zC (by simp only [go_sem, hdm]; rfl) qR ?_ ?_ | refine zN 149 qR (by simp only [go_sem, hdm]; rfl) K85 (by simp only [go_sem, hdm]; first | done | rfl) (fun hg => ?_) (fun _ => ⟨l, 84, _, (fun y => y.Code == (zAf c (l.getD k3 default).Code).Needs.getD i default && decide (y.Term < (l.getD k3 default).Term)), hv, rfl, rfl⟩) (by simp only [go_sem, hdm]; rfl) ?_ | refine zSb (by simp only [go_sem, hdm]; rfl) ?_ (by simp only [go_sem, hdm]; rfl) ?_ | exact qT | exact qP | fail)
   (refine zAa qS qC qC ?_ ?_ <;> intro hb hc <;> try (simp at hc; done))
   ·have hb3 : (zOc c ((zAf c (l.getD k3 default).Code).Needs.getD i default) || l.any fun y => y.Code == (zAf c (l.getD k3 default).Code).Needs.getD i default && decide (y.Term < (l.getD k3 default).Term)) = false := by
     rw [<- Bool.not_eq_true', Bool.not_or]; exact hb
    have hnp : zGt c l (l.getD k3 default) (zAf c (l.getD k3 default).Code) = false := by
     rw [zGt, List.all_eq_false];refine ⟨(zAf c (l.getD k3 default).Code).Needs.getD i default, zAi hi, ?_⟩;rw [hb3]; simp
    rw [zLv hk (by rw [okI, hnp, Bool.and_false])]
    repeat' (first | refine wA ?_ | refine zE qR ?_ | exact qT | exact zAc.bool rfl | fail)
    all_goals skip
   ·have hb3 : (zOc c ((zAf c (l.getD k3 default).Code).Needs.getD i default) || l.any fun y => y.Code == (zAf c (l.getD k3 default).Code).Needs.getD i default && decide (y.Term < (l.getD k3 default).Term)) = true := by
     have h4 : (!zOc c ((zAf c (l.getD k3 default).Code).Needs.getD i default) && !(l.any fun y => y.Code == (zAf c (l.getD k3 default).Code).Needs.getD i default && decide (y.Term < (l.getD k3 default).Term))) = false := hb;rw [<- Bool.not_or, Bool.not_eq_false'] at h4;exact h4
    repeat' (first | refine wA ?_ | refine zL (i+1,()) ?_ ?_ ⟨rfl, qL, qL⟩ | exact qT | omega)
    refine ⟨by simp only; omega, fun j hj => ?_⟩;by_cases hji : j = i
    ·subst hji; exact hb3
    ·exact p3 j (by simp only at hj; omega)
  ·have hnp : zGt c l (l.getD k3 default) (zAf c (l.getD k3 default).Code) = true := by
    rw [zGt, List.all_eq_true];intro n hn;obtain ⟨j, hj⟩ := List.getElem?_of_mem hn;have hjl := (List.getElem?_eq_some_iff.1 hj).1;have := p3 j (by omega);rw [zz2, hj] at this;exact this
   repeat' (first | refine wA ?_ | refine zF qR ?_ | exact qT | fail)
   refine zL (k3 + 1, of ++ [zAf c (l.getD k3 default).Code]) ?_ ?_ ⟨rfl, qL, qL⟩
   ·refine ⟨⟨by simp only; omega, by simp [r2]⟩, fun j hj => ?_, fun j hj => ?_⟩
    ·by_cases hjk : j = k3
     ·subst hjk; rw [okI, hA, hany, hnp]; rfl
     ·exact r3 j (by simp only at hj; omega)
    ·simp only at hj |-
     by_cases hjk : j < k3
     ·rw [zz2, zyb (by omega), <- zz2]; exact r4 j hjk
     ·have : j = k3 := by omega
      subst this;rw [zz2, List.getElem?_append_right (by omega), r2, Nat.sub_self]; rfl
   ·simp only; omega
 ·have hall : zQa c l = true := by
   rw [zQa, List.all_eq_true];exact fun j hj => r3 j (by have := List.mem_range.1 hj; omega)
  rw [hall]
  repeat' (first | refine wA ?_ | refine zE qR ?_ | refine zF qR ?_ | exact qT | exact zAc.bool rfl | fail)
  all_goals skip
end Go.Sx
