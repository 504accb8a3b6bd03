/- Lemmas on the judge: J46, J51, P0, P1, P4. -/
import Derived.Test.YtmbocmonhcplhaaGreatP17
import Derived.Test.YtmbocmonhcplhaaGreatJ48
import Derived.Test.YtmbocmonhcplhaaGreatS3
import Derived.Lib.Bytealg
import Derived.Test.YtmbocmonhcplhaaGreatJ15
import Derived.Test.YtmbocmonhcplhaaGreatJ21
set_option linter.all false
set_option maxHeartbeats 20000000
set_option maxRecDepth 8000
namespace Go.Sx
open Go.Proofs Tryz
section
variable {P : Program} {F : List Nat} {w0 : Base} {s : St} {ops : Array Oper} {Q : Exit -> Act -> World -> Prop} {rest : List Oper}
theorem yAc {t : Nat} {name : String} {x : Operand} {dI : SD} {args : Array Operand} {tys : Array Nat} {ty : Nat} {pos : String} {af : Array Edge} {ds : List SD} {d : SD} {s' : St} (hI : zZu P dI name ds d)
  (hx : ev s x = dI) (ha : args.toList.map (unG s) = ds) (hg : zAl (gCs s args.toList [])) (hs : zCp s t d = some s')
  (hn : zAg P F w0 ops Q rest s') : zAg P F w0 ops Q (⟨some t, .call ⟨.invoke x name, args, tys⟩, ty, pos, af, none⟩ :: rest) s := by
 obtain ⟨tx, l0, f, R, rfl, hm, hf, hR⟩ := hI;subst ha;exact yAd hm hf hx rfl hg hR hs hn
end
open Go.Proofs Go.RowKit
attribute [local irreducible] Run zAg zAs OpT zAc SLe OLe
attribute [local irreducible] cM dM
theorem yI1 : zKr 0 (fun _ => false) = S0 := by funext z; simp [zKr, S0]
theorem yKc : (.mp ⟨some .i64, 1, zC9 (MK.i 0) (fun _ => false), fT, none⟩ [] : OB) = zHl S0 := by
 have h := yBd;simp only [zHl, OB.mp.injEq, MD.mk.injEq] at h;have hc : (0 : Nat) = cM fun _ => false := h.1.2.1;have hd : (fun _ => false) = dM fun _ => false := h.1.2.2.1;have a1 := zM4 (fun _ => false) 0 (by decide);have a2 := zM5 (fun _ => false) 0 (by decide);rw [<- hd] at a1 a2;rw [<- hc] at a2;simp only [zHl, <- yI1];rw [<- a2, <- a1];rfl
theorem zT9 {g : Nat -> Bool} (m : Nat) : ((List.range m).any g = false) ↔ ∀ j, j < m -> g j = false := by
 simp [List.any_eq_false]
theorem K14 (d : Nat) (hd : 1 + d <= 100) (hcn : zRw d <= 10000) : FnOK prog 14 (fun ds v => ∃ (p : Programme) (s : Scale) (l : List Ach) (day : Int), POk d p /\ ds = [zGx p, zDz s, zAj 8 zCk l, eInt day] /\ v = .bool (zF7 d p s l day)) := by
 have K40x := K40 d hd;have K46x := K46 d hcn;have K45x := K45 d;refine zAb call14 func14 rfl ntmps14 ?_;rintro ds d ⟨p, s, l, day, hp, rfl, rfl⟩;refine ⟨by simp, fun w0 => ?_⟩;by_cases hck : zFx d p = 0
 ·have hc1 : (zFx d p != 0) = false := by simpa using hck
  cases hs : zA0 s
  ·have hv : zF7 d p s l day = false := by simp [zF7, hs]
   rw [hv]
   repeat' (first | refine wB ?_ | refine zC (by simp only [go_sem, hc1, hs]; rfl) qR ?_ ?_ | refine zG K40x (by simp only [go_sem, hc1, hs]; first | done | rfl) ?_ ⟨p, hp, rfl, rfl⟩ (by simp only [go_sem, hc1, hs]; rfl) ?_ | refine zN 17 qR (by simp only [go_sem, hc1, hs]; rfl) K41 (by simp only [go_sem, hc1, hs]; first | done | rfl) (fun hg => ?_) (fun _ => ⟨_, rfl, rfl⟩) (by simp only [go_sem, hc1, hs]; rfl) ?_ | (refine zAa (by simp only [go_sem, hc1, hs]; rfl) qC qC ?_ ?_ <;> intro hb hc <;> try (simp at hc; done)) | refine zE qR ?_ | exact qT | exact zAc.bool rfl | exact qP | fail)
   all_goals skip
  ·have hu : zF7 d p s l day = (decide ((l.filter fun a => !zAz p day a).length <= 10) && (List.range (2 ^ (l.filter fun a => !zAz p day a).length)).any fun set => zDt p (l.filter fun a => !zAz p day a) set && (List.range 1024).any fun part => aft s (l.filter fun a => !zAz p day a) d p.Need S0 part && (part &&& set == part)) := by
    rw [zF7, hs, zyr hck, zyg, zyg]
   rw [hu];obtain ⟨y, hy⟩ : ∃ y, (l.filter fun a => !zAz p day a) = y := ⟨_, rfl⟩;rw [hy];have hv : ∀ a, FnV prog 43 [.fp (zJu p), .fp [.int .i64 day]] [zCk a] (.bool (zAz p day a)) := fun a => ⟨_, K43, p, day, a, rfl, rfl⟩
   repeat' (first | refine wB ?_ | refine zC (by simp only [go_sem, hc1, hs]; rfl) qR ?_ ?_ | refine zG K40x (by simp only [go_sem, hc1, hs]; first | done | rfl) ?_ ⟨p, hp, rfl, rfl⟩ (by simp only [go_sem, hc1, hs]; rfl) ?_ | refine zN 17 qR (by simp only [go_sem, hc1, hs]; rfl) K41 (by simp only [go_sem, hc1, hs]; first | done | rfl) (fun hg => ?_) (fun _ => ⟨_, rfl, rfl⟩) (by simp only [go_sem, hc1, hs]; rfl) ?_ | exact qT | exact qP | fail)
   (refine zAa qS qC qC ?_ ?_ <;> intro hb hc <;> try (simp at hc; done))
   refine zI 0 qS ?_;refine zI 2 qS ?_
   repeat' (first | refine wA ?_ | exact qT | fail)
   refine zS A27 qD ?_ ⟨l, rfl, rfl, rfl, rfl, rfl⟩ qS ?_
   ·repeat' (first | exact zz0 | fail)
   repeat' (first | refine wB ?_ | refine zC (by simp only [go_sem, hy]; rfl) qR ?_ ?_ | refine zO [3] K42 qR (by simp only [go_sem, hy]; first | done | rfl) (by simp only [go_sem, hy]) (by first | (simp only [go_sem, hy]; done) | (simp only [go_sem, hy]; rfl)) ?_ ⟨l, 43, [.fp (zJu p), .fp [.int .i64 day]], zAz p day, ⟨hv, fun _ _ _ _ => rfl, fun _ => rfl⟩, rfl, rfl, rfl, rfl⟩ (by simp only [go_sem, hy]; rfl) ?_ | exact qT | fail)
   (refine zAa qS qC qC ?_ ?_ <;> intro hb hc <;> try (simp at hc; done))
   ·have h10 : ¬ y.length <= 10 := by have := of_decide_eq_true hb; omega
    rw [zyq h10]
    repeat' (first | refine wA ?_ | refine zE qR ?_ | exact qT | exact zAc.bool rfl | fail)
    all_goals skip
   have hl : y.length <= 10 := by have := of_decide_eq_false hb; omega
   rw [zyr hl, zyg];have hcnt := yB5 hp hck;have hM := zT5 hp hck;have hI := yDo s y hl d p.Need S0 ⟨zT5 hp hck, yF6 hck⟩;generalize hA : aft s y d p.Need S0 = A at hI |-;have hc2 : decide ((zHt d p.Need : Int) < 1) = false := zyq (by omega);have h2k : (2 : Nat) ^ y.length <= 2 ^ 10 := Nat.pow_le_pow_right (by omega) hl;have esh := yGb y.length (by omega);clear hv hy hu hcnt hck hA;refine zI 3 qS ?_
   repeat' (first | refine wB ?_ | refine zC (by simp only [go_sem, hc2, esh]; rfl) qR ?_ ?_ | refine zG K45x (by simp only [go_sem, hc2, esh]; first | done | rfl) ?_ ⟨p.Need, s, y, ⟨hM, hl⟩, rfl, rfl⟩ (by simp only [go_sem, hc2, esh]; rfl) ?_ | refine zG K46x (by simp only [go_sem, hc2, esh]; first | done | rfl) ?_ ⟨p.Need, s, y, hM, rfl, rfl⟩ (by simp only [go_sem, hc2, esh]; rfl) ?_ | refine zFe (fT) (by simp only [go_sem, hc2, esh]; rfl) (by simp only [go_sem, hc2, esh]; rfl) ?_ | refine yCr (by simp only [go_sem, hc2, esh]; rfl) ?_ ?_ ?_ | (refine zAa (by simp only [go_sem, hc2, esh]; rfl) qC qC ?_ ?_ <;> intro hb hc <;> try (simp at hc; done)) | exact qT | fail)
   ·exact ⟨by decide, trivial⟩
   refine zJh (o' := zHl S0) 4 qR (zC2 yKc) ?_;refine zBc 4 qS ?_
   repeat' (first | (show Run _ _ _ _ _ _; first | refine wA ?_ | refine zE qR ?_ | refine zBj qR qR qR ?_ ?_ | refine zCd qR qR ?_ | refine zT qR qS ?_ | refine zV qR qS ?_ ?_ | refine zBr qR ?_ ?_ | refine zBu qR qS ?_ ?_ | refine zF qR ?_) | (show zAg _ _ _ _ _ _ _; first | refine wA ?_ | refine zC qS qR ?_ ?_ | refine zBg 17 qR qD ?_ | refine zBh 17 qS qR qD qS ?_ | refine zA5 17 qR qD qS ?_ | refine zY qS qZ qZ (fun bn hbn => ?_) | refine zBt qF qR qS ?_) | (show zAs _ _ _ _ _ _ _ _ _ _; first | refine zM qS qR ?_ ?_ | refine zJ qK qK ?_) | exact qT | exact SLe.refl _ | omega | exact zAc.bool rfl | refine zAc.bool ?_ | refine zAc.int ?_ | refine zAc.str ?_ | exact zAc.pure rfl | exact qM | exact qN | exact qP | fail)
   refine yAc hI qD qD ?_ qS ?_
   ·repeat' (first | exact zz0 | fail)
   repeat' (first | refine wB ?_ | refine zC (by simp only [go_sem, esh]; rfl) qR ?_ ?_ | exact qT | exact qP | fail)
   refine zH [4, 9, 11, 43] (fun x : Nat × Unit => [(44, .int .i64 x.1)]) (fun x => []) (fun x => x.1 <= 2 ^ y.length /\ ∀ j, j < x.1 -> (zDt p y j && (List.range 1024).any fun part => A part && (part &&& j == part)) = false) (fun x => 2 ^ y.length - x.1) (0, ()) (fun x => qS) ?_ qL qL ?_
   ·exact ⟨zz7 _, fun j h => absurd h (zyi j)⟩
   rintro ⟨k, _⟩ ⟨g1, g2⟩;simp only at g1 g2
   repeat' (first | refine wA ?_ | exact qT | fail)
   (refine zAa qS qC qC ?_ ?_ <;> intro hb hc <;> try (simp at hc; done))
   ·have hk : k < 2 ^ y.length := by assumption
    repeat' (first | refine wA ?_ | refine zG K47 qD ?_ ⟨p, y, k, hl, by omega, rfl, rfl⟩ qS ?_ | exact qT | fail)
    (refine zAa qS qC qC ?_ ?_ <;> intro hb hc <;> try (simp at hc; done))
    ·have hw : zDt p y k = false := by simpa using hb
     repeat' (first | refine wA ?_ | refine zF qR ?_ | refine zL (k+1,()) ?_ ?_ ⟨rfl, qL, qL⟩ | exact qT | omega)
     refine ⟨by simp only; omega, fun j hj => ?_⟩;by_cases hjk : j = k
     ·subst hjk; rw [hw]; rfl
     ·exact g2 j (by simp only at hj; omega)
    ·have hw : zDt p y k = true := by simpa using hb
     repeat' (first | refine wA ?_ | refine zF0 qS qS qS ?_ | exact qT | fail)
     have h1024 : k < 1024 := by omega
     refine zH [4, 9, 11, 12, 43, 44, 53] (fun x : (MK -> Bool) × Option MK × Nat => []) (fun x => [(5, .mp ⟨some .i64, cM A, dM A, fT, some (.iter x.2.2 x.1 x.2.1)⟩ [])]) (fun x => ∀ z, z < 1024 -> x.1 (.i ((z : Nat) : Int)) = true -> A z = true -> (z &&& k == z) = false) (fun x => x.2.2) ((fun _ => false), none, cM A) (fun x => qS) ?_ qL qL ?_
     ·intro z _ h; cases h
     rintro ⟨V, cur, c⟩ r1;simp only at r1
     repeat' (first | refine wA ?_ | exact rfl | fail)
     refine zJf qS qS qR (fun hdone => ?_) (fun q c' hlt hdom hV => ?_)
     ·have hno : (zDt p y k && (List.range 1024).any fun part => A part && (part &&& k == part)) = false := by
       rw [hw, zyg];refine (zT9 _).2 fun z hz => ?_;cases hA : A z
       ·rfl
       ·rw [r1 z hz (hdone _ (by rw [zTz _ _ hz]; exact hA)) hA]; rfl
      repeat' (first | refine wA ?_ | exact zz0 | fail)
      (refine zAa qS qC qC ?_ ?_ <;> intro hb hc <;> try (simp at hc; done))
      repeat' (first | refine wA ?_ | refine zF qR ?_ | exact qT | fail)
      refine zL (k + 1, ()) ?_ ?_ ⟨rfl, qL, qL⟩
      ·refine ⟨by simp only; omega, fun j hj => ?_⟩
       by_cases hjk : j = k
       ·subst hjk; exact hno
       ·exact g2 j (by simp only at hj; omega)
      ·simp only; omega
     ·obtain ⟨y0, hy0, hy, hS0⟩ := zM0 hdom
      obtain rfl : q = (y0 : Int) := by simpa using hy
      have e1 := band y0 k (by omega) (by omega)
      have e2 : (((y0 &&& k : Nat) : Int) == (y0 : Int)) = (y0 &&& k == y0) := by
       rw [Bool.eq_iff_iff, beq_iff_eq, beq_iff_eq]; omega
      repeat' (first | refine wA ?_ | exact zz0 | fail)
      (refine zAa qS qC qC ?_ ?_ <;> intro hb hc <;> try (simp at hc; done))
      repeat' (first | refine wB ?_ | refine zC (by simp only [go_sem, e1, e2]; rfl) qR ?_ ?_ | refine zJg (by simp only [go_sem, e1, e2]; rfl) (by simp only [go_sem, e1, e2]; rfl) (by simp only [go_sem, e1, e2]; rfl) ?_ | exact qT | fail)
      (refine zAa qS qC qC ?_ ?_ <;> intro hb hc <;> try (simp at hc; done))
      ·have hyes : ((List.range (2 ^ y.length)).any fun set => zDt p y set && (List.range 1024).any fun part => A part && (part &&& set == part)) = true := by
        rw [zyo];refine ⟨k, List.mem_range.2 hk, ?_⟩;rw [hw, zyg, zyo];exact ⟨y0, List.mem_range.2 hy0, by rw [hS0, hb]; rfl⟩
       rw [hyes]
       repeat' (first | refine wA ?_ | refine zE qR ?_ | exact qT | exact zAc.bool rfl | fail)
       all_goals skip
      ·repeat' (first | refine wA ?_ | fail)
       refine zL (zC9 (.i (y0 : Int)) V, some (.i (y0 : Int)), c') ?_ ?_ ⟨rfl, qL, qL⟩
       ·intro z hz hVz hAz
        simp only [zC9, Bool.or_eq_true, zyf, MKi] at hVz
        rcases hVz with h | h
        ·have : z = y0 := by omega
         rw [this]; exact hb
        ·exact r1 z hz h hAz
       ·exact hlt
   ·have hall : ((List.range (2 ^ y.length)).any fun set => zDt p y set && (List.range 1024).any fun part => A part && (part &&& set == part)) = false := (zT9 _).2 fun j hj => g2 j (by omega)
    rw [hall]
    repeat' (first | refine wA ?_ | refine zE qR ?_ | refine zF qR ?_ | exact qT | exact zAc.bool rfl | fail)
    all_goals skip
 ·have hc1 : (zFx d p != 0) = true := by simpa using hck
  have hv : zF7 d p s l day = false := by simp [zF7, hck]
  rw [hv]
  repeat' (first | refine wB ?_ | refine zC (by simp only [go_sem, hc1]; rfl) qR ?_ ?_ | refine zG K40x (by simp only [go_sem, hc1]; first | done | rfl) ?_ ⟨p, hp, rfl, rfl⟩ (by simp only [go_sem, hc1]; rfl) ?_ | refine zBh 17 (by simp only [go_sem, hc1]; rfl) qR (by simp only [go_sem, hc1]; first | done | rfl) (by simp only [go_sem, hc1]; rfl) ?_ | (refine zAa (by simp only [go_sem, hc1]; rfl) qC qC ?_ ?_ <;> intro hb hc <;> try (simp at hc; done)) | refine zE qR ?_ | exact qT | exact zAc.bool rfl | exact qP | fail)
  all_goals skip
end Go.Sx
namespace Go.Sx
open Go.Proofs Tryz
def zU6 (n : Int) : Int := wr (wr (wr (100 * n) + 100) - 1)
def zZp (c : Case) (k : Nat) : Ach := ⟨⟨c.Programme.School, (c.Items.getD k default).Code⟩, (zAf c (c.Items.getD k default).Code).Credits, c.Scale.Pass, zU6 (c.Items.getD k default).Term, [wr (-1 - (k : Int))], 0, []⟩
def itT (c : Case) (ch : Nat) : Nat -> List Item
 | 0 => []
 | k + 1 => itT c ch k ++ if ch.testBit k then [c.Items.getD k default] else []
def acT (c : Case) (ch : Nat) : Nat -> List Ach
 | 0 => c.Has
 | k + 1 => acT c ch k ++ if ch.testBit k then [zZp c k] else []
theorem zRi (c : Case) (ch : Nat) : ∀ k, (itT c ch k).length <= k
 | 0 => zyj _
 | k + 1 => by
  have := zRi c ch k;rw [itT, zye];split <;> simp <;> omega
theorem zZq (c : Case) (ch : Nat) : ∀ k, (acT c ch k).length <= c.Has.length + k
 | 0 => zyj _
 | k + 1 => by
  have := zZq c ch k;rw [acT, zye];split <;> simp <;> omega
def zCz (c : Case) : Int := zU6 (wr (wr (c.First + c.Terms) - 1))
def zZy (d : Nat) (c : Case) : Bool := (List.range (2 ^ c.Items.length)).any fun ch => zQa c (itT c ch c.Items.length) && zF7 d c.Programme c.Scale (acT c ch c.Items.length) (zCz c)
open Go.Proofs Go.RowKit
attribute [local irreducible] Run zAg zAs OpT zAc SLe OLe
@[go_sem] def zZr (l : List Item) : OB := .acc 78 2 l.length (fun i => zCv (l.getD i default))
theorem yI0 (c : Case) (k : Nat) : SLe (.agg [.int .i64 c.Programme.School, .str (c.Items.getD k default).Code, .int .i64 (zAf c (c.Items.getD k default).Code).Credits, .int .i64 c.Scale.Pass, .int .i64 (zU6 (c.Items.getD k default).Term), .list 1 1 (fun i => .int .i64 ([wr (-1 - (k : Int))].getD i 0)), .int .i64 0, .nils]) (zCk (zZp c k)) := by
 refine SLe.agg ⟨SLe.refl _, SLe.refl _, SLe.refl _, SLe.refl _, SLe.refl _, SLe.list rfl fun i hi => ?_, SLe.refl _, SLe.nil0 (α := Int), trivial⟩;have : i = 0 := by omega
 subst this; rfl
theorem K10 (d : Nat) (hd : 1 + d <= 100) (hcn : zRw d <= 10000) : FnOK prog 10 (fun ds v => ∃ c : Case, (POk d c.Programme /\ c.Items.length <= 10 /\ c.Has.length <= 1000) /\ ds = [zJ6 c] /\ v = .bool (zZy d c)) := by
 have K14x := K14 d hd hcn;refine zAb call10 func10 rfl ntmps10 ?_;rintro ds d ⟨c, ⟨hp, hi10, hh⟩, rfl, rfl⟩;refine ⟨by simp, fun w0 => ?_⟩;refine zNi 0 17 rfl rfl fun la => ?_;have h2k : (2 : Nat) ^ c.Items.length <= 2 ^ 10 := Nat.pow_le_pow_right (by omega) hi10;have esh := yGb c.Items.length (by omega)
 repeat' (first | refine wA ?_ | exact qT | fail)
 (refine zAa qS qC qC ?_ ?_ <;> intro hb hc <;> try (simp at hc; done))
 ·exfalso; have := of_decide_eq_true hb; omega
 rw [zZy];generalize hM : 2 ^ c.Items.length = M at esh h2k |-
 repeat' (first | refine wB ?_ | refine zC (by simp only [go_sem, esh]; rfl) qR ?_ ?_ | exact rfl | exact qP | fail)
 refine zH [1, 17] (fun x : Nat × Unit => [(18, .int .i64 x.1)]) (fun x => []) (fun x => x.1 <= M /\ ∀ j, j < x.1 -> (zQa c (itT c j c.Items.length) && zF7 d c.Programme c.Scale (acT c j c.Items.length) (zCz c)) = false) (fun x => M - x.1) (0, ()) (fun x => qS) ?_ qL qL ?_
 ·exact ⟨zz7 _, fun j h => absurd h (zyi j)⟩
 rintro ⟨ch, _⟩ ⟨g1, g2⟩;simp only at g1 g2
 repeat' (first | refine wA ?_ | exact qT | fail)
 (refine zAa qS qC qC ?_ ?_ <;> intro hb hc <;> try (simp at hc; done))
 ·have hch : ch < M := by assumption
  repeat' (first | refine wA ?_ | exact qT | fail)
  refine zS A27 qD ?_ ⟨c.Has, rfl, rfl, rfl, rfl, rfl⟩ qS ?_
  ·repeat' (first | exact zz0 | fail)
  repeat' (first | refine wA ?_ | exact qT | fail)
  refine zX 4 78 2 (fun i => zCv (([] : List Item).getD i default)) rfl rfl rfl ?_;refine zH [1, 3, 17, 18, 4, 5, 25, 26] (fun x : Nat × Unit => [(27, .int .i64 x.1)]) (fun x => [(1, zZs (acT c ch x.1)), (2, zZr (itT c ch x.1))]) (fun x => x.1 <= c.Items.length) (fun x => c.Items.length - x.1) (0, ()) (fun x => qS) ?_ qL qL ?_
  ·exact zz7 _
  rintro ⟨k, _⟩ r1;simp only at r1;have l1 := zRi c ch k;have l2 := zZq c ch k
  repeat' (first | refine wA ?_ | exact qT | fail)
  (refine zAa qS qC qC ?_ ?_ <;> intro hb hc <;> try (simp at hc; done))
  ·have hk : k < c.Items.length := by assumption
   have ek := yCd ch k (by omega) (by omega);have hof : (zDy (c.Items.getD k default).Code c.Offers).getD default = zAf c (c.Items.getD k default).Code := rfl;cases hbit : ch.testBit k
   ·rw [hbit] at ek
    have e1 : acT c ch (k + 1) = acT c ch k := by rw [acT, hbit, if_neg (by simp), List.append_nil]
    have e2 : itT c ch (k + 1) = itT c ch k := by rw [itT, hbit, if_neg (by simp), List.append_nil]
    repeat' (first | refine wB ?_ | refine zC (by simp only [go_sem, ek]; rfl) qR ?_ ?_ | (refine zAa (by simp only [go_sem, ek]; rfl) qC qC ?_ ?_ <;> intro hb hc <;> try (simp at hc; done)) | exact qT | exact qP | fail)
    refine zL (k + 1, ()) ?_ ?_ ⟨rfl, by simp only [go_sem, e1, e2]; repeat' (first | exact trivial | exact zz0 | exact SLe.refl _ | exact OLe.refl _ | exact ⟨_, rfl, OLe.refl _⟩ | refine ⟨_, rfl, ?_⟩ | refine OLe.var ?_ | (show zCr _ _; refine ⟨?_, ?_⟩) | (show zCr [] []; exact zz0) | (refine SLe.int ?_; rw [w64]; omega) | refine SLe.int ?_ | refine SLe.bool ?_ | apply And.intro), by simp only [go_sem, e1, e2]; repeat' (first | exact trivial | exact zz0 | exact SLe.refl _ | exact OLe.refl _ | exact ⟨_, rfl, OLe.refl _⟩ | refine ⟨_, rfl, ?_⟩ | refine OLe.var ?_ | (show zCr _ _; refine ⟨?_, ?_⟩) | (show zCr [] []; exact zz0) | (refine SLe.int ?_; rw [w64]; omega) | refine SLe.int ?_ | refine SLe.bool ?_ | apply And.intro)⟩
    ·simp only; omega
    ·simp only; omega
   ·rw [hbit] at ek
    have e1 : acT c ch (k + 1) = acT c ch k ++ [zZp c k] := by rw [acT, hbit, if_pos rfl]
    have e2 : itT c ch (k + 1) = itT c ch k ++ [c.Items.getD k default] := by rw [itT, hbit, if_pos rfl]
    repeat' (first | refine wB ?_ | refine zC (by simp only [go_sem, ek, hof]; rfl) qR ?_ ?_ | refine zM (by simp only [go_sem, ek, hof]; rfl) qR ?_ ?_ | refine zJ qK qK ?_ | refine zF3 (by simp only [go_sem, ek, hof]; rfl) ?_ (by simp only [go_sem, ek, hof]; rfl) ?_ | refine zG K28 (by simp only [go_sem, ek, hof]; first | done | rfl) ?_ ⟨c.Offers, _, rfl, rfl⟩ (by simp only [go_sem, ek, hof]; rfl) ?_ | refine zP K29 (by simp only [go_sem, ek, hof]; first | done | rfl) ?_ ⟨_, rfl, rfl⟩ (by simp only [go_sem, ek, hof]; rfl) ?_ | (refine zAa (by simp only [go_sem, ek, hof]; rfl) qC qC ?_ ?_ <;> intro hb hc <;> try (simp at hc; done)) | exact qT | exact qP | fail)
    refine zHz 5 1 qS ?_;refine zK (o' := zZs (acT c ch k ++ [zZp c k])) 1 qR (OLe.snoc zCk _ (zZp c k) (yI0 c k)) ?_;refine zK (o' := zZr (itT c ch k ++ [c.Items.getD k default])) 2 qR (OLe.snoc zCv _ (c.Items.getD k default) (SLe.refl _)) ?_;rw [<- e1, <- e2]
    repeat' (first | refine zL (k+1,()) ?_ ?_ ⟨rfl, qL, qL⟩ | omega)
    all_goals skip
  ·have hkl : k = c.Items.length := by omega
   subst hkl;refine zI 1 qS ?_;refine zI 2 qS ?_
   have hE : ∀ b : Bool, (zQa c (itT c ch c.Items.length) && zF7 d c.Programme c.Scale (acT c ch c.Items.length) (zCz c)) = b -> b = false -> ∀ i, i < ch + 1 -> (zQa c (itT c i c.Items.length) && zF7 d c.Programme c.Scale (acT c i c.Items.length) (zCz c)) = false := fun b h1 h2 i hi => by
    by_cases hij : i = ch
    ·subst hij; rw [h1, h2]
    ·exact g2 i (by omega)
   obtain ⟨L, hL⟩ : ∃ L, L = itT c ch c.Items.length := ⟨_, rfl⟩;obtain ⟨A, hA⟩ : ∃ A, A = acT c ch c.Items.length := ⟨_, rfl⟩;rw [<- hL, <- hA] at hE |-
   repeat' (first | refine wA ?_ | refine zM qS qR ?_ ?_ | refine zJ qK qK ?_ | refine zP K30 qD ?_ ⟨c, L, rfl, rfl⟩ qS ?_ | refine zBv 74 qR qS K29 qD (fun hg => ?_) (fun _ => ⟨_, rfl, rfl⟩) qS ?_ | refine zBv 74 qR qS K14x qD (fun hg => ?_) (fun _ => ⟨c.Programme, c.Scale, A, zCz c, hp, rfl, rfl⟩) qS ?_ | refine zF qR ?_ | exact zz0 | exact qP | fail)
   (refine zAa qS qC qC ?_ ?_ <;> intro hb hc <;> try (simp at hc; done))
   ·have hyes : ((List.range M).any fun ch => zQa c (itT c ch c.Items.length) && zF7 d c.Programme c.Scale (acT c ch c.Items.length) (zCz c)) = true := by
     rw [zyo];exact ⟨ch, List.mem_range.2 hch, by rw [<- hL, <- hA]; exact hb⟩
    rw [hyes]
    repeat' (first | refine wA ?_ | refine zE qR ?_ | exact qT | exact zAc.bool rfl | fail)
    all_goals skip
   ·repeat' (first | refine wA ?_ | refine zL (ch+1,()) ?_ ?_ ⟨rfl, qL, qL⟩ | exact qT | omega)
    exact ⟨by simp only; omega, hE _ hb rfl⟩
 ·have hall : ((List.range M).any fun ch => zQa c (itT c ch c.Items.length) && zF7 d c.Programme c.Scale (acT c ch c.Items.length) (zCz c)) = false := (zT9 _).2 fun j hj => g2 j (by omega)
  rw [hall]
  repeat' (first | refine wA ?_ | refine zE qR ?_ | refine zF qR ?_ | exact qT | exact zAc.bool rfl | fail)
  all_goals skip
open Tryz bsD
@[go_sem] theorem fTa67 : yF 67 1 false 1 24 (elT prog 67 = some 69 /\ zcT prog 67 = some (.nils)) := by and_intros <;> kernel_rfl
@[go_sem] theorem fTa69 : yF 69 4 true 5 64 (yG 69 [.int .i64 0, .nils, .nils, .int .i64 0] (yH 69 0 0 1 3 (yH 69 1 1 1 67 (yH 69 2 2 1 67 (yI 69 3 3 1 (ftT prog 69 3 = some 3)))))) := by and_intros <;> kernel_rfl
@[go_sem] theorem fTa123 : yF 123 1 false 9 8 (zcT prog 123 = some (.nilp)) := by and_intros <;> kernel_rfl
@[go_sem] theorem fTa125 : yF 125 1 false 9 8 (zcT prog 125 = some (.nilfn)) := by and_intros <;> kernel_rfl
@[go_sem] theorem fTa127 : yF 127 1 true 5 2 (yG 127 [.int .u16 0] (yI 127 0 0 1 (ftT prog 127 0 = some 45))) := by and_intros <;> kernel_rfl
@[go_sem] theorem fTa129 : yF 129 2 true 5 4 (yG 129 [.int .u16 0, .int .u16 0] (yH 129 0 0 1 127 (yI 129 1 1 1 (ftT prog 129 1 = some 127)))) := by and_intros <;> kernel_rfl
@[go_sem] theorem fTa131 : yF 131 1 false 3 8 (zcT prog 131 = some (.nilmap)) := by and_intros <;> kernel_rfl
@[go_sem] theorem fTa133 : yF 133 26 true 5 328 (yG 133 [.int .i64 0, .int .i64 0, .int .i64 0, .int .i64 0, .str ByteArray.empty, .int .i64 0, .int .i64 0, .int .i64 0, .nils, .nils, .int .i64 0, .int .i64 0, .int .i64 0, .nils, .int .i64 0, .int .i64 0, .int .i64 0, .nils, .int .i64 0, .int .i64 0, .nils, .nils, .int .i64 0, .int .i64 0, .nils, .nilmap] (yH 133 0 0 24 40 (yH 133 1 24 1 37 (yI 133 2 25 1 (ftT prog 133 2 = some 131))))) := by and_intros <;> kernel_rfl
@[go_sem] theorem fTa164 : yF 164 1 false 9 8 (zcT prog 164 = some (.nilfn)) := by and_intros <;> kernel_rfl
@[go_sem] theorem fTa195 : yF 195 1 false 1 24 (elT prog 195 = some 59 /\ zcT prog 195 = some (.nils)) := by and_intros <;> kernel_rfl
@[go_sem] theorem fTa196 : yF 196 1 false 9 8 (zcT prog 196 = some (.nilfn)) := by and_intros <;> kernel_rfl
@[go_sem] theorem fTa198 : yF 198 2 true 5 16 (yG 198 [.int .i64 0, .nilfn] (yH 198 0 0 1 3 (yI 198 1 1 1 (ftT prog 198 1 = some 196)))) := by and_intros <;> kernel_rfl
@[go_sem] theorem fTa199 : yF 199 1 false 1 24 (elT prog 199 = some 198 /\ zcT prog 199 = some (.nils)) := by and_intros <;> kernel_rfl
@[go_sem] theorem fTa241 : yF 241 1 false 3 8 (zcT prog 241 = some (.nilmap)) := by and_intros <;> kernel_rfl
@[go_sem] theorem fTa247 : yF 247 1 false 9 8 (zcT prog 247 = some (.nilfn)) := by and_intros <;> kernel_rfl
@[go_sem] theorem fTa268 : yF 268 1 false 9 8 (zcT prog 268 = some (.nilfn)) := by and_intros <;> kernel_rfl
@[go_sem] theorem fTa271 : yF 271 1 false 9 8 (zcT prog 271 = some (.nilfn)) := by and_intros <;> kernel_rfl
@[go_sem] theorem fTa238 : yF 238 1 false 9 8 (zcT prog 238 = some (.nilfn)) := by and_intros <;> kernel_rfl
@[go_sem] theorem kkT241 : kkT prog 241 = some none /\ mzT prog 241 = some (.slice none 0 0) /\ kkT prog 131 = some (some .u16) /\ mzT prog 131 = some (.bool false) := by and_intros <;> kernel_rfl
theorem w16 (x : Int) : IntKind.u16.wrap x = x % 65536 := by
 unfold IntKind.wrap; simp [IntKind.bits, IntKind.signed]
theorem zJk (a : Nat) : BitVec.ofInt 16 (a : Int) = BitVec.ofNat 16 a := by simp
theorem yHb (a b : Nat) (ha : a < 65536) (hb : b < 65536) : zOt .u16 (a : Int) (b : Int) = ((a &&& b : Nat) : Int) := by
 show IntKind.u16.wrap ((BitVec.ofInt 16 (a : Int) &&& BitVec.ofInt 16 (b : Int)).toNat : Int) = _;rw [zJk, zJk]
 have e : (BitVec.ofNat 16 a &&& BitVec.ofNat 16 b).toNat = a &&& b := by
  rw [BitVec.toNat_and, BitVec.toNat_ofNat, BitVec.toNat_ofNat, Nat.mod_eq_of_lt (by omega), Nat.mod_eq_of_lt (by omega)]
 have hle : a &&& b <= a := Nat.and_le_left;rw [e, w16]; omega
theorem yJr (a b : Nat) (ha : a < 65536) (hb : b < 65536) : orI .u16 (a : Int) (b : Int) = ((a ||| b : Nat) : Int) := by
 show IntKind.u16.wrap ((BitVec.ofInt 16 (a : Int) ||| BitVec.ofInt 16 (b : Int)).toNat : Int) = _;rw [zJk, zJk]
 have e : (BitVec.ofNat 16 a ||| BitVec.ofNat 16 b).toNat = a ||| b := by
  rw [BitVec.toNat_or, BitVec.toNat_ofNat, BitVec.toNat_ofNat, Nat.mod_eq_of_lt (by omega), Nat.mod_eq_of_lt (by omega)]
 have hle : a ||| b < 2 ^ 16 := Nat.or_lt_two_pow (by omega) (by omega);rw [e, w16]; omega
theorem yG8 (a k : Nat) (hk : k < 16) : zL6 .u16 (a : Int) (k : Int) = ((a >>> k : Nat) : Int) := by
 show (a : Int).fdiv (2 ^ (min (k : Int).toNat 16)) = _;have : min (k : Int).toNat 16 = k := by simp; omega
 rw [this, Int.fdiv_eq_ediv_of_nonneg _ (by exact_mod_cast zz7 _), Nat.shiftRight_eq_div_pow];simp
theorem yCo (k : Nat) (hk : k < 16) : yHi .u16 1 (k : Int) = ((2 ^ k : Nat) : Int) := by
 show IntKind.u16.wrap (1 * 2 ^ (min (k : Int).toNat 16)) = _;have : min (k : Int).toNat 16 = k := by simp; omega
 rw [this, Int.one_mul];have h : (2 : Nat) ^ k < 2 ^ 16 := Nat.pow_lt_pow_right (by omega) hk;have e : ((2 : Int) ^ k) = ((2 ^ k : Nat) : Int) := by simp
 rw [e];generalize (2 : Nat) ^ k = z at h |-;rw [w16]; omega
theorem yG9 (a k : Nat) (ha : a < 65536) (hk : k < 16) : zOt .u16 (zL6 .u16 (a : Int) (k : Int)) 1 = if a.testBit k then 1 else 0 := by
 rw [yG8 a k hk];have h1 : a >>> k <= a := by rw [Nat.shiftRight_eq_div_pow]; exact Nat.div_le_self _ _
 have := yHb (a >>> k) 1 (by omega) (by omega);rw [show ((1 : Nat) : Int) = 1 from rfl] at this;rw [this, Nat.and_one_is_mod, Nat.testBit_eq_decide_div_mod_eq, <- Nat.shiftRight_eq_div_pow]
 rcases Nat.mod_two_eq_zero_or_one (a >>> k) with h | h <;> simp [h]
theorem yHa (a k : Nat) (ha : a < 65536) (hk : k < 16) (h0 : a.testBit k = false) : yJl .u16 (a : Int) ((2 ^ k : Nat) : Int) = (a : Int) := by
 show IntKind.u16.wrap ((BitVec.ofInt 16 (a : Int) &&& ~~~ BitVec.ofInt 16 ((2 ^ k : Nat) : Int)).toNat : Int) = _;rw [zJk, zJk]
 have e : BitVec.ofNat 16 a &&& ~~~ BitVec.ofNat 16 (2 ^ k) = BitVec.ofNat 16 a := by
  apply BitVec.eq_of_getLsbD_eq;intro i hi;rw [BitVec.getLsbD_and, BitVec.getLsbD_not, BitVec.getLsbD_ofNat, BitVec.getLsbD_ofNat, Nat.testBit_two_pow];by_cases hik : k = i
  ·subst hik; simp [h0]
  ·simp [hik, hi]
 rw [e, BitVec.toNat_ofNat, Nat.mod_eq_of_lt (by omega), w16]; omega
@[go_sem] def zP6 (m : Nat) : SD := .agg [.int .u16 (m : Int)]
@[go_sem] def zRq (i o : Nat) : SD := .agg [.int .u16 (i : Int), .int .u16 (o : Int)]
theorem yIb (b : Bool) : ((if b then (1 : Int) else 0) == 1) = b := by cases b <;> rfl
theorem K71 : FnOK prog 71 (fun ds d => ∃ m k : Nat, (m < 65536 /\ k < 16) /\ ds = [zP6 m, eInt (k : Int)] /\ d = .bool (m.testBit k)) := by
 refine zAb call71 func71 rfl ntmps71 ?_;rintro ds d ⟨m, k, ⟨hm, hk⟩, rfl, rfl⟩;refine ⟨by simp, fun w0 => ?_⟩;have e := yG9 m k hm hk
 repeat' (first | refine wB ?_ | refine zC (by simp only [go_sem, e, yIb]; rfl) qR ?_ ?_ | refine zE qR ?_ | exact qT | exact zAc.bool rfl | exact qP | fail)
theorem K72 : FnOK prog 72 (fun ds d => ∃ m k : Nat, (m < 65536 /\ k < 16) /\ ds = [zP6 m, eInt (k : Int)] /\ d = zP6 (m ||| 2 ^ k)) := by
 refine zAb call72 func72 rfl ntmps72 ?_;rintro ds d ⟨m, k, ⟨hm, hk⟩, rfl, rfl⟩;refine ⟨by simp, fun w0 => ?_⟩;have h : (2 : Nat) ^ k < 2 ^ 16 := Nat.pow_lt_pow_right (by omega) hk;have e1 := yCo k hk;have e2 := yJr m (2 ^ k) hm (by omega)
 repeat' (first | refine wB ?_ | refine zC (by simp only [go_sem, e1, e2]; rfl) qR ?_ ?_ | refine zM (by simp only [go_sem, e1, e2]; rfl) qR ?_ ?_ | refine zJ qK qK ?_ | refine zT qR (by simp only [go_sem, e1, e2]; rfl) ?_ | exact qT | exact zAc.pure rfl | exact qP | fail)
theorem K73 : FnOK prog 73 (fun ds d => ∃ m k : Nat, (m < 65536 /\ k < 16 /\ m.testBit k = false) /\ ds = [zP6 m, eInt (k : Int)] /\ d = zP6 m) := by
 refine zAb call73 func73 rfl ntmps73 ?_;rintro ds d ⟨m, k, ⟨hm, hk, h0⟩, rfl, rfl⟩;refine ⟨by simp, fun w0 => ?_⟩;have e1 := yCo k hk;have e2 := yHa m k hm hk h0
 repeat' (first | refine wB ?_ | refine zC (by simp only [go_sem, e1, e2]; rfl) qR ?_ ?_ | refine zM (by simp only [go_sem, e1, e2]; rfl) qR ?_ ?_ | refine zJ qK qK ?_ | refine zT qR (by simp only [go_sem, e1, e2]; rfl) ?_ | exact qT | exact zAc.pure rfl | exact qP | fail)
theorem K214 : FnOK prog 214 (fun ds d => ∃ l f caps p, (∀ i, i < l.length -> FnV prog f caps [eStr (l.getD i default)] (.bool (p (l.getD i default)))) /\ ds = [strs l, .fn f caps] /\ d = eInt (zEf p l 0)) := by
 refine zAb call214 func214 rfl ntmps214 ?_;rintro ds d ⟨l, f, caps, p, hp, rfl, rfl⟩;refine ⟨by simp, fun w0 => ?_⟩;refine zBf 0 rfl fun hl => ?_
 repeat' (first | refine wA ?_ | exact qT | fail)
 refine zH [0, 1, 6, 7] (fun k : Nat => [(8, .int .i64 k)]) (fun k => []) (fun k => k <= l.length /\ zEf p l 0 = zEf p (l.drop k) k) (fun k => l.length - k) 0 (fun x => qS) ?_ qL qL ?_
 ·exact ⟨zz7 _, rfl⟩
 rintro k ⟨h1, h2⟩
 repeat' (first | refine wA ?_ | refine zC qS qR ?_ ?_ | refine zW (hp k (by assumption)) qZ qZ ?_ qS ?_ | (refine zAa qS qC qC ?_ ?_ <;> intro hb hc <;> try (simp at hc; done)) | refine zE qR ?_ | refine zF qR ?_ | refine zL (k+1) ?_ ?_ ⟨rfl, qL, qL⟩ | exact qT | omega | refine zAc.int ?_ | exact qP | fail)
 ·rw [h2, zAx _ _ _ ‹k < _›, if_pos hb]
 ·exact ⟨by omega, by rw [h2, zAx _ _ _ ‹k < _›, if_neg (by rw [Bool.not_eq_true]; exact hb)]⟩
 ·rw [h2, zDp _ _ _ (by omega)]
theorem K176 : FnOK prog 176 (fun ds d => ∃ l f caps p, (∀ i, i < l.length -> FnV prog f caps [eStr (l.getD i default)] (.bool (p (l.getD i default)))) /\ ds = [strs l, .fn f caps] /\ d = .bool (l.any p)) := by
 refine zAb call176 func176 rfl ntmps176 ?_;rintro ds d ⟨l, f, caps, p, hp, rfl, rfl⟩;refine ⟨by simp, fun w0 => ?_⟩
 repeat' (first | refine wA ?_ | refine zG K214 qD ?_ ⟨l, f, caps, p, hp, rfl, rfl⟩ qS ?_ | refine zE qR ?_ | exact qT | refine zAc.bool ?_ | fail)
 exact zDq _ _ _
theorem K215 : FnOK prog 215 (fun ds d => ∃ l x, ds = [strs l, eStr x] /\ d = eInt (zEf (fun y => x == y) l 0)) := by
 refine zAb call215 func215 rfl ntmps215 ?_;rintro ds d ⟨l, x, rfl, rfl⟩;refine ⟨by simp, fun w0 => ?_⟩;refine zBf 0 rfl fun hl => ?_
 repeat' (first | refine wA ?_ | exact qT | fail)
 refine zH [0, 1, 6, 7] (fun k : Nat => [(8, .int .i64 k)]) (fun k => []) (fun k => k <= l.length /\ zEf (fun y => x == y) l 0 = zEf (fun y => x == y) (l.drop k) k) (fun k => l.length - k) 0 (fun x => qS) ?_ qL qL ?_
 ·exact ⟨zz7 _, rfl⟩
 rintro k ⟨h1, h2⟩
 repeat' (first | refine wA ?_ | refine zC qS qR ?_ ?_ | (refine zAa qS qC qC ?_ ?_ <;> intro hb hc <;> try (simp at hc; done)) | refine zE qR ?_ | refine zF qR ?_ | refine zL (k+1) ?_ ?_ ⟨rfl, qL, qL⟩ | exact qT | omega | refine zAc.int ?_ | exact qP | fail)
 ·rw [h2, zAx _ _ _ ‹k < _›, if_pos hb]
 ·exact ⟨by omega, by rw [h2, zAx _ _ _ ‹k < _›, if_neg (by rw [Bool.not_eq_true]; exact hb)]⟩
 ·rw [h2, zDp _ _ _ (by omega)]
theorem K178 : FnOK prog 178 (fun ds d => ∃ l x, ds = [strs l, eStr x] /\ d = .bool (l.any fun y => x == y)) := by
 refine zAb call178 func178 rfl ntmps178 ?_;rintro ds d ⟨l, x, rfl, rfl⟩;refine ⟨by simp, fun w0 => ?_⟩
 repeat' (first | refine wA ?_ | refine zG K215 qD ?_ ⟨_, _, rfl, rfl⟩ qS ?_ | refine zE qR ?_ | exact qT | refine zAc.bool ?_ | fail)
 exact zDq _ _ _
theorem K211 : FnOK prog 211 (fun ds d => ∃ n, ds = [eInt n] /\ d = .bool (decide (n < 1) || decide (40 < n))) := by
 refine zAb call211 func211 rfl ntmps211 ?_;rintro ds d ⟨n, rfl, rfl⟩;refine ⟨by simp, fun w0 => ?_⟩
 repeat' (first | refine wA ?_ | refine zC qS qR ?_ ?_ | refine zE qR ?_ | exact qT | exact zAc.bool rfl | exact qP | fail)
theorem K212 : FnOK prog 212 (fun ds d => ∃ l : List Int, (∀ k, k + 1 < l.length -> l.getD k default < l.getD (k + 1) default) /\ ds = [ints l] /\ d = .bool true) := by
 refine zAb call212 func212 rfl ntmps212 ?_;rintro ds d ⟨l, h, rfl, rfl⟩;refine ⟨by simp, fun w0 => ?_⟩;refine zBf 0 rfl fun hl => ?_
 repeat' (first | refine wA ?_ | exact qT | fail)
 refine zH [0] (fun x : Nat × Unit => [(3, .int .i64 (x.1 + 1 : Nat))]) (fun x => []) (fun x => x.1 <= l.length) (fun x => l.length - x.1) (0, ()) (fun x => qS) ?_ qL qL ?_
 ·exact zz7 _
 rintro ⟨k, _⟩ hkl;simp only at hkl;have e1 : IntKind.i64.wrap (((k + 1 : Nat) : Int) - 1) = (k : Int) := by rw [w64]; omega
 repeat' (first | refine wA ?_ | exact qT | fail)
 (refine zAa qS qC qC ?_ ?_ <;> intro hb hc <;> try (simp at hc; done))
 ·have hk : k + 1 < l.length := by assumption
  have h1 := zyq (show ¬ l.getD (k + 1) default <= l.getD k default from by have := h k hk; omega)
  repeat' (first | refine wB ?_ | refine zM (by simp only [go_sem, e1, zya, h1]; rfl) qR ?_ ?_ | refine zJ qK qK ?_ | exact qP | fail)
  (refine zAa qS qC qC ?_ ?_ <;> intro hb hc <;> try (simp at hc; done))
  repeat' (first | refine wA ?_ | exact qT | fail)
  refine zL (k + 1, ()) ?_ ?_ ⟨rfl, qL, qL⟩
  ·show k + 1 <= l.length
   omega
  ·show l.length - (k + 1) < l.length - k
   omega
 ·repeat' (first | refine wA ?_ | refine zE qR ?_ | refine zF qR ?_ | exact qT | exact zAc.bool rfl | fail)
  all_goals skip
theorem K213 : FnOK prog 213 (fun ds d => ∃ l : List ByteArray, (∀ k, k + 1 < l.length -> Op.bytesLess (l.getD k default).toList (l.getD (k + 1) default).toList = true) /\ ds = [strs l] /\ d = .bool true) := by
 refine zAb call213 func213 rfl ntmps213 ?_;rintro ds d ⟨l, h, rfl, rfl⟩;refine ⟨by simp, fun w0 => ?_⟩;refine zBf 0 rfl fun hl => ?_
 repeat' (first | refine wA ?_ | exact qT | fail)
 refine zH [0] (fun x : Nat × Unit => [(3, .int .i64 (x.1 + 1 : Nat))]) (fun x => []) (fun x => x.1 <= l.length) (fun x => l.length - x.1) (0, ()) (fun x => qS) ?_ qL qL ?_
 ·exact zz7 _
 rintro ⟨k, _⟩ hkl;simp only at hkl;have e1 : IntKind.i64.wrap (((k + 1 : Nat) : Int) - 1) = (k : Int) := by rw [w64]; omega
 repeat' (first | refine wA ?_ | exact qT | fail)
 (refine zAa qS qC qC ?_ ?_ <;> intro hb hc <;> try (simp at hc; done))
 ·have hk : k + 1 < l.length := by assumption
  have h1 := h k hk
  repeat' (first | refine wB ?_ | refine zM (by simp only [go_sem, e1, zya, h1]; rfl) qR ?_ ?_ | refine zJ qK qK ?_ | exact qP | fail)
  (refine zAa qS qC qC ?_ ?_ <;> intro hb hc <;> try (simp at hc; done))
  repeat' (first | refine wA ?_ | exact qT | fail)
  refine zL (k + 1, ()) ?_ ?_ ⟨rfl, qL, qL⟩
  ·show k + 1 <= l.length
   omega
  ·show l.length - (k + 1) < l.length - k
   omega
 ·repeat' (first | refine wA ?_ | refine zE qR ?_ | refine zF qR ?_ | exact qT | exact zAc.bool rfl | fail)
  all_goals skip
structure yG1 (o : Offer) : Prop where
 cr : 1 <= o.Credits /\ o.Credits <= 60
 pl : 0 <= o.Places /\ o.Places <= 200
 sl : ∀ x ∈ o.Slots, 1 <= x /\ x <= 4
 si : ∀ k, k + 1 < o.Slots.length -> o.Slots.getD k default < o.Slots.getD (k + 1) default
 nl : o.Needs.length <= 2
 ni : ∀ k, k + 1 < o.Needs.length -> Op.bytesLess (o.Needs.getD k default).toList (o.Needs.getD (k + 1) default).toList = true
theorem K174 : FnOK prog 174 (fun ds d => ∃ o : Offer, yG1 o /\ ds = [zAt o] /\ d = eInt 0) := by
 refine zAb call174 func174 rfl ntmps174 ?_;rintro ds d ⟨o, h, rfl, rfl⟩;refine ⟨by simp, fun w0 => ?_⟩;have f1 := zyq (show ¬ o.Credits < 1 from by have := h.cr; omega);have f2 := zyq (show ¬ 60 < o.Credits from by have := h.cr; omega);have f3 := zyq (show ¬ o.Places < 0 from by have := h.pl; omega);have f4 := zyq (show ¬ 200 < o.Places from by have := h.pl; omega)
 have f5 : (o.Slots.any fun n => decide (n < 1) || decide (40 < n)) = false := by
  rw [List.any_eq_false];intro x hx;have := h.sl x hx;simp; omega
 have f6 := zyq (show ¬ (5 : Int) < (o.Needs.length : Int) from by have := h.nl; omega);have hv : ∀ i, i < o.Slots.length -> FnV prog 211 [] [eInt (o.Slots.getD i default)] (.bool (decide (o.Slots.getD i default < 1) || decide (40 < o.Slots.getD i default))) := fun i _ => ⟨_, K211, _, rfl, rfl⟩
 repeat' (first | refine wB ?_ | refine zC (by simp only [go_sem, f1, f2, f3, f4, f5, f6]; rfl) qR ?_ ?_ | refine zG yJo (by simp only [go_sem, f1, f2, f3, f4, f5, f6]; first | done | rfl) ?_ ⟨o.Slots, 211, [], (fun n => decide (n < 1) || decide (40 < n)), hv, rfl, rfl⟩ (by simp only [go_sem, f1, f2, f3, f4, f5, f6]; rfl) ?_ | refine zG K212 (by simp only [go_sem, f1, f2, f3, f4, f5, f6]; first | done | rfl) ?_ ⟨o.Slots, h.si, rfl, rfl⟩ (by simp only [go_sem, f1, f2, f3, f4, f5, f6]; rfl) ?_ | refine zG K213 (by simp only [go_sem, f1, f2, f3, f4, f5, f6]; first | done | rfl) ?_ ⟨o.Needs, h.ni, rfl, rfl⟩ (by simp only [go_sem, f1, f2, f3, f4, f5, f6]; rfl) ?_ | (refine zAa (by simp only [go_sem, f1, f2, f3, f4, f5, f6]; rfl) qC qC ?_ ?_ <;> intro hb hc <;> try (simp at hc; done)) | refine zE qR ?_ | exact qT | refine zAc.int ?_ | fail)
 all_goals skip
end Go.Sx
