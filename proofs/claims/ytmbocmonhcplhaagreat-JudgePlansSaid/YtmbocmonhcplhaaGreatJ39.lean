/- Lemmas on the judge: J33, J37, J38, J39. -/
import Derived.Test.YtmbocmonhcplhaaGreatJ36
set_option linter.all false
set_option maxHeartbeats 20000000
set_option maxRecDepth 8000
namespace Go.Sx
open Go.Proofs Tryz Go.RowKit
attribute [local irreducible] Run zAg zAs OpT zAc SLe OLe
theorem yDk : AsY prog 179 179 := fun _ _ _ => by kernel_rfl
theorem yDm : AsN prog 175 179 (.agg #[.slice none 0 0, .int .i64 0]) := fun _ _ _ => by kernel_rfl
theorem yDl : AsN prog 177 179 (.agg #[.slice none 0 0, .int .i64 0]) := fun _ _ _ => by kernel_rfl
def zHt : Nat -> Need -> Nat
 | 0, n => if n.Kind = 1 \/ n.Kind = 2 then 1 else 0
 | d + 1, n => if n.Kind = 1 \/ n.Kind = 2 then 1 else (n.L.map (zHt d)).sum
theorem zRv : ∀ (d : Nat) (n : Need), MOk d n -> zHt d n <= zRw d
 | 0, n, _ => by simp only [zHt, zRw]; split <;> omega
 | d + 1, n, h => by
  have hc := yB3 d;simp only [zHt, zRw];split
  ·omega
  ·have key : ∀ l : List Need, (∀ x ∈ l, MOk d x) -> (l.map (zHt d)).sum <= l.length * zRw d := by
    intro l
    induction l with
    | nil => intro _; simp
    | cons x r ih =>
     intro hx;have h1 := ih fun y hy => hx y (zyc _ hy);have h2 := zRv d x (hx x (zym ..));simp only [List.map_cons, List.sum_cons, List.length_cons, Nat.succ_mul];omega
   have h5 := key n.L h.2.2;have h6 := zyk (zRw d) h.1;omega
theorem K46 (d : Nat) (hcn : zRw d <= 10000) : FnOK prog 46 (fun ds v => ∃ (n : Need) (s : Scale) (l : List Ach), MOk d n /\ ds = [zBi s l d n] /\ v = eInt (zHt d n : Nat)) := by
 induction d with
 | zero =>
  refine zAb call46 func46 rfl ntmps46 ?_;rintro ds d ⟨n, s, l, hn, rfl, rfl⟩;refine ⟨by simp, fun w0 => ?_⟩;by_cases k1 : n.Kind = 1
  ·have hw : zBi s l 0 n = .iface 175 (.agg (wL s l 0 n)) := by simp only [zBi, wT, if_pos k1]
   have hc : zHt 0 n = 1 := by rw [zHt, if_pos (.inl k1)]
   rw [hw, hc]
   repeat' (first | refine wA ?_ | refine zM8 yDm qS qS ?_ | (refine zAa qS qC qC ?_ ?_ <;> intro hb hc <;> try (simp at hc; done)) | refine zE qR ?_ | exact qT | refine zAc.int ?_ | fail)
   all_goals skip
  by_cases k2 : n.Kind = 2
  ·have hw : zBi s l 0 n = .iface 177 (.agg (wL s l 0 n)) := by simp only [zBi, wT, if_neg k1, if_pos k2]
   have hc : zHt 0 n = 1 := by rw [zHt, if_pos (.inr k2)]
   rw [hw, hc]
   repeat' (first | refine wA ?_ | refine zM8 yDl qS qS ?_ | (refine zAa qS qC qC ?_ ?_ <;> intro hb hc <;> try (simp at hc; done)) | refine zE qR ?_ | exact qT | refine zAc.int ?_ | fail)
   all_goals skip
  ·have hw : zBi s l 0 n = .iface 179 (.agg [.list 1 0 fun _ => .any, .int .i64 (if n.Kind = 3 then 0 else n.N)]) := by simp only [zBi, wT, wL, if_neg k1, if_neg k2]
   have hc : zHt 0 n = 0 := by rw [zHt, if_neg (by omega)]
   rw [hw, hc]
   repeat' (first | refine wA ?_ | refine zV8 yDk qS qS ?_ | (refine zAa qS qC qC ?_ ?_ <;> intro hb hc <;> try (simp at hc; done)) | exact qT | fail)
   refine zH [0, 12, 13] (fun x : Nat × Unit => [(14, .int .i64 x.1), (3, .int .i64 0)]) (fun x => []) (fun x => x.1 <= 0) (fun x => 0 - x.1) (0, ()) (fun x => qS) ?_ qL qL ?_
   ·exact zyj _
   rintro ⟨j, _⟩ q1;simp only at q1
   repeat' (first | refine wA ?_ | (refine zAa qS qC qC ?_ ?_ <;> intro hb hc <;> try (simp at hc; done)) | refine zE qR ?_ | refine zF qR ?_ | exact qT | refine zAc.int ?_ | fail)
   all_goals skip
 | succ d ih =>
  refine zAb call46 func46 rfl ntmps46 ?_;rintro ds d ⟨n, s, l, hn, rfl, rfl⟩;refine ⟨by simp, fun w0 => ?_⟩;by_cases k1 : n.Kind = 1
  ·have hw : zBi s l (d + 1) n = .iface 175 (.agg (wL s l (d + 1) n)) := by simp only [zBi, wT, if_pos k1]
   have hc : zHt (d + 1) n = 1 := by rw [zHt, if_pos (.inl k1)]
   rw [hw, hc]
   repeat' (first | refine wA ?_ | refine zM8 yDm qS qS ?_ | (refine zAa qS qC qC ?_ ?_ <;> intro hb hc <;> try (simp at hc; done)) | refine zE qR ?_ | exact qT | refine zAc.int ?_ | fail)
   all_goals skip
  by_cases k2 : n.Kind = 2
  ·have hw : zBi s l (d + 1) n = .iface 177 (.agg (wL s l (d + 1) n)) := by simp only [zBi, wT, if_neg k1, if_pos k2]
   have hc : zHt (d + 1) n = 1 := by rw [zHt, if_pos (.inr k2)]
   rw [hw, hc]
   repeat' (first | refine wA ?_ | refine zM8 yDl qS qS ?_ | (refine zAa qS qC qC ?_ ?_ <;> intro hb hc <;> try (simp at hc; done)) | refine zE qR ?_ | exact qT | refine zAc.int ?_ | fail)
   all_goals skip
  ·have hw : zBi s l (d + 1) n = .iface 179 (.agg [.list 1 n.L.length fun i => zBi s l d (n.L.getD i default), .int .i64 (if n.Kind = 3 then (n.L.length : Int) else n.N)]) := by simp only [zBi, wT, wL, if_neg k1, if_neg k2]
   have hc0 : zHt (d + 1) n = (n.L.map (zHt d)).sum := by rw [zHt, if_neg (by omega)]
   have hb1 : zRw d <= 10000 := by simp only [zRw] at hcn; omega
   have hsum : ∀ i, i <= n.L.length -> ((n.L.take i).map (zHt d)).sum <= i * zRw d := by
    intro i
    induction i with
    | zero => intro _; simp
    | succ i ihh =>
     intro hi;have h1 := ihh (by omega);have h2 := zRv d _ (hn.2.2 _ (zAi (show i < n.L.length by omega)));rw [List.take_add_one, zz5 (by omega), List.map_append, List.sum_append];rw [zz2, zz5 (by omega)] at h2;simp only [Option.getD_some] at h2;simp only [Option.toList_some, List.map_cons, List.map_nil, List.sum_cons, List.sum_nil, Nat.succ_mul];omega
   rw [hw, hc0]
   repeat' (first | refine wA ?_ | refine zV8 yDk qS qS ?_ | (refine zAa qS qC qC ?_ ?_ <;> intro hb hc <;> try (simp at hc; done)) | exact qT | fail)
   refine zH [0, 12, 13] (fun x : Nat × Unit => [(14, .int .i64 x.1), (3, .int .i64 (((n.L.take x.1).map (zHt d)).sum : Nat))]) (fun x => []) (fun x => x.1 <= n.L.length) (fun x => n.L.length - x.1) (0, ()) (fun x => qS) ?_ qL qL ?_
   ·exact zz7 _
   rintro ⟨j, _⟩ q1;simp only at q1
   repeat' (first | refine wA ?_ | exact qT | fail)
   (refine zAa qS qC qC ?_ ?_ <;> intro hb hc <;> try (simp at hc; done))
   ·have hj : j < n.L.length := by assumption
    have h3 := hn.1;have h7 := hsum j q1;have h8 : j * zRw d <= 8 * 10000 := Nat.mul_le_mul (by omega) hb1;have hx := hn.2.2 _ (zAi hj);have h9 := zRv d _ hx
    have hs : ((n.L.take (j + 1)).map (zHt d)).sum = ((n.L.take j).map (zHt d)).sum + zHt d (n.L.getD j default) := by
     rw [List.take_add_one, zz5 hj, List.map_append, List.sum_append, zz2, zz5 hj];simp
    have e1 : IntKind.i64.wrap ((((n.L.take j).map (zHt d)).sum : Int) + (zHt d (n.L.getD j default) : Int)) = (((n.L.take (j + 1)).map (zHt d)).sum : Nat) := by rw [w64, hs]; omega
    have ih' := ih hb1
    repeat' (first | refine wB ?_ | refine zC (by simp only [go_sem, e1]; rfl) qR ?_ ?_ | refine zG ih' (by simp only [go_sem, e1]; first | done | rfl) ?_ ⟨n.L.getD j default, s, l, hx, rfl, rfl⟩ (by simp only [go_sem, e1]; rfl) ?_ | refine zL (j+1,()) ?_ ?_ ⟨rfl, qL, qL⟩ | exact qT | omega | exact qP | fail)
    all_goals skip
   ·have hje : j = n.L.length := by omega
    repeat' (first | refine wA ?_ | refine zE qR ?_ | refine zF qR ?_ | exact qT | refine zAc.int ?_ | fail)
    all_goals (rw [hje, List.take_length])
attribute [local irreducible] cM dM
@[go_sem] def yIf (l : List (Nat -> Bool)) : SD := .list 1 l.length fun i => zGk (l.getD i fun _ => false)
theorem K274 : zL0 prog 274 (fun ds T es n g => ∃ l : List (Nat -> Bool), (0 < l.length /\ l.length <= 100) /\ ds = [yIf l] /\ T = 103 /\ es = 1 /\ n = l.length /\ g = fun i => zGk (l.getD i fun _ => false)) := by
 refine zFp call274 func274 rfl ntmps274 ?_;rintro ds T es n g ⟨l, hl, rfl, rfl, rfl, rfl, rfl⟩;refine ⟨by simp, fun w0 => ?_⟩
 rcases l with _ | ⟨x, r⟩
 ·exact absurd hl.1 (by simp)
 ·have hl' : r.length + 1 <= 100 := by simpa using hl.2
  repeat' (first | refine wA ?_ | refine zC qS qR ?_ ?_ | (refine zAa qS qC qC ?_ ?_ <;> intro hb hc <;> try (simp at hc; done)) | refine zBj qR qR qR ?_ ?_ | exact qT | exact qP | fail)
  all_goals first | (show zAl _; simp only [zAl]; omega) | (simp only [List.length_cons]; omega) | (intro i _; simp only [zBm, zyi, if_false, Nat.sub_zero]; rfl) | skip
end Go.Sx
namespace Go.Sx
open Go.Proofs Tryz
def zZu (P : Program) (dI : SD) (name : String) (ds : List SD) (d : SD) : Prop := ∃ tx l0 f R, dI = .iface tx (.agg l0) /\ zR3 P tx name f /\ FnOK P f R /\ R (.agg l0 :: ds) d
theorem yAz {P : Program} {F : List Nat} {w0 : Base} {s : St} {Q : Exit -> Act -> World -> Prop} {rest : List Oper} {l : List Oper} {s0 : St} {rs : List Rec} {id : Nat} {t : Nat} {name : String} {x : Operand} {dI : SD} {args : Array Operand} {tys : Array Nat} {ty : Nat} {pos : String} {af : Array Edge} {ds : List SD} {d : SD} {s' : St} (hI : zZu P dI name ds d)
  (hx : ev s x = dI) (ha : args.toList.map (unG s) = ds) (hg : zAl (gCs s args.toList [])) (hs : zCp s t d = some s')
  (hn : zAs P F w0 Q id l s0 (rs ++ [⟨zDe s (tmpsOf (x :: args.toList)), [], some t, d, [], []⟩]) rest s') : zAs P F w0 Q id l s0 rs (⟨some t, .call ⟨.invoke x name, args, tys⟩, ty, pos, af, none⟩ :: rest) s := by
 obtain ⟨tx, l0, f, R, rfl, hm, hf, hR⟩ := hI;subst ha;exact yA0 hm hf hx rfl hg hR hs hn
open Go.Proofs Go.RowKit
attribute [local irreducible] Run zAg zAs OpT zAc SLe OLe
theorem yBd : (.mp ⟨some .i64, 0, fun _ => false, fT, none⟩ [] : OB) = zHl (fun _ => false) := by
 simp only [zHl]
 congr 2
 all_goals first | (funext q; cases q <;> simp [dM]; done) | (simp [cM]; done)
attribute [local irreducible] cM dM
def noneS : Nat -> Bool := fun _ => false
def orS (A B : Nat -> Bool) : Nat -> Bool := fun z => A z || B z
def stepM (A : (Nat -> Bool) -> Nat -> Bool) (met : List (Nat -> Bool)) : List (Nat -> Bool) := (List.range (met.length + 1)).map fun i => if i = 0 then met.getD 0 noneS else orS (met.getD i noneS) (A (met.getD (i - 1) noneS))
def zJq (As : List ((Nat -> Bool) -> Nat -> Bool)) (met : List (Nat -> Bool)) : List (Nat -> Bool) := As.foldl (fun m A => stepM A m) met
def zJz (As : List ((Nat -> Bool) -> Nat -> Bool)) (least : Int) (S : Nat -> Bool) : Nat -> Bool :=
 fun z => ((zJq As [S]).drop (if ((zJq As [S]).length : Int) < least then ((zJq As [S]).length : Int) else least).toNat).any fun m => m z
def aft (s : Scale) (l : List Ach) : Nat -> Need -> (Nat -> Bool) -> Nat -> Bool
 | 0, n, S => if n.Kind = 1 then stepS S (zNs (zA4 n s l 0)) else if n.Kind = 2 then stepS S (fun y z => chs (zDj l) n.N y (zA4 n s l 0) y 0 z) else zJz [] (if n.Kind = 3 then 0 else n.N) S
 | d + 1, n, S => if n.Kind = 1 then stepS S (zNs (zA4 n s l 0)) else if n.Kind = 2 then stepS S (fun y z => chs (zDj l) n.N y (zA4 n s l 0) y 0 z) else zJz (n.L.map (aft s l d)) (if n.Kind = 3 then (n.L.length : Int) else n.N) S
theorem zEi (A : (Nat -> Bool) -> Nat -> Bool) (met : List (Nat -> Bool)) : (stepM A met).length = met.length + 1 := by simp [stepM]
theorem zIk (A : (Nat -> Bool) -> Nat -> Bool) (met : List (Nat -> Bool)) (i : Nat) (hi : i < met.length + 1) : (stepM A met).getD i noneS = if i = 0 then met.getD 0 noneS else orS (met.getD i noneS) (A (met.getD (i - 1) noneS)) := by
 simp only [stepM, zz2, List.getElem?_map, List.getElem?_range hi]; rfl
theorem yJ9 : zGk noneS = .fmap (some .i64) 0 (fun _ => false) fT := by
 have := yBd;simp only [zHl, OB.mp.injEq, MD.mk.injEq] at this;simp only [zGk];rw [show cM noneS = 0 from this.1.2.1.symm, show dM noneS = fun _ => false from this.1.2.2.1.symm]
theorem yHj (S : Nat -> Bool) : SLe (.list 1 1 (zBe [.fmap (some IntKind.i64) (cM S) (dM S) fT])) (.list 1 1 fun i => .fmap (some IntKind.i64) (cM ([S].getD i fun x => false)) (dM ([S].getD i fun x => false)) fT) := SLe.list rfl fun i hi => by
 have : i = 0 := by omega
 subst this; rfl
theorem zNc (U : Nat -> Bool) (z : Nat) (hz : z < 1024) : stepS U (fun y z => y == z) z = U z := by
 simp only [stepS];rw [Bool.eq_iff_iff, zyo]
 constructor
 ·rintro ⟨y, h1, h2⟩
  simp only [zz3, beq_iff_eq] at h2;rw [<- h2.2]; exact h2.1
 ·intro h
  exact ⟨z, List.mem_range.2 hz, by simp [h]⟩
@[go_sem] theorem fT_eq' (q : MK) : fT q = .bool true := rfl
theorem yE6 (nx : List (Nat -> Bool)) (k : Nat) (U : Nat -> Bool) {d : SD} (hk : k < nx.length) (hd : d = zGk U) : OLe (.acc 103 1 nx.length (setF k d fun i => zGk (nx.getD i fun _ => false))) (.acc 103 1 (nx.set k U).length fun i => zGk ((nx.set k U).getD i fun _ => false)) := OLe.accS (by simp) fun i hi => by
 simp only [setF];by_cases h : i = k
 ·subst h
  simp [hd, zz2, hk]
 ·have h' : ¬ k = i := fun hc => h hc.symm
  simp [h, zHi h, zz2, List.getElem?_set, h']
theorem zVb (As : List ((Nat -> Bool) -> Nat -> Bool)) (A : (Nat -> Bool) -> Nat -> Bool) (met : List (Nat -> Bool)) : zJq (As ++ [A]) met = stepM A (zJq As met) := by simp [zJq]
theorem zN1 {l l' : List (Nat -> Bool)} (h1 : l.length = l'.length) (h2 : ∀ i, i < l.length -> l.getD i noneS = l'.getD i noneS) : l = l' := by
 apply List.ext_getElem h1;intro i q1 q2;have := h2 i q1;rw [zz2, zz2, zz5 q1, zz5 q2] at this;exact this
noncomputable def judgeAfter : String := ((((Tryz.prog.info? 175).map (·.methods)).getD #[])[0]?.map (·.name)).getD ""
theorem K273 (nm : String) (s : Scale) (l : List Ach) (d : Nat) (Pm : Need -> Prop) (ih : ∀ (m : Need) (X : Nat -> Bool), Pm m -> zZu prog (zBi s l d m) nm [zGk X] (zGk (aft s l d m X))) (hnm : nm = judgeAfter) :
  FnOK prog 273 (fun ds v => ∃ (ms : List Need) (least : Int) (S : Nat -> Bool), ((∀ m ∈ ms, Pm m) /\ ms.length <= 8 /\ 0 <= least) /\ ds = [.agg [.list 1 ms.length fun i => zBi s l d (ms.getD i default), .int .i64 least], zGk S] /\ v = zGk (zJz (ms.map (aft s l d)) least S)) := by
 subst hnm;refine zAb call273 func273 rfl ntmps273 ?_;rintro ds d ⟨ms, least, S, ⟨hms, hl3, hle⟩, rfl, rfl⟩;refine ⟨by simp, fun w0 => ?_⟩
 repeat' (first | refine wA ?_ | exact qT | fail)
 refine zH [0, 1, 2, 4, 22, 23] (fun x : Nat × List (Nat -> Bool) => [(24, .int .i64 x.1), (5, yIf x.2)]) (fun x => []) (fun x => (x.1 <= ms.length /\ x.2.length = x.1 + 1) /\ x.2 = zJq ((ms.take x.1).map (aft s l d)) [S]) (fun x => ms.length - x.1) (0, [S]) (fun x => qS) ?_ (by simp only [go_sem]; repeat' (first | exact trivial | exact zz0 | exact SLe.refl _ | exact OLe.refl _ | exact ⟨_, rfl, OLe.refl _⟩ | refine ⟨_, rfl, ?_⟩ | refine OLe.var ?_ | (show zCr _ _; refine ⟨?_, ?_⟩) | (show zCr [] []; exact zz0) | (refine SLe.int ?_; rw [w64]; omega) | refine SLe.int ?_ | refine SLe.bool ?_ | apply And.intro | (exact yHj _))) (by simp only [go_sem]; repeat' (first | exact trivial | exact zz0 | exact SLe.refl _ | exact OLe.refl _ | exact ⟨_, rfl, OLe.refl _⟩ | refine ⟨_, rfl, ?_⟩ | refine OLe.var ?_ | (show zCr _ _; refine ⟨?_, ?_⟩) | (show zCr [] []; exact zz0) | (refine SLe.int ?_; rw [w64]; omega) | refine SLe.int ?_ | refine SLe.bool ?_ | apply And.intro | (exact yHj _))) ?_
 ·exact ⟨⟨zz7 _, rfl⟩, rfl⟩
 rintro ⟨j, met⟩ ⟨⟨g1, g2⟩, g3⟩;simp only at g1 g2 g3
 repeat' (first | refine wA ?_ | exact qT | fail)
 (refine zAa qS qC qC ?_ ?_ <;> intro hb hc <;> try (simp at hc; done))
 ·have hj : j < ms.length := by assumption
  repeat' (first | refine wA ?_ | refine zC qS qR ?_ ?_ | exact qT | exact qP | fail)
  refine zS K274 qD ?_ ⟨met, ⟨by omega, by omega⟩, rfl, rfl, rfl, rfl, rfl⟩ qS ?_
  ·repeat' (first | exact zz0 | fail)
  repeat' (first | refine zFe (fT) qS qS ?_ | fail)
  refine zBc 2 qS ?_
  repeat' (first | refine wA ?_ | refine zC qS qR ?_ ?_ | exact qT | exact qP | fail)
  refine zK (o' := .acc 103 1 (met ++ [noneS]).length (fun i => zGk ((met ++ [noneS]).getD i fun _ => false))) 1 qR (zBl (α := Nat -> Bool) zGk met noneS yJ9.symm) ?_;refine zH [0, 1, 2, 4, 5, 7, 22, 23, 24, 8, 33, 34] (fun x : Nat × List (Nat -> Bool) => [(35, .int .i64 x.1)]) (fun x => [(1, .acc 103 1 x.2.length (fun i => zGk (x.2.getD i fun _ => false)))]) (fun x => (x.1 <= met.length /\ x.2.length = met.length + 1) /\ ∀ i, i < met.length + 1 -> x.2.getD i noneS = if 0 < i /\ i <= x.1 then orS (met.getD i noneS) (aft s l d (ms.getD j default) (met.getD (i - 1) noneS)) else met.getD i noneS) (fun x => met.length - x.1) (0, met ++ [noneS]) (fun x => qS) ?_ qL qL ?_
  ·refine ⟨⟨zz7 _, by simp⟩, fun i hi => ?_⟩
   simp only;rw [if_neg (by omega)];simp only [zz2];by_cases h : i < met.length
   ·rw [zyb h]
   ·have : i = met.length := by omega
    subst this;simp
  rintro ⟨n, nx⟩ ⟨⟨q1, q2⟩, q3⟩;simp only at q1 q2 q3
  repeat' (first | refine wA ?_ | exact qT | fail)
  (refine zAa qS qC qC ?_ ?_ <;> intro hb hc <;> try (simp at hc; done))
  ·have hn : n < met.length := by assumption
   have e1 : IntKind.i64.wrap ((n : Int) + 1) = ((n + 1 : Nat) : Int) := by rw [w64]; omega
   have hI := ih _ (met.getD n fun _ => false) (hms _ (zAi hj))
   repeat' (first | refine wB ?_ | refine zC (by simp only [go_sem, e1]; rfl) qR ?_ ?_ | refine zM (by simp only [go_sem, e1]; rfl) qR ?_ ?_ | refine zJ qK qK ?_ | refine zFe (fT) (by simp only [go_sem, e1]; rfl) (by simp only [go_sem, e1]; rfl) ?_ | refine yAz hI (by first | (simp only [go_sem, e1]; done) | (simp only [go_sem, e1]; rfl)) (by simp only [go_sem, e1]; first | done | rfl) ?_ (by simp only [go_sem, e1]; rfl) ?_ | exact qT | exact qP | fail)
   refine zK (o' := zHl (fun _ => false)) 3 qR (zC2 yBd) ?_;refine zH [0, 1, 2, 4, 5, 7, 8, 9, 10, 11, 22, 23, 24, 33, 34, 35, 49, 50] (fun x : Nat × (Nat -> Bool) => [(51, .int .i64 x.1)]) (fun x => [(3, zHl x.2)]) (fun x => x.1 <= 2 /\ ∀ z, z < 1024 -> x.2 z = ((decide (0 < x.1) && (nx.getD (n + 1) fun _ => false) z) || (decide (1 < x.1) && aft s l d (ms.getD j default) (met.getD n fun _ => false) z))) (fun x => 2 - x.1) (0, fun _ => false) (fun x => qS) ?_ qL qL ?_
   ·exact ⟨by decide, fun z _ => by simp⟩
   rintro ⟨k, T⟩ ⟨p1, p2⟩;simp only at p1 p2
   match k, p1 with
   | 0, _ =>
    repeat' (first | refine wA ?_ | exact qT | fail)
    (refine zAa qS qC qC ?_ ?_ <;> intro hb hc <;> try (simp at hc; done))
    repeat' (first | refine wA ?_ | refine zC qS qR ?_ ?_ | refine zF0 qS qS qS ?_ | exact qT | exact qP | fail)
    refine zH [0, 1, 2, 4, 5, 7, 8, 9, 10, 11, 22, 23, 24, 33, 34, 35, 49, 50, 51, 56] (fun x : (MK -> Bool) × Option MK × Nat × (Nat -> Bool) => []) (fun x => [(3, zHl x.2.2.2), (4, .mp ⟨some .i64, cM (nx.getD (n + 1) fun _ => false), dM (nx.getD (n + 1) fun _ => false), fT, some (.iter x.2.2.1 x.1 x.2.1)⟩ [])]) (fun x => ∀ z, z < 1024 -> x.2.2.2 z = (T z || unV x.1 (nx.getD (n + 1) fun _ => false) (fun y z => y == z) z)) (fun x => x.2.2.1) ((fun _ => false), none, cM (nx.getD (n + 1) fun _ => false), T) (fun x => qS) ?_ qL qL ?_
    ·intro z _; simp only; rw [zIf]; simp
    rintro ⟨V, cur, c, T2⟩ r1;simp only at r1
    repeat' (first | refine wA ?_ | exact rfl | fail)
    refine zJf qS qS qR (fun hdone => ?_) (fun y c' hlt hdom hV => ?_)
    ·have hT2 : ∀ z, z < 1024 -> T2 z = (T z || (nx.getD (n + 1) fun _ => false) z) := fun z hz => by rw [r1 z hz, zIg _ hdone, zNc _ z hz]
     repeat' (first | refine wA ?_ | exact zz0 | fail)
     (refine zAa qS qC qC ?_ ?_ <;> intro hb hc <;> try (simp at hc; done))
     repeat' (first | refine wA ?_ | refine zF qR ?_ | exact qT | fail)
     refine zL (1, T2) ?_ ?_ ⟨rfl, qL, qL⟩
     ·exact ⟨by simp only; omega, fun z hz => by simp only; rw [hT2 z hz, p2 z hz]; simp⟩
     ·simp only; omega
    ·obtain ⟨y0, hy0, hy, hS0⟩ := zM0 hdom
     obtain rfl : y = (y0 : Int) := by simpa using hy
     have u1 := zM4 T2 _ hy0;have u2 := zM5 T2 _ hy0
     repeat' (first | refine wA ?_ | exact zz0 | fail)
     (refine zAa qS qC qC ?_ ?_ <;> intro hb hc <;> try (simp at hc; done))
     repeat' (first | refine wB ?_ | refine zC (by simp only [go_sem, u1, u2]; rfl) qR ?_ ?_ | refine zIi (by simp only [go_sem, u1, u2]; rfl) ?_ ?_ ?_ | refine zJg (by simp only [go_sem, u1, u2]; rfl) (by simp only [go_sem, u1, u2]; rfl) (by simp only [go_sem, u1, u2]; rfl) ?_ | exact qT | fail)
     ·exact ⟨Nat.lt_of_le_of_lt (zZe T2) (by decide), trivial⟩
     refine zL (zC9 (.i (y0 : Int)) V, some (.i (y0 : Int)), c', zKr y0 T2) ?_ ?_ ⟨rfl, qL, qL⟩
     ·intro z hz
      simp only [zKr];rw [r1 z hz, zK2 _ hy0 hS0, show (z == y0) = (y0 == z) from by rw [Bool.eq_iff_iff, beq_iff_eq, beq_iff_eq]; exact ⟨Eq.symm, Eq.symm⟩];rw [Bool.or_comm, Bool.or_assoc]
     ·exact hlt
   | 1, _ =>
    repeat' (first | refine wA ?_ | exact qT | fail)
    (refine zAa qS qC qC ?_ ?_ <;> intro hb hc <;> try (simp at hc; done))
    repeat' (first | refine wA ?_ | refine zC qS qR ?_ ?_ | refine zF0 qS qS qS ?_ | exact qT | exact qP | fail)
    refine zH [0, 1, 2, 4, 5, 7, 8, 9, 10, 11, 22, 23, 24, 33, 34, 35, 49, 50, 51, 56] (fun x : (MK -> Bool) × Option MK × Nat × (Nat -> Bool) => []) (fun x => [(3, zHl x.2.2.2), (4, .mp ⟨some .i64, cM (aft s l d (ms.getD j default) (met.getD n fun _ => false)), dM (aft s l d (ms.getD j default) (met.getD n fun _ => false)), fT, some (.iter x.2.2.1 x.1 x.2.1)⟩ [])]) (fun x => ∀ z, z < 1024 -> x.2.2.2 z = (T z || unV x.1 (aft s l d (ms.getD j default) (met.getD n fun _ => false)) (fun y z => y == z) z)) (fun x => x.2.2.1) ((fun _ => false), none, cM (aft s l d (ms.getD j default) (met.getD n fun _ => false)), T) (fun x => qS) ?_ qL qL ?_
    ·intro z _; simp only; rw [zIf]; simp
    rintro ⟨V, cur, c, T2⟩ r1;simp only at r1
    repeat' (first | refine wA ?_ | exact rfl | fail)
    refine zJf qS qS qR (fun hdone => ?_) (fun y c' hlt hdom hV => ?_)
    ·have hT2 : ∀ z, z < 1024 -> T2 z = (T z || (aft s l d (ms.getD j default) (met.getD n fun _ => false)) z) := fun z hz => by rw [r1 z hz, zIg _ hdone, zNc _ z hz]
     repeat' (first | refine wA ?_ | exact zz0 | fail)
     (refine zAa qS qC qC ?_ ?_ <;> intro hb hc <;> try (simp at hc; done))
     repeat' (first | refine wA ?_ | refine zF qR ?_ | exact qT | fail)
     refine zL (2, T2) ?_ ?_ ⟨rfl, qL, qL⟩
     ·exact ⟨by simp only; omega, fun z hz => by simp only; rw [hT2 z hz, p2 z hz]; simp⟩
     ·simp only; omega
    ·obtain ⟨y0, hy0, hy, hS0⟩ := zM0 hdom
     obtain rfl : y = (y0 : Int) := by simpa using hy
     have u1 := zM4 T2 _ hy0;have u2 := zM5 T2 _ hy0
     repeat' (first | refine wA ?_ | exact zz0 | fail)
     (refine zAa qS qC qC ?_ ?_ <;> intro hb hc <;> try (simp at hc; done))
     repeat' (first | refine wB ?_ | refine zC (by simp only [go_sem, u1, u2]; rfl) qR ?_ ?_ | refine zIi (by simp only [go_sem, u1, u2]; rfl) ?_ ?_ ?_ | refine zJg (by simp only [go_sem, u1, u2]; rfl) (by simp only [go_sem, u1, u2]; rfl) (by simp only [go_sem, u1, u2]; rfl) ?_ | exact qT | fail)
     ·exact ⟨Nat.lt_of_le_of_lt (zZe T2) (by decide), trivial⟩
     refine zL (zC9 (.i (y0 : Int)) V, some (.i (y0 : Int)), c', zKr y0 T2) ?_ ?_ ⟨rfl, qL, qL⟩
     ·intro z hz
      simp only [zKr];rw [r1 z hz, zK2 _ hy0 hS0, show (z == y0) = (y0 == z) from by rw [Bool.eq_iff_iff, beq_iff_eq, beq_iff_eq]; exact ⟨Eq.symm, Eq.symm⟩];rw [Bool.or_comm, Bool.or_assoc]
     ·exact hlt
   | 2, _ =>
    repeat' (first | refine wA ?_ | exact qT | fail)
    (refine zAa qS qC qC ?_ ?_ <;> intro hb hc <;> try (simp at hc; done))
    repeat' (first | refine wA ?_ | refine zC qS qR ?_ ?_ | refine zF qR ?_ | exact rfl | exact qP | fail)
    refine zBc 3 qS ?_
    repeat' (first | refine wB ?_ | refine zC (by simp only [go_sem, e1]; rfl) qR ?_ ?_ | exact qT | fail)
    have hq := q3 (n + 1) (by omega);rw [if_neg (by omega)] at hq
    have hE : zGk T = zGk (orS (met.getD (n + 1) noneS) (aft s l d (ms.getD j default) (met.getD n noneS))) := zOh fun z hz => by
     rw [p2 z hz];simp only [orS, <- hq];rfl
    refine zK (o' := .acc 103 1 (nx.set (n + 1) (orS (met.getD (n + 1) noneS) (aft s l d (ms.getD j default) (met.getD n noneS)))).length (fun i => zGk ((nx.set (n + 1) (orS (met.getD (n + 1) noneS) (aft s l d (ms.getD j default) (met.getD n noneS)))).getD i fun _ => false))) 1 qR (yE6 nx (n + 1) _ (by omega) hE) ?_;refine zL (n + 1, nx.set (n + 1) (orS (met.getD (n + 1) noneS) (aft s l d (ms.getD j default) (met.getD n noneS)))) ?_ ?_ ⟨rfl, qL, qL⟩
    ·refine ⟨⟨by simp only; omega, by simp [q2]⟩, fun i hi => ?_⟩
     simp only;by_cases hin : i = n + 1
     ·subst hin
      rw [if_pos (by omega), zz2, List.getElem?_set_self (by omega)];rfl
     ·have h' : ¬ n + 1 = i := fun hc => hin hc.symm
      rw [zz2, List.getElem?_set_ne h', <- zz2, q3 i hi];by_cases hh : 0 < i /\ i <= n
      ·rw [if_pos hh, if_pos (by omega)]
      ·rw [if_neg hh, if_neg (by omega)]
    ·simp only; omega
  ·have hnl : n = met.length := by omega
   have hnx : nx = stepM (aft s l d (ms.getD j default)) met := zN1 (by rw [q2, zEi]) fun i hi => by
    rw [q3 i (by omega), zIk _ _ _ (by omega)];by_cases h0 : i = 0
    ·subst h0; rw [if_neg (by omega), if_pos rfl]
    ·rw [if_pos (by omega), if_neg h0]
   repeat' (first | refine zI 1 qS ?_ | refine wA ?_ | refine zF qR ?_ | exact qT | fail)
   refine zL (j + 1, nx) ?_ ?_ ⟨rfl, qL, qL⟩
   ·refine ⟨⟨by simp only; omega, by simp only; omega⟩, ?_⟩
    simp only;rw [hnx, g3, <- zVb, List.take_add_one, zz5 hj, List.map_append, zz2, zz5 hj];rfl
   ·simp only; omega
 ·clear ih
  have hjm : ms.take j = ms := List.take_of_length_le (by omega);rw [hjm] at g3;have hS : zJz (ms.map (aft s l d)) least S = fun z => (met.drop (if ((met.length : Nat) : Int) < least then ((met.length : Nat) : Int) else least).toNat).any fun m => m z := by funext z; simp only [zJz, <- g3]
  rw [hS];clear hS g3
  repeat' (first | refine wA ?_ | refine zC qS qR ?_ ?_ | refine zFe (fT) qS qS ?_ | refine zF qR ?_ | exact qT | exact qP | fail)
  generalize hbb : (if ((met.length : Nat) : Int) < least then ((met.length : Nat) : Int) else least).toNat = b;have hb2 : b <= met.length := by rw [<- hbb]; split <;> omega
  refine zK (o' := zHl (fun _ => false)) 1 qR (zC2 yBd) ?_;refine zH [0, 1, 2, 4, 15, 79, 80] (fun x : Nat × (Nat -> Bool) => [(81, .int .i64 x.1)]) (fun x => [(1, zHl x.2)]) (fun x => x.1 <= met.length - b /\ ∀ z, z < 1024 -> x.2 z = ((met.drop b).take x.1).any fun m => m z) (fun x => met.length - b - x.1) (0, fun _ => false) (fun x => qS) ?_ qL qL ?_
  ·exact ⟨zz7 _, fun z _ => by simp⟩
  rintro ⟨i, T⟩ ⟨p1, p2⟩;simp only at p1 p2
  repeat' (first | refine wA ?_ | exact qT | fail)
  (refine zAa qS qC qC ?_ ?_ <;> intro hb hc <;> try (simp at hc; done))
  ·have hi : i < met.length - b := by assumption
   have htk : ∀ z, (((met.drop b).take (i + 1)).any fun m => m z) = ((((met.drop b).take i).any fun m => m z) || (met.getD (b + i) fun _ => false) z) := fun z => by
    have h1 : (met.drop b)[i]? = some (met.getD (b + i) fun _ => false) := by
     rw [List.getElem?_drop, zz2, zz5 (by omega)]; rfl
    rw [List.take_add_one, h1, List.any_append];simp
   repeat' (first | refine wA ?_ | refine zC qS qR ?_ ?_ | refine zF0 qS qS qS ?_ | exact qT | exact qP | fail)
   refine zH [0, 1, 2, 4, 15, 79, 80, 81, 86] (fun x : (MK -> Bool) × Option MK × Nat × (Nat -> Bool) => []) (fun x => [(1, zHl x.2.2.2), (2, .mp ⟨some .i64, cM (met.getD (b + i) fun _ => false), dM (met.getD (b + i) fun _ => false), fT, some (.iter x.2.2.1 x.1 x.2.1)⟩ [])]) (fun x => ∀ z, z < 1024 -> x.2.2.2 z = (T z || unV x.1 (met.getD (b + i) fun _ => false) (fun y z => y == z) z)) (fun x => x.2.2.1) ((fun _ => false), none, cM (met.getD (b + i) fun _ => false), T) (fun x => qS) ?_ qL qL ?_
   ·intro z _; simp only; rw [zIf]; simp
   rintro ⟨V, cur, c, T2⟩ r1;simp only at r1
   repeat' (first | refine wA ?_ | exact rfl | fail)
   refine zJf qS qS qR (fun hdone => ?_) (fun y c' hlt hdom hV => ?_)
   ·have hT2 : ∀ z, z < 1024 -> T2 z = (T z || (met.getD (b + i) fun _ => false) z) := fun z hz => by rw [r1 z hz, zIg _ hdone, zNc _ z hz]
    repeat' (first | refine wA ?_ | exact zz0 | fail)
    (refine zAa qS qC qC ?_ ?_ <;> intro hb hc <;> try (simp at hc; done))
    repeat' (first | refine wA ?_ | refine zF qR ?_ | exact qT | fail)
    refine zL (i + 1, T2) ?_ ?_ ⟨rfl, qL, qL⟩
    ·exact ⟨by simp only; omega, fun z hz => by simp only; rw [hT2 z hz, p2 z hz, htk z]⟩
    ·simp only; omega
   ·obtain ⟨y0, hy0, hy, hS0⟩ := zM0 hdom
    obtain rfl : y = (y0 : Int) := by simpa using hy
    have u1 := zM4 T2 _ hy0;have u2 := zM5 T2 _ hy0
    repeat' (first | refine wA ?_ | exact zz0 | fail)
    (refine zAa qS qC qC ?_ ?_ <;> intro hb hc <;> try (simp at hc; done))
    repeat' (first | refine wB ?_ | refine zC (by simp only [go_sem, u1, u2]; rfl) qR ?_ ?_ | refine zIi (by simp only [go_sem, u1, u2]; rfl) ?_ ?_ ?_ | refine zJg (by simp only [go_sem, u1, u2]; rfl) (by simp only [go_sem, u1, u2]; rfl) (by simp only [go_sem, u1, u2]; rfl) ?_ | exact qT | fail)
    ·exact ⟨Nat.lt_of_le_of_lt (zZe T2) (by decide), trivial⟩
    refine zL (zC9 (.i (y0 : Int)) V, some (.i (y0 : Int)), c', zKr y0 T2) ?_ ?_ ⟨rfl, qL, qL⟩
    ·intro z hz
     simp only [zKr];rw [r1 z hz, zK2 _ hy0 hS0, show (z == y0) = (y0 == z) from by rw [Bool.eq_iff_iff, beq_iff_eq, beq_iff_eq]; exact ⟨Eq.symm, Eq.symm⟩];rw [Bool.or_comm, Bool.or_assoc]
    ·exact hlt
  ·have hE : zGk T = zGk (fun z => (met.drop b).any fun m => m z) := zOh fun z hz => by
    rw [p2 z hz, List.take_of_length_le (by rw [List.length_drop]; omega)]
   rw [<- hE]
   repeat' (first | refine zI 1 qS ?_ | refine wA ?_ | refine zE qR ?_ | refine zF qR ?_ | exact qT | exact zAc.pure rfl | fail)
   all_goals skip
def NN : Nat -> Need -> Prop
 | 0, n => 0 <= n.N
 | d + 1, n => 0 <= n.N /\ ∀ x ∈ n.L, NN d x
theorem zOe (n : Need) (s : Scale) : ∀ (l : List Ach) (k : Nat), ∀ x ∈ zA4 n s l k, (k : Int) <= x /\ x < (k : Int) + l.length
 | [], k, x, hx => by simp [zA4] at hx
 | a :: r, k, x, hx => by
  simp only [zA4, zyn] at hx
  rcases hx with hx | hx
  ·split at hx
   ·simp only [zyh] at hx
    subst hx;simp only [List.length_cons]; omega
   ·cases hx
  ·have := zOe n s r (k + 1) x hx
   simp only [List.length_cons]; omega
theorem yFh : zR3 prog 175 judgeAfter 270 := fun _ _ _ => by kernel_rfl
theorem yFg : zR3 prog 177 judgeAfter 271 := fun _ _ _ => by kernel_rfl
theorem zXz : zR3 prog 179 judgeAfter 273 := fun _ _ _ => by kernel_rfl
theorem yDn {P : Program} {f : Nat} {R R' : List SD -> SD -> Prop} (hf : FnOK P f R) (h : ∀ ds' d, R' ds' d -> ∃ ds, R ds d /\ ∀ h e vs, repT h ds' e vs -> repT h ds e vs) : FnOK P f R' :=
 ⟨hf.call, fun ds' d hr h0 e w vs gh hs hv => by
  obtain ⟨ds, h1, h2⟩ := h ds' d hr;exact hf.ok ds d h1 h0 e w vs gh hs (h2 _ _ _ hv)⟩
theorem yKp (s : Scale) (l : List Ach) : FnOK prog 273 (fun ds v => ∃ (least : Int) (S : Nat -> Bool), 0 <= least /\ ds = [.agg [.list 1 0 fun _ => .any, .int .i64 least], zGk S] /\ v = zGk (zJz [] least S)) := by
 refine yDn (K273 _ s l 0 (fun _ => False) (fun _ _ h => h.elim) rfl) ?_;rintro ds v ⟨least, S, hle, rfl, rfl⟩;refine ⟨_, ⟨[], least, S, ⟨fun m hm => by simp at hm, by simp, hle⟩, rfl, rfl⟩, fun h e vs hv => ?_⟩;simp only [repT, rep, repC] at hv |-;obtain ⟨v1, vs1, rfl, ⟨cs, rfl, v2, cs2, rfl, o1, ⟨a, cap, e1, e2, e3, e4⟩, h5⟩, h6⟩ := hv;exact ⟨_, _, rfl, ⟨_, rfl, _, _, rfl, o1, ⟨a, cap, e1, e2, e3, fun h => absurd h (by simp)⟩, h5⟩, h6⟩
theorem yH3 (s : Scale) (l : List Ach) (hl : l.length <= 10) (d : Nat) (n : Need) (S : Nat -> Bool) (hk : n.Kind = 1 \/ n.Kind = 2) : zZu prog (zBi s l d n) judgeAfter [zGk S] (zGk (aft s l d n S)) := by
 have hf : ∀ x ∈ zA4 n s l 0, 0 <= x /\ x < 10 := fun x hx => by have := zOe n s l 0 x hx; omega
 have hf2 : ∀ x ∈ zA4 n s l 0, 0 <= x /\ x < 10 /\ x < (zDj l).length := fun x hx => by
  have := zOe n s l 0 x hx;simp only [zDj, List.length_map]; omega
 have hfl : (zA4 n s l 0).length <= 10 := Nat.le_trans (zP0 n s l 0) hl
 rcases hk with k1 | k2
 ·refine ⟨175, [ints (zA4 n s l 0)], 270, _, ?_, yFh, K270, zA4 n s l 0, S, ⟨hf, hfl⟩, rfl, ?_⟩
  ·cases d <;> simp only [zBi, wT, wL, if_pos k1]
  ·cases d <;> simp only [aft, if_pos k1]
 ·have k1 : ¬ n.Kind = 1 := by omega
  refine ⟨177, [ints (zA4 n s l 0), ints (zDj l), .int .i64 n.N], 271, _, ?_, yFg, K271, zA4 n s l 0, zDj l, n.N, S, ⟨hf2, hfl⟩, rfl, ?_⟩
  ·cases d <;> simp only [zBi, wT, wL, if_neg k1, if_pos k2]
  ·cases d <;> simp only [aft, if_neg k1, if_pos k2]
theorem yDo (s : Scale) (l : List Ach) (hl : l.length <= 10) : ∀ (d : Nat) (n : Need) (S : Nat -> Bool), MOk d n /\ NN d n -> zZu prog (zBi s l d n) judgeAfter [zGk S] (zGk (aft s l d n S))
 | 0, n, S, ⟨hn, hN⟩ => by
  by_cases hk : n.Kind = 1 \/ n.Kind = 2
  ·exact yH3 s l hl 0 n S hk
  ·have k1 : ¬ n.Kind = 1 := fun h => hk (.inl h)
   have k2 : ¬ n.Kind = 2 := fun h => hk (.inr h);refine ⟨179, _, 273, _, ?_, zXz, yKp s l, (if n.Kind = 3 then 0 else n.N), S, ?_, rfl, ?_⟩
   ·simp only [zBi, wT, wL, if_neg k1, if_neg k2]
   ·split
    ·exact Int.le_refl _
    ·exact hN
   ·simp only [aft, if_neg k1, if_neg k2]
 | d + 1, n, S, ⟨hn, hN⟩ => by
  by_cases hk : n.Kind = 1 \/ n.Kind = 2
  ·exact yH3 s l hl (d + 1) n S hk
  ·have k1 : ¬ n.Kind = 1 := fun h => hk (.inl h)
   have k2 : ¬ n.Kind = 2 := fun h => hk (.inr h);refine ⟨179, _, 273, _, ?_, zXz, K273 _ s l d (fun m => MOk d m /\ NN d m) (fun m X h => yDo s l hl d m X h) rfl, n.L, (if n.Kind = 3 then (n.L.length : Int) else n.N), S, ⟨fun m hm => ⟨hn.2.2 m hm, hN.2 m hm⟩, hn.1, ?_⟩, rfl, ?_⟩
   ·simp only [zBi, wT, wL, if_neg k1, if_neg k2]
   ·split
    ·omega
    ·exact hN.1
   ·simp only [aft, if_neg k1, if_neg k2]
end Go.Sx
