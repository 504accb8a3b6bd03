/- Part of the proof that the laws of the judge return true for every input: J95, J41, J96, J97, A0, A2, A3. -/
import Derived.Test.YtmbocmonhcplhaaGreatJ13
import Derived.Test.YtmbocmonhcplhaaGreatJ31
import Derived.Test.YtmbocmonhcplhaaGreatS4
import Derived.Test.YtmbocmonhcplhaaGreatJ39
import Derived.Test.YtmbocmonhcplhaaGreatJ43
import Derived.Test.YtmbocmonhcplhaaGreatS3
import Derived.Test.YtmbocmonhcplhaaGreatJ91
import Derived.Test.YtmbocmonhcplhaaGreatJ94
import Derived.Test.YtmbocmonhcplhaaGreatJ70
import Derived.Test.YtmbocmonhcplhaaGreatJ8a
import Derived.Test.YtmbocmonhcplhaaGreatJ25
set_option linter.all false
namespace Go.Sx
open Go.Proofs Go.RowKit
attribute [local irreducible] Run zAi zAy OpT zAc SLe OLe
set_option maxHeartbeats 2000000
set_option maxRecDepth 8000
set_option maxHeartbeats 40000000
theorem accI (l : List Int) : OLe (.acc 3 1 (0 + l.length) (zA3 0 (fun _ => .any) fun i => eInt (l.getD i default))) (.acc 3 1 l.length fun i => eInt (l.getD i default)) := OLe.accS (Nat.zero_add _) fun i _ => by
 simp only [zA3, Nat.not_lt_zero, if_false, Nat.sub_zero]
theorem K23m : FnM Tryz.prog 23 (fun ds os d os' => ∃ a : Ach, ds = [zBp a] ∧ os = [] ∧ d = .agg [.int .i64 a.Course.School, .str a.Course.Code, .int .i64 a.Credits, .int .i64 a.Grade, .int .i64 a.Day, .acc 2, .int .i64 a.Bundle, .acc 3] ∧ os' = [(2, .acc 3 1 a.Sources.length fun i => eInt (a.Sources.getD i default)), (3, .acc 3 1 a.Path.length fun i => eInt (a.Path.getD i default))]) := by
 refine zBq Tryz.call23 Tryz.func23 rfl Tryz.ntmps23 ?_
 rintro ds os d os' ⟨a, rfl, rfl, rfl, rfl⟩
 refine ⟨by simp, fun F w0 => ?_⟩
 refine yE 0 5 rfl rfl fun h1 => ?_
 refine yE 0 7 rfl rfl fun h2 => ?_
 repeat' (first | apply zC | apply zA | apply zB | refine zF qS qR ?_ ?_ | exact zz0 | exact rfl | exact qP | fail)
 refine zR (o' := .acc 3 1 a.Sources.length fun i => eInt (a.Sources.getD i default)) 2 qR (accI _) ?_
 refine zR (o' := .acc 3 1 a.Path.length fun i => eInt (a.Path.getD i default)) 3 qR (accI _) ?_
 refine yC qR qS ?_ ?_
 ·exact SLe.refl _
 ·(show zC2 _ _; simp only [go_sem]; repeat' (first | exact SLe.any1 | exact trivial | exact zz0 | exact SLe.refl _ | exact OLe.refl _ | exact ⟨_, rfl, OLe.refl _⟩ | refine ⟨_, rfl, ?_⟩ | refine OLe.var ?_ | (show zAh _ _; refine ⟨?_, ?_⟩) | (show zAh [] []; exact zz0) | (refine SLe.int ?_; rw [w64]; omega) | refine SLe.int ?_ | refine SLe.bool ?_ | apply And.intro))
def yEz : List ByteArray := [⟨#[65, 49]⟩, ⟨#[66, 49]⟩, ⟨#[]⟩, ⟨#[65]⟩]
def yEg (x : Ach) (a : Int) (k : Nat) : Ach :=
 if a = 0 then { x with Course := ⟨(k : Int).tmod 9, x.Course.Code⟩ }
 else if a = 1 then { x with Course := ⟨x.Course.School, yEz.getD (k % 4) ByteArray.empty⟩ }
 else if a = 2 then { x with Credits := k }
 else if a = 3 then { x with Grade := IntKind.i64.wrap (IntKind.i64.wrap (5 * (k : Int)) - 50) }
 else if a = 4 then { x with Day := IntKind.i64.wrap (20 * (k : Int)) }
 else if a = 5 then { x with Sources := x.Sources ++ [IntKind.i64.wrap (1000000 + (k : Int))] }
 else if a = 6 then { x with Bundle := IntKind.i64.wrap ((k : Int).tmod 5 - 1) }
 else { x with Path := x.Path ++ [(k : Int).tmod 3] }
theorem SLe.snocI (l : List Int) (x : Int) {f : Nat → SD} (hf : f 0 = .int .i64 x) : SLe (.list 1 (l.length + 1) (zA3 l.length (fun i => .int .i64 (l.getD i default)) f)) (ints (l ++ [x])) := SLe.list (by simp) fun i hi => by
 show zA3 _ _ _ i = .int .i64 ((l ++ [x]).getD i default)
 simp only [zA3]
 by_cases h : i < l.length
 ·rw [if_pos h]
  congr 1
  simp [zz2, List.getElem?_append_left h]
 ·have : i = l.length := by omega
  subst this;rw [if_neg h, Nat.sub_self, hf]; simp
theorem K38 : FnOK Tryz.prog 38 (fun ds v => ∃ (a : Ach) (q : Int × Int), (a.Sources.length ≤ 10 ∧ a.Path.length ≤ 10) ∧ ds = [zBp a, .agg [.int .i64 q.1, .int .i64 q.2]] ∧ v = zBp (yEg a (zIk q.1 8) (zIk q.2 40).toNat)) := by
 refine zAa Tryz.call38 Tryz.func38 rfl Tryz.ntmps38 ?_
 rintro ds d ⟨a, q, ⟨h1, h2⟩, rfl, rfl⟩
 refine ⟨by simp, fun w0 => ?_⟩
 repeat' (first | apply zC | apply zD | apply zA | apply zB | refine zF qS qR ?_ ?_ | refine zW [] K23m qR qD qZ qF ?_ ⟨a, rfl, rfl, rfl, rfl⟩ qS ?_ | refine zM K24 qD ?_ ⟨_, _, (by omega), rfl, rfl⟩ qS ?_ | exact zz0 | exact rfl | exact qP | fail)
 have hk := zCf q.2 40 (by omega) (by omega)
 have ha := zCf q.1 8 (by omega) (by omega)
 generalize hK : zIk q.2 40 = kk at hk ⊢
 obtain ⟨k, rfl⟩ : ∃ k : Nat, kk = (k : Int) := ⟨kk.toNat, by omega⟩
 rw [Int.toNat_natCast]
 rcases (show zIk q.1 8 = 0 ∨ zIk q.1 8 = 1 ∨ zIk q.1 8 = 2 ∨ zIk q.1 8 = 3 ∨ zIk q.1 8 = 4 ∨ zIk q.1 8 = 5 ∨ zIk q.1 8 = 6 ∨ zIk q.1 8 = 7 by omega) with h | h | h | h | h | h | h | h
 all_goals
  rw [h];have e4 : (k : Int).tmod 4 = ((k % 4 : Nat) : Int) := rfl;have k4 : k % 4 < 4 := Nat.mod_lt _ (by omega)
  repeat' (first | apply zC | apply zL | apply zA | apply zB | refine zF (by simp only [go_sem, e4, Int.toNat_natCast]; rfl) qR ?_ ?_ | (refine zE (by simp only [go_sem, e4, Int.toNat_natCast]; rfl) ?_ ?_ <;> intro hb <;> have hc := hb <;> (try simp only [bF] at hc) <;> (try (exfalso; simp at hc; done))) | exact zz0 | exact rfl | exact qP | fail)
  refine zO 5 qS ?_;refine zO 6 qS ?_
  repeat' (first | refine yA qR qS ?_ | exact zAc.pure rfl | fail)
  all_goals (refine zAc.le qZ ?_)
  all_goals first | exact SLe.refl _ | exact SLe.agg ⟨SLe.refl _, SLe.refl _, SLe.refl _, SLe.refl _, SLe.refl _, SLe.snocI _ _ rfl, SLe.refl _, SLe.refl _, trivial⟩ | exact SLe.agg ⟨SLe.refl _, SLe.refl _, SLe.refl _, SLe.refl _, SLe.refl _, SLe.refl _, SLe.refl _, SLe.snocI _ _ rfl, trivial⟩
end Go.Sx
namespace Go.Sx
open Go.Proofs Go.RowKit
attribute [local irreducible] Run zAi zAy OpT zAc SLe OLe
set_option maxHeartbeats 2000000
set_option maxRecDepth 8000
set_option maxHeartbeats 8000000
@[go_sem] def eB (M : Nat) (S : Nat → Bool) : SD := .list 1 M fun i => .bool (S i)
@[go_sem] def aB (M : Nat) (S : Nat → Bool) : OB := .acc 4 1 M fun i => .bool (S i)
end Go.Sx
namespace Go.Sx
open Go.Proofs Go.RowKit
attribute [local irreducible] Run zAi zAy OpT zAc SLe OLe
set_option maxHeartbeats 2000000
set_option maxRecDepth 8000
set_option maxHeartbeats 40000000
theorem K35 (d : Nat) : FnOK Tryz.prog 35 (fun ds v => ∃ p : Programme, WOk d p.Need ∧ ds = [zEs p] ∧ v = zEs p) := by
 have K := K89 d
 refine zAa Tryz.call35 Tryz.func35 rfl Tryz.ntmps35 ?_
 rintro ds d ⟨p, hp, rfl, rfl⟩
 refine ⟨by simp, fun w0 => ?_⟩
 refine yE 0 13 rfl rfl fun h1 => ?_
 repeat' (first | apply zC | apply zA | apply zB | refine zF qS qR ?_ ?_ | refine zM K qD ?_ ⟨p.Need, hp, rfl, rfl⟩ qS ?_ | exact zz0 | exact rfl | exact qP | fail)
 refine zO 2 qS ?_
 repeat' (first | refine yA qR qS ?_ | fail)
 all_goals (refine zAc.le qZ ?_)
 refine SLe.agg ⟨SLe.refl _, SLe.refl _, SLe.refl _, SLe.refl _, SLe.refl _, SLe.refl _, SLe.refl _, SLe.refl _, SLe.refl _, SLe.refl _, SLe.refl _, SLe.refl _, SLe.refl _, SLe.list (Nat.zero_add _) fun i _ => ?_, trivial⟩
 simp only [zA3, Nat.not_lt_zero, if_false, Nat.sub_zero]
 rfl
end Go.Sx
namespace Go.Sx
theorem OLe.acc0 {T es n : Nat} {f g : Nat → SD} : OLe (.acc T es (0 + n) (zA3 0 f g)) (.acc T es n g) := OLe.accS (Nat.zero_add _) fun i _ => by
 simp only [zA3, Nat.not_lt_zero, if_false, Nat.sub_zero]
theorem OLe.setE {α : Type} [Inhabited α] (enc : α → SD) (l : List α) (i : Nat) (o : α) {T es : Nat} {d : SD} (hd : SLe d (enc o)) : OLe (.acc T es l.length (setF i d fun j => enc (l.getD j default))) (.acc T es (l.set i o).length fun j => enc ((l.set i o).getD j default)) := by
 refine ⟨rfl, rfl, by simp, fun j hj hp u hu e => ?_⟩
 have hu' := hu e
 simp only [setF] at hu'
 by_cases hji : j = i
 ·subst hji
  rw [if_pos rfl] at hu';have : (l.set j o).getD j default = o := by simp [zz2, hj]
  show rep hp (enc ((l.set j o).getD j default)) e u;rw [this];exact hd _ _ _ hu'
 ·rw [if_neg hji] at hu'
  have h' : ¬ i = j := fun hc => hji hc.symm;have : (l.set i o).getD j default = l.getD j default := by simp [zz2, List.getElem?_set, h']
  show rep hp (enc ((l.set i o).getD j default)) e u;rw [this];exact hu'
open Go.Proofs Go.RowKit
attribute [local irreducible] Run zAi zAy OpT zAc SLe OLe
set_option maxHeartbeats 2000000
set_option maxRecDepth 8000
set_option maxHeartbeats 40000000
structure DArg where (Programme Has : List Int) (N O : Q3) (Day : Int)
 deriving Inhabited
@[go_sem] def zY0 (a : DArg) : SD := .agg [lngs a.Programme, lngs a.Has, .int .i64 a.N.a, .int .i64 a.N.b, .int .i64 a.N.c, .int .i64 a.O.a, .int .i64 a.O.b, .int .i64 a.O.c, .int .u16 a.Day]
def zOb (l : List Ach) (q : Q3) : List Ach := l.set (zIk q.c (l.length : Int)).toNat (yEg (l.getD (zIk q.c (l.length : Int)).toNat default) (zIk q.a 8) (zIk q.b 40).toNat)
def yGi (p : Programme) (q : Q3) : Programme := { p with Need := yEf 3 p.Need q }
theorem K12 (G34 G39 : List Int → Programme) (G37 : List Int → List Ach) (g34 : ∀ x, True → PGk (G34 x)) (g37 : ∀ x : List Int, True → (G37 x).length ≤ 7 ∧ ∀ a ∈ G37 x, AGk a)
  (K34 : FnOK Tryz.prog 34 (fun ds d => ∃ x, True ∧ ds = [lngs x] ∧ d = zEs (G34 x))) (K39 : FnOK Tryz.prog 39 (fun ds d => ∃ x, True ∧ ds = [lngs x] ∧ d = zEs (G39 x))) (K37 : FnOK Tryz.prog 37 (fun ds d => ∃ x, True ∧ ds = [lngs x] ∧ d = zAo 8 zBp (G37 x))) :
  FnOK Tryz.prog 12 (fun ds d => ∃ a : DArg, ds = [zY0 a] ∧ d = .tup [.agg (zEy (G34 a.Programme) ++ zEy (G39 a.Programme) ++ zEy (yGi (G34 a.Programme) a.N)), .agg [zAo 8 zBp (G37 a.Has), zAo 8 zBp (zOb (G37 a.Has) a.O)], .int .i64 ((IntKind.i64.wrap a.Day).tmod 800)]) := by
 have K35 := K35 3
 have K36 := K36 3 (by omega)
 refine zAa Tryz.call12 Tryz.func12 rfl Tryz.ntmps12 ?_
 rintro ds d ⟨a, rfl, rfl⟩
 refine ⟨by simp, fun w0 => ?_⟩
 have gP := g34 a.Programme trivial
 have gH := g37 a.Has trivial
 generalize hP : G34 a.Programme = P at gP ⊢
 generalize hA : G37 a.Has = l at gH ⊢
 repeat' (first | apply zC | apply zA | apply zB | refine zF (by simp only [go_sem, hP, hA]; rfl) qR ?_ ?_ | refine zM K34 (by simp only [go_sem, hP, hA]; first | done | rfl) ?_ ⟨_, trivial, rfl, rfl⟩ (by simp only [go_sem, hP, hA]; rfl) ?_ | refine zM K35 (by simp only [go_sem, hP, hA]; first | done | rfl) ?_ ⟨_, gP.need.wok, rfl, rfl⟩ (by simp only [go_sem, hP, hA]; rfl) ?_ | refine zM K36 (by simp only [go_sem, hP, hA]; first | done | rfl) ?_ ⟨P.Need, a.N, gP.need, rfl, rfl⟩ (by simp only [go_sem, hP, hA]; rfl) ?_ | refine zM K37 (by simp only [go_sem, hP, hA]; first | done | rfl) ?_ ⟨_, trivial, rfl, rfl⟩ (by simp only [go_sem, hP, hA]; rfl) ?_ | exact zz0 | exact rfl | exact qP | fail)
 refine zR (o' := .acc 65 8 l.length fun i => zBp (l.getD i default)) 5 qR OLe.acc0 ?_
 (refine zE qS ?_ ?_ <;> intro hb <;> have hc := hb <;> (try simp only [bF] at hc) <;> (try (exfalso; simp at hc; done)))
 ·have hl : 0 < l.length := by omega
  have hb := zCf a.O.c (l.length : Int) (by omega) (by omega);obtain ⟨k, hk⟩ : ∃ k : Nat, zIk a.O.c (l.length : Int) = (k : Int) := ⟨(zIk a.O.c (l.length : Int)).toNat, by omega⟩;have hkl : k < l.length := by omega
  have hg := gH.2 _ (zAk hkl);have hx : zOb l a.O = l.set k (yEg (l.getD k default) (zIk a.O.a 8) (zIk a.O.b 40).toNat) := by unfold zOb; rw [hk, Int.toNat_natCast]
  rw [hx]
  repeat' (first | apply zC | apply zA | apply zP | apply zB | refine zF (by simp only [go_sem, hk, Int.toNat_natCast]; rfl) qR ?_ ?_ | refine zBj (by simp only [go_sem, hk, Int.toNat_natCast]; rfl) qR ?_ (by simp only [go_sem, hk, Int.toNat_natCast, zAw, zG5, zD7, zH2, zBf, keysA, zCz]; rfl) ?_ | refine zQ qK qK ?_ | refine zI6 (by simp only [go_sem, hk, Int.toNat_natCast]; rfl) (by simp only [go_sem, hk, Int.toNat_natCast]; rfl) ?_ | refine zM K24 (by simp only [go_sem, hk, Int.toNat_natCast]; first | done | rfl) ?_ ⟨_, _, (by omega), rfl, rfl⟩ (by simp only [go_sem, hk, Int.toNat_natCast]; rfl) ?_ | refine zX K38 (by simp only [go_sem, hk, Int.toNat_natCast]; first | done | rfl) ?_ ⟨l.getD k default, (a.O.a, a.O.b), ⟨hg.src, hg.path⟩, rfl, rfl⟩ (by simp only [go_sem, hk, Int.toNat_natCast]; rfl) ?_ | refine zX K39 (by simp only [go_sem, hk, Int.toNat_natCast]; first | done | rfl) ?_ ⟨_, trivial, rfl, rfl⟩ (by simp only [go_sem, hk, Int.toNat_natCast]; rfl) ?_ | exact zz0 | exact rfl | exact qP | fail)
  refine zR (o' := .acc 65 8 (l.set k (yEg (l.getD k default) (zIk a.O.a 8) (zIk a.O.b 40).toNat)).length fun i => zBp ((l.set k (yEg (l.getD k default) (zIk a.O.a 8) (zIk a.O.b 40).toNat)).getD i default)) 5 qR (OLe.setE zBp l k _ (SLe.refl _)) ?_;refine zO 5 qS ?_
  repeat' (first | refine yA qR qS ?_ | exact zAc.pure rfl | fail)
  all_goals (refine zAc.le qZ ?_)
  all_goals exact SLe.refl _
 ·have hl : l = [] := by
   cases l with
   | nil => rfl
   | cons x r => simp at hb
  subst hl
  repeat' (first | apply zC | apply zG | apply zP | refine zU qS qR ?_ ?_ | refine zQ qK qK ?_ | refine zX K39 qD ?_ ⟨_, trivial, rfl, rfl⟩ qS ?_ | exact zz0 | exact qP | fail)
  refine zO 5 qS ?_
  repeat' (first | refine yA qR qS ?_ | exact zAc.pure rfl | fail)
  all_goals (refine zAc.le qZ ?_)
  all_goals exact SLe.tup ⟨SLe.refl _, SLe.agg ⟨SLe.refl _, SLe.list rfl fun i hi => absurd hi (Nat.not_lt_zero i), trivial⟩, SLe.refl _, trivial⟩
end Go.Sx
namespace Go.Sx
open Go.Proofs Go.RowKit
@[go_sem] theorem fTa58 : szT Tryz.prog 58 = 2 ∧ zBw Tryz.prog 58 = some true ∧ kdT Tryz.prog 58 = 5 ∧ byT Tryz.prog 58 = 48 ∧ zBi Tryz.prog 58 = true ∧ bsD.bdZ Tryz.prog 58 = true ∧ zcT Tryz.prog 58 = some (.agg [.nils, .nils]) ∧ bdT Tryz.prog 58 = some [.nils, .nils] ∧ plT Tryz.prog 58 0 = some (0, 1) ∧ ftT Tryz.prog 58 0 = some 22 ∧ plT Tryz.prog 58 1 = some (1, 1) ∧ ftT Tryz.prog 58 1 = some 22 := by and_intros <;> kernel_rfl
@[go_sem] theorem fTa80 : szT Tryz.prog 80 = 1 ∧ zBw Tryz.prog 80 = some false ∧ kdT Tryz.prog 80 = 9 ∧ byT Tryz.prog 80 = 8 ∧ zBi Tryz.prog 80 = true ∧ bsD.bdZ Tryz.prog 80 = true ∧ zcT Tryz.prog 80 = some (.nilfn) := by and_intros <;> kernel_rfl
@[go_sem] theorem fTa181 : szT Tryz.prog 181 = 1 ∧ zBw Tryz.prog 181 = some false ∧ kdT Tryz.prog 181 = 9 ∧ byT Tryz.prog 181 = 8 ∧ zBi Tryz.prog 181 = true ∧ bsD.bdZ Tryz.prog 181 = true ∧ zcT Tryz.prog 181 = some (.nilfn) := by and_intros <;> kernel_rfl
@[go_sem] theorem fTa186 : szT Tryz.prog 186 = 1 ∧ zBw Tryz.prog 186 = some false ∧ kdT Tryz.prog 186 = 1 ∧ byT Tryz.prog 186 = 24 ∧ zBi Tryz.prog 186 = true ∧ bsD.bdZ Tryz.prog 186 = true ∧ elT Tryz.prog 186 = some 4 ∧ zcT Tryz.prog 186 = some (.nils) := by and_intros <;> kernel_rfl
@[go_sem] theorem fTa191 : szT Tryz.prog 191 = 1 ∧ zBw Tryz.prog 191 = some false ∧ kdT Tryz.prog 191 = 6 ∧ byT Tryz.prog 191 = 8 ∧ zBi Tryz.prog 191 = true ∧ bsD.bdZ Tryz.prog 191 = true ∧ ikT Tryz.prog 191 = some .u64 ∧ zcT Tryz.prog 191 = some (.int .u64 0) := by and_intros <;> kernel_rfl
@[go_sem] theorem fTa226 : szT Tryz.prog 226 = 1 ∧ zBw Tryz.prog 226 = some false ∧ kdT Tryz.prog 226 = 9 ∧ byT Tryz.prog 226 = 8 ∧ zBi Tryz.prog 226 = true ∧ bsD.bdZ Tryz.prog 226 = true ∧ zcT Tryz.prog 226 = some (.nilfn) := by and_intros <;> kernel_rfl
@[go_sem] theorem fTa230 : szT Tryz.prog 230 = 3 ∧ zBw Tryz.prog 230 = some true ∧ kdT Tryz.prog 230 = 5 ∧ byT Tryz.prog 230 = 24 ∧ zBi Tryz.prog 230 = true ∧ bsD.bdZ Tryz.prog 230 = true ∧ zcT Tryz.prog 230 = some (.agg [.int .i64 0, .int .i64 0, .bool false]) ∧ bdT Tryz.prog 230 = some [.int .i64 0, .int .i64 0, .bool false] ∧ plT Tryz.prog 230 0 = some (0, 1) ∧ ftT Tryz.prog 230 0 = some 3 ∧ plT Tryz.prog 230 1 = some (1, 1) ∧ ftT Tryz.prog 230 1 = some 3 ∧ plT Tryz.prog 230 2 = some (2, 1) ∧ ftT Tryz.prog 230 2 = some 4 := by and_intros <;> kernel_rfl
@[go_sem] theorem fTa232 : szT Tryz.prog 232 = 1 ∧ zBw Tryz.prog 232 = some false ∧ kdT Tryz.prog 232 = 1 ∧ byT Tryz.prog 232 = 24 ∧ zBi Tryz.prog 232 = true ∧ bsD.bdZ Tryz.prog 232 = true ∧ elT Tryz.prog 232 = some 3 ∧ zcT Tryz.prog 232 = some (.nils) := by and_intros <;> kernel_rfl
@[go_sem] theorem fTa234 : szT Tryz.prog 234 = 1 ∧ zBw Tryz.prog 234 = some false ∧ kdT Tryz.prog 234 = 9 ∧ byT Tryz.prog 234 = 8 ∧ zBi Tryz.prog 234 = true ∧ bsD.bdZ Tryz.prog 234 = true ∧ zcT Tryz.prog 234 = some (.nilfn) := by and_intros <;> kernel_rfl
@[go_sem] theorem fTa237 : szT Tryz.prog 237 = 1 ∧ zBw Tryz.prog 237 = some false ∧ kdT Tryz.prog 237 = 6 ∧ byT Tryz.prog 237 = 4 ∧ zBi Tryz.prog 237 = true ∧ bsD.bdZ Tryz.prog 237 = true ∧ ikT Tryz.prog 237 = some .u32 ∧ zcT Tryz.prog 237 = some (.int .u32 0) := by and_intros <;> kernel_rfl
@[go_sem] theorem fTa239 : szT Tryz.prog 239 = 1 ∧ zBw Tryz.prog 239 = some false ∧ kdT Tryz.prog 239 = 6 ∧ byT Tryz.prog 239 = 8 ∧ zBi Tryz.prog 239 = true ∧ bsD.bdZ Tryz.prog 239 = true ∧ ikT Tryz.prog 239 = some .u64 ∧ zcT Tryz.prog 239 = some (.int .u64 0) := by and_intros <;> kernel_rfl
@[go_sem] theorem fTa257 : szT Tryz.prog 257 = 1 ∧ zBw Tryz.prog 257 = some false ∧ kdT Tryz.prog 257 = 6 ∧ byT Tryz.prog 257 = 8 ∧ zBi Tryz.prog 257 = true ∧ bsD.bdZ Tryz.prog 257 = true ∧ ikT Tryz.prog 257 = some .i64 ∧ zcT Tryz.prog 257 = some (.int .i64 0) := by and_intros <;> kernel_rfl
@[go_sem] theorem fTa279 : szT Tryz.prog 279 = 1 ∧ zBw Tryz.prog 279 = some false ∧ kdT Tryz.prog 279 = 6 ∧ byT Tryz.prog 279 = 8 ∧ zBi Tryz.prog 279 = true ∧ bsD.bdZ Tryz.prog 279 = true ∧ ikT Tryz.prog 279 = some .u64 ∧ zcT Tryz.prog 279 = some (.int .u64 0) := by and_intros <;> kernel_rfl
@[go_sem] theorem fTa283 : szT Tryz.prog 283 = 1 ∧ zBw Tryz.prog 283 = some false ∧ kdT Tryz.prog 283 = 9 ∧ byT Tryz.prog 283 = 8 ∧ zBi Tryz.prog 283 = true ∧ bsD.bdZ Tryz.prog 283 = true ∧ zcT Tryz.prog 283 = some (.nilp) := by and_intros <;> kernel_rfl
end Go.Sx
namespace Go.Sx
open Go.Proofs Go.RowKit
attribute [local irreducible] Run zAi zAy OpT zAc SLe OLe
set_option maxHeartbeats 2000000
set_option maxRecDepth 8000
set_option maxHeartbeats 8000000
def zCu (m : Nat) : List Int := ((List.range 10).filter fun k : Nat => m.testBit k).map fun k : Nat => (k : Int)
def zPz (m k : Nat) : List Int := ((List.range k).filter fun k : Nat => m.testBit k).map fun k : Nat => (k : Int)
theorem zKj (m k : Nat) : zPz m (k + 1) = if m.testBit k then zPz m k ++ [(k : Int)] else zPz m k := by
 unfold zPz
 rw [List.range_succ, List.filter_append, List.map_append]
 cases h : m.testBit k <;> simp [h]
theorem zMn (m : Nat) : ∀ k, (zPz m k).length ≤ k
 | 0 => Nat.le_refl _
 | k + 1 => by
  have := zMn m k;rw [zKj];split <;> simp <;> omega
theorem zRj {m k : Nat} (h : m >>> k = 0) : ∀ j, zPz m (k + j) = zPz m k
 | 0 => rfl
 | j + 1 => by
  have h2 : m.testBit (k + j) = false := by
   rw [Nat.testBit_eq_decide_div_mod_eq, ← Nat.shiftRight_eq_div_pow, Nat.shiftRight_add, h];simp
  rw [← Nat.add_assoc, zKj, h2, if_neg (by simp), zRj h j]
theorem zYg {m k : Nat} (hk : k ≤ 10) (h : m >>> k = 0) : zPz m k = zCu m := by
 have := zRj h (10 - k)
 rw [show k + (10 - k) = 10 by omega] at this
 exact this.symm
theorem K63 : FnOK Tryz.prog 63 (fun ds d => ∃ m : Nat, m < 1024 ∧ ds = [eInt (m : Nat)] ∧ d = ints (zCu m)) := by
 refine zAa Tryz.call63 Tryz.func63 rfl Tryz.ntmps63 ?_
 rintro ds d ⟨m, hm, rfl, rfl⟩
 refine ⟨by simp, fun w0 => ?_⟩
 repeat' (first | apply zC | apply zD | apply zA | apply zB | refine zF qS qR ?_ ?_ | exact zz0 | exact rfl | fail)
 refine yF 2 3 1 (fun i => eInt (([] : List Int).getD i default)) rfl rfl rfl ?_
 refine zN [0] (fun x : Nat × Unit => [(2, .acc 0), (3, .int .i64 x.1)]) (fun x : Nat × Unit => [(0, .acc 3 1 (zPz m x.1).length (fun i => eInt ((zPz m x.1).getD i default)))]) (fun x : Nat × Unit => x.1 ≤ 10) (fun x : Nat × Unit => 10 - x.1) (0, ()) (fun x => qS) ?_ qL qL ?_
 ·exact Nat.zero_le _
 rintro ⟨k, _⟩ hk
 simp only at hk
 have e1 : zMa .i64 (m : Int) (k : Int) = ((m >>> k : Nat) : Int) := bshr m k (by omega)
 have e2 := zZc m k (by omega) (by omega)
 rw [e1] at e2
 have hl := zMn m k
 repeat' (first | apply zC | apply zA | apply zB | refine zF (by simp only [go_sem, e1]; rfl) qR ?_ ?_ | exact rfl | exact qP | fail)
 (refine zE qS ?_ ?_ <;> intro hb <;> have hc := hb <;> (try simp only [bF] at hc) <;> (try (exfalso; simp at hc; done)))
 ·have hpos : 0 < m >>> k := by omega
  have hk10 : k < 10 := by
   rcases Nat.lt_or_ge k 10 with h | h
   ·exact h
   ·exfalso
    obtain rfl : k = 10 := by omega
    have : m >>> 10 = 0 := by rw [Nat.shiftRight_eq_div_pow]; exact Nat.div_eq_of_lt hm
    omega
  have hs := zKj m k;cases hbit : m.testBit k
  ·rw [hbit, if_neg (by simp)] at hs e2
   repeat' (first | apply zC | apply zG | apply zD | apply zL | apply zA | apply zB | refine zF (by simp only [go_sem, e1, e2]; rfl) qR ?_ ?_ | (refine zE (by simp only [go_sem, e1, e2]; rfl) ?_ ?_ <;> intro hb <;> have hc := hb <;> (try simp only [bF] at hc) <;> (try (exfalso; simp at hc; done))) | exact zz0 | exact rfl | exact qP | fail)
   refine zR (o' := .acc 3 1 (zPz m (k + 1)).length fun i => eInt ((zPz m (k + 1)).getD i default)) 0 qR (by rw [hs]; exact OLe.refl _) ?_
   repeat' (first | refine zS (k+1,()) ?_ ?_ ⟨rfl, qL, qL⟩ | omega)
  ·rw [hbit, if_pos rfl] at hs e2
   repeat' (first | apply zC | apply zG | apply zD | apply zA | apply zB | refine zF (by simp only [go_sem, e1, e2]; rfl) qR ?_ ?_ | exact rfl | exact qP | fail)
   (refine zE qS ?_ ?_ <;> intro hb <;> have hc := hb <;> (try simp only [bF] at hc) <;> (try (exfalso; simp at hc; done)))
   repeat' (first | apply zL | apply zA | apply zB | refine zF (by simp only [go_sem, e1]; rfl) qR ?_ ?_ | exact zz0 | exact rfl | exact qP | fail)
   refine zR (o' := .acc 3 1 (zPz m (k + 1)).length fun i => eInt ((zPz m (k + 1)).getD i default)) 0 qR (by rw [hs]; exact zA4 eInt (zPz m k) _ rfl) ?_
   repeat' (first | refine zS (k+1,()) ?_ ?_ ⟨rfl, qL, qL⟩ | omega)
 ·have h0 : m >>> k = 0 := by
   generalize m >>> k = z at hc ⊢;omega
  rw [← zYg hk h0]
  repeat' (first | refine zO 0 qS ?_ | apply zC | apply zA | apply zB | refine zF qS qR ?_ ?_ | refine zI qR ?_ | refine zK qR ?_ | exact zz0 | exact rfl | exact zAc.pure rfl | fail)
end Go.Sx
namespace Go.Sx
open Go.Proofs Go.RowKit
attribute [local irreducible] Run zAi zAy OpT zAc SLe OLe
set_option maxHeartbeats 2000000
set_option maxRecDepth 8000
set_option maxHeartbeats 8000000
def zAz {α : Type} [Inhabited α] (l : List α) (js : List Int) : List α := js.map fun k => l.getD k.toNat default
theorem zH6 {α : Type} [Inhabited α] (l : List α) (js : List Int) : (zAz l js).length = js.length := by simp [zAz]
theorem zKh {α : Type} [Inhabited α] (l : List α) (js : List Int) (i : Nat) (h : i < js.length) : zAz l (js.take (i + 1)) = zAz l (js.take i) ++ [l.getD (js.getD i default).toNat default] := by
 unfold zAz
 rw [List.take_add_one, List.getElem?_eq_getElem h, List.map_append, zz2 (l := js), List.getElem?_eq_getElem h]
 rfl
theorem K66 : FnOK Tryz.prog 66 (fun ds d => ∃ (l : List Int) (js : List Int), (js.length ≤ 1000 ∧ ∀ k ∈ js, 0 ≤ k ∧ k < (l.length : Int)) ∧ ds = [ints l, ints js] ∧ d = zAo 1 eInt (zAz l js)) := by
 refine zAa Tryz.call66 Tryz.func66 rfl Tryz.ntmps66 ?_
 rintro ds d ⟨l, js, ⟨hl, hk⟩, rfl, rfl⟩
 refine ⟨by simp, fun w0 => ?_⟩
 repeat' (first | apply zC | apply zD | apply zA | apply zB | refine zF qS qR ?_ ?_ | exact zz0 | exact rfl | fail)
 refine yF 4 3 1 (fun i => eInt (([] : List Int).getD i default)) rfl rfl rfl ?_
 refine zN [0, 1, 7, 8] (fun x : Nat × Unit => [(4, .acc 0), (9, .int .i64 x.1)]) (fun x : Nat × Unit => [(0, .acc 3 1 (zAz l (js.take x.1)).length (fun i => eInt ((zAz l (js.take x.1)).getD i default)))]) (fun x : Nat × Unit => x.1 ≤ js.length) (fun x : Nat × Unit => js.length - x.1) (0, ()) (fun x => qS) ?_ qL qL ?_
 ·exact Nat.zero_le _
 rintro ⟨i, _⟩ hi
 simp only at hi
 repeat' (first | apply zC | apply zA | apply zB | refine zF qS qR ?_ ?_ | exact zz0 | exact rfl | fail)
 (refine zE qS ?_ ?_ <;> intro hb <;> have hc := hb <;> (try simp only [bF] at hc) <;> (try (exfalso; simp at hc; done)))
 ·have hi2 : i < js.length := by omega
  have hj := hk _ (zAk hi2);have hs := zKh l js i hi2;have hle : (zAz l (js.take i)).length ≤ 1000 := by rw [zH6, List.length_take]; omega
  obtain ⟨n, hn⟩ : ∃ n : Nat, js.getD i default = (n : Int) := ⟨(js.getD i default).toNat, by omega⟩;rw [hn] at hj hs;rw [Int.toNat_natCast] at hs;have hnl : n < l.length := by omega
  repeat' (first | apply zC | apply zG | apply zD | apply zL | apply zA | apply zB | refine zF (by simp only [go_sem, hn, Int.toNat_natCast]; rfl) qR ?_ ?_ | exact zz0 | exact rfl | exact qP | fail)
  refine zR (o' := .acc 3 1 (zAz l (js.take (i + 1))).length fun q => eInt ((zAz l (js.take (i + 1))).getD q default)) 0 qR (by rw [hs]; exact zA4 eInt (zAz l (js.take i)) (l.getD n default) rfl) ?_
  repeat' (first | refine zS (i+1,()) ?_ ?_ ⟨rfl, qL, qL⟩ | omega)
 ·have hi2 : i = js.length := by omega
  subst hi2;rw [List.take_length]
  repeat' (first | refine zO 0 qS ?_ | apply zC | apply zA | apply zB | refine zF qS qR ?_ ?_ | refine zI qR ?_ | refine zK qR ?_ | exact zz0 | exact rfl | exact zAc.pure rfl | fail)
theorem K60 : FnOK Tryz.prog 60 (fun ds d => ∃ (l : List Ach) (js : List Int), (js.length ≤ 1000 ∧ ∀ k ∈ js, 0 ≤ k ∧ k < (l.length : Int)) ∧ ds = [zAo 8 zBp l, ints js] ∧ d = zAo 8 zBp (zAz l js)) := by
 refine zAa Tryz.call60 Tryz.func60 rfl Tryz.ntmps60 ?_
 rintro ds d ⟨l, js, ⟨hl, hk⟩, rfl, rfl⟩
 refine ⟨by simp, fun w0 => ?_⟩
 repeat' (first | apply zC | apply zD | apply zA | apply zB | refine zF qS qR ?_ ?_ | exact zz0 | exact rfl | fail)
 refine yF 4 65 8 (fun i => zBp (([] : List Ach).getD i default)) rfl rfl rfl ?_
 refine zN [0, 1, 7, 8] (fun x : Nat × Unit => [(4, .acc 0), (9, .int .i64 x.1)]) (fun x : Nat × Unit => [(0, .acc 65 8 (zAz l (js.take x.1)).length (fun i => zBp ((zAz l (js.take x.1)).getD i default)))]) (fun x : Nat × Unit => x.1 ≤ js.length) (fun x : Nat × Unit => js.length - x.1) (0, ()) (fun x => qS) ?_ qL qL ?_
 ·exact Nat.zero_le _
 rintro ⟨i, _⟩ hi
 simp only at hi
 repeat' (first | apply zC | apply zA | apply zB | refine zF qS qR ?_ ?_ | exact zz0 | exact rfl | fail)
 (refine zE qS ?_ ?_ <;> intro hb <;> have hc := hb <;> (try simp only [bF] at hc) <;> (try (exfalso; simp at hc; done)))
 ·have hi2 : i < js.length := by omega
  have hj := hk _ (zAk hi2);have hs := zKh l js i hi2;have hle : (zAz l (js.take i)).length ≤ 1000 := by rw [zH6, List.length_take]; omega
  obtain ⟨n, hn⟩ : ∃ n : Nat, js.getD i default = (n : Int) := ⟨(js.getD i default).toNat, by omega⟩;rw [hn] at hj hs;rw [Int.toNat_natCast] at hs;have hnl : n < l.length := by omega
  repeat' (first | apply zC | apply zG | apply zD | apply zL | apply zA | apply zB | refine zF (by simp only [go_sem, hn, Int.toNat_natCast]; rfl) qR ?_ ?_ | exact zz0 | exact rfl | exact qP | fail)
  refine zR (o' := .acc 65 8 (zAz l (js.take (i + 1))).length fun q => zBp ((zAz l (js.take (i + 1))).getD q default)) 0 qR (by rw [hs]; exact zA4 zBp (zAz l (js.take i)) (l.getD n default) rfl) ?_
  repeat' (first | refine zS (i+1,()) ?_ ?_ ⟨rfl, qL, qL⟩ | omega)
 ·have hi2 : i = js.length := by omega
  subst hi2;rw [List.take_length]
  repeat' (first | refine zO 0 qS ?_ | apply zC | apply zA | apply zB | refine zF qS qR ?_ ?_ | refine zI qR ?_ | refine zK qR ?_ | exact zz0 | exact rfl | exact zAc.pure rfl | fail)
end Go.Sx
