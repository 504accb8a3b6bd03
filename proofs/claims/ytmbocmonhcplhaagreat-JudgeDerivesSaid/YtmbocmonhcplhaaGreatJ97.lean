/- Part of the proof that the laws of the judge return true for every input: J97. -/
import Derived.Test.YtmbocmonhcplhaaGreatJ62
import Derived.Test.YtmbocmonhcplhaaGreatJ96
set_option linter.all false
namespace Go.Sx
theorem OLe.acc0 {T es n : Nat} {f g : Nat → SD} : OLe (.acc T es (0 + n) (joinF 0 f g)) (.acc T es n g) := OLe.accS (Nat.zero_add _) fun i _ => by
 simp only [joinF, Nat.not_lt_zero, if_false, Nat.sub_zero]
theorem OLe.setE {α : Type} [Inhabited α] (enc : α → SD) (l : List α) (i : Nat) (o : α) {T es : Nat} {d : SD} (hd : SLe d (enc o)) : OLe (.acc T es l.length (setF i d fun j => enc (l.getD j default))) (.acc T es (l.set i o).length fun j => enc ((l.set i o).getD j default)) := by
 refine ⟨rfl, rfl, by simp, fun j hj hp u hu e => ?_⟩
 have hu' := hu e
 simp only [setF] at hu'
 by_cases hji : j = i
 ·subst hji
  rw [if_pos rfl] at hu'
  have : (l.set j o).getD j default = o := by simp [List.getD_eq_getElem?_getD, hj]
  show rep hp (enc ((l.set j o).getD j default)) e u
  rw [this]
  exact hd _ _ _ hu'
 ·rw [if_neg hji] at hu'
  have h' : ¬ i = j := fun hc => hji hc.symm
  have : (l.set i o).getD j default = l.getD j default := by simp [List.getD_eq_getElem?_getD, List.getElem?_set, h']
  show rep hp (enc ((l.set i o).getD j default)) e u
  rw [this]
  exact hu'
open Go.Proofs Go.RowKit
attribute [local irreducible] Run RunL RunD OpT SLe0 SLe OLe
set_option maxHeartbeats 2000000
set_option maxRecDepth 8000
set_option maxHeartbeats 40000000
structure DArg where (Programme Has : List Int) (N O : Q3) (Day : Int)
 deriving Inhabited
@[go_sem] def eDArg (a : DArg) : SD := .agg [lngs a.Programme, lngs a.Has, .int .i64 a.N.a, .int .i64 a.N.b, .int .i64 a.N.c, .int .i64 a.O.a, .int .i64 a.O.b, .int .i64 a.O.c, .int .u16 a.Day]
def otherF (l : List Ach) (q : Q3) : List Ach := l.set (modR q.c (l.length : Int)).toNat (oddA (l.getD (modR q.c (l.length : Int)).toNat default) (modR q.a 8) (modR q.b 40).toNat)
def oddP (p : Programme) (q : Q3) : Programme := { p with Need := oddF 3 p.Need q }
theorem K12 (G34 G39 : List Int → Programme) (G37 : List Int → List Ach) (g34 : ∀ x, True → PGk (G34 x)) (g37 : ∀ x : List Int, True → (G37 x).length ≤ 7 ∧ ∀ a ∈ G37 x, AGk a)
  (K34 : FnOK Tryz.prog 34 (fun ds d => ∃ x, True ∧ ds = [lngs x] ∧ d = eProg (G34 x))) (K39 : FnOK Tryz.prog 39 (fun ds d => ∃ x, True ∧ ds = [lngs x] ∧ d = eProg (G39 x))) (K37 : FnOK Tryz.prog 37 (fun ds d => ∃ x, True ∧ ds = [lngs x] ∧ d = eList 8 eAch (G37 x))) :
  FnOK Tryz.prog 12 (fun ds d => ∃ a : DArg, ds = [eDArg a] ∧ d = .tup [.agg (pCells (G34 a.Programme) ++ pCells (G39 a.Programme) ++ pCells (oddP (G34 a.Programme) a.N)), .agg [eList 8 eAch (G37 a.Has), eList 8 eAch (otherF (G37 a.Has) a.O)], .int .i64 ((IntKind.i64.wrap a.Day).tmod 800)]) := by
 have K35 := K35 3
 have K36 := K36 3 (by omega)
 refine fn_intro Tryz.call12 Tryz.func12 rfl Tryz.ntmps12 ?_
 rintro ds d ⟨a, rfl, rfl⟩
 refine ⟨by simp, fun w0 => ?_⟩
 have gP := g34 a.Programme trivial
 have gH := g37 a.Has trivial
 generalize hP : G34 a.Programme = P at gP ⊢
 generalize hA : G37 a.Has = l at gH ⊢
 repeat' (first | apply zC | apply zA | apply zB | refine zF (by simp only [go_sem, hP, hA]; rfl) qR ?_ ?_ | refine zM K34 (by simp only [go_sem, hP, hA]; first | done | rfl) ?_ ⟨_, trivial, rfl, rfl⟩ (by simp only [go_sem, hP, hA]; rfl) ?_ | refine zM K35 (by simp only [go_sem, hP, hA]; first | done | rfl) ?_ ⟨_, gP.need.wok, rfl, rfl⟩ (by simp only [go_sem, hP, hA]; rfl) ?_ | refine zM K36 (by simp only [go_sem, hP, hA]; first | done | rfl) ?_ ⟨P.Need, a.N, gP.need, rfl, rfl⟩ (by simp only [go_sem, hP, hA]; rfl) ?_ | refine zM K37 (by simp only [go_sem, hP, hA]; first | done | rfl) ?_ ⟨_, trivial, rfl, rfl⟩ (by simp only [go_sem, hP, hA]; rfl) ?_ | exact True.intro | exact rfl | exact qP | fail)
 refine zR (o' := .acc 65 8 l.length fun i => eAch (l.getD i default)) 5 qR OLe.acc0 ?_
 (refine zE qS ?_ ?_ <;> intro hb <;> have hc := hb <;> (try simp only [bF] at hc) <;> (try (exfalso; simp at hc; done)))
 ·have hl : 0 < l.length := by omega
  have hb := modR_bd a.O.c (l.length : Int) (by omega) (by omega)
  obtain ⟨k, hk⟩ : ∃ k : Nat, modR a.O.c (l.length : Int) = (k : Int) := ⟨(modR a.O.c (l.length : Int)).toNat, by omega⟩
  have hkl : k < l.length := by omega
  have hg := gH.2 _ (getD_mem' hkl)
  have hx : otherF l a.O = l.set k (oddA (l.getD k default) (modR a.O.a 8) (modR a.O.b 40).toNat) := by unfold otherF; rw [hk, Int.toNat_natCast]
  rw [hx]
  repeat' (first | apply zC | apply zA | apply zP | apply zB | refine zF (by simp only [go_sem, hk, Int.toNat_natCast]; rfl) qR ?_ ?_ | refine runDqRP (by simp only [go_sem, hk, Int.toNat_natCast]; rfl) qR ?_ (by simp only [go_sem, hk, Int.toNat_natCast, recsOf, recA, recU, recG, readS, keysA, keysU]; rfl) ?_ | refine zQ qK qK ?_ | refine runDas (by simp only [go_sem, hk, Int.toNat_natCast]; rfl) (by simp only [go_sem, hk, Int.toNat_natCast]; rfl) ?_ | refine zM K24 (by simp only [go_sem, hk, Int.toNat_natCast]; first | done | rfl) ?_ ⟨_, _, (by omega), rfl, rfl⟩ (by simp only [go_sem, hk, Int.toNat_natCast]; rfl) ?_ | refine zX K38 (by simp only [go_sem, hk, Int.toNat_natCast]; first | done | rfl) ?_ ⟨l.getD k default, (a.O.a, a.O.b), ⟨hg.src, hg.path⟩, rfl, rfl⟩ (by simp only [go_sem, hk, Int.toNat_natCast]; rfl) ?_ | refine zX K39 (by simp only [go_sem, hk, Int.toNat_natCast]; first | done | rfl) ?_ ⟨_, trivial, rfl, rfl⟩ (by simp only [go_sem, hk, Int.toNat_natCast]; rfl) ?_ | exact True.intro | exact rfl | exact qP | fail)
  refine zR (o' := .acc 65 8 (l.set k (oddA (l.getD k default) (modR a.O.a 8) (modR a.O.b 40).toNat)).length fun i => eAch ((l.set k (oddA (l.getD k default) (modR a.O.a 8) (modR a.O.b 40).toNat)).getD i default)) 5 qR (OLe.setE eAch l k _ (SLe.refl _)) ?_
  refine zO 5 qS ?_
  repeat' (first | refine yA qR qS ?_ | exact SLe0.pure rfl | fail)
  all_goals (refine SLe0.le qZ ?_)
  all_goals exact SLe.refl _
 ·have hl : l = [] := by
   cases l with
   | nil => rfl
   | cons x r => simp at hb
  subst hl
  repeat' (first | apply zC | apply zG | apply zP | refine zU qS qR ?_ ?_ | refine zQ qK qK ?_ | refine zX K39 qD ?_ ⟨_, trivial, rfl, rfl⟩ qS ?_ | exact True.intro | exact qP | fail)
  refine zO 5 qS ?_
  repeat' (first | refine yA qR qS ?_ | exact SLe0.pure rfl | fail)
  all_goals (refine SLe0.le qZ ?_)
  all_goals exact SLe.tup ⟨SLe.refl _, SLe.agg ⟨SLe.refl _, SLe.list rfl fun i hi => absurd hi (Nat.not_lt_zero i), trivial⟩, SLe.refl _, trivial⟩
end Go.Sx
