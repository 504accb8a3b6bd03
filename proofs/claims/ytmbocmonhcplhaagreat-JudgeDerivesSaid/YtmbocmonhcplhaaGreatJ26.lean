/- Part of the proof that the laws of the judge return true for every input: J23, J24, J25, J26. -/
import Derived.Test.YtmbocmonhcplhaaGreatJ22
import Derived.Test.YtmbocmonhcplhaaGreatS4
import Derived.Test.YtmbocmonhcplhaaGreatS3
set_option linter.all false
namespace Go.Sx
open Go.Proofs Go.RowKit
attribute [local irreducible] Run RunL RunD OpT SLe0 SLe OLe
set_option maxHeartbeats 2000000
set_option maxRecDepth 8000
attribute [go_sem] menM recO rawOB aftD rfS stE entS del Option.isNone
def NOk : Nat → Need → Prop
 | 0, n => SetOk n ∧ n.L = []
 | d + 1, n => SetOk n ∧ ∀ x ∈ n.L, NOk d x
theorem NOk.set {d : Nat} {n : Need} (h : NOk d n) : SetOk n := by cases d <;> exact h.1
def MOk : Nat → Need → Prop
 | 0, n => n.L = []
 | d + 1, n => n.L.length ≤ 8 ∧ (leafR n = true → n.L = []) ∧ ∀ x ∈ n.L, MOk d x
def cntB : Nat → Nat
 | 0 => 1
 | d + 1 => 1 + 8 * cntB d
theorem cntB_pos (d : Nat) : 1 ≤ cntB d := by cases d <;> simp [cntB]
theorem getD_mem' {α : Type} [Inhabited α] {l : List α} {i : Nat} (hi : i < l.length) : l.getD i default ∈ l := by
 rw [List.getD_eq_getElem?_getD, List.getElem?_eq_getElem hi]
 exact List.getElem_mem hi
def nodesF : Nat → Nat → Need → List (Need × Nat)
 | 0, k, n => [(n, k)]
 | d + 1, k, n => (n, k) :: n.L.flatMap (nodesF d (k + 1))
theorem flat_take {α β : Type} [Inhabited α] (f : α → List β) (l : List α) (i : Nat) (hi : i < l.length) : (l.take (i + 1)).flatMap f = (l.take i).flatMap f ++ f (l.getD i default) := by
 rw [List.take_add_one, List.getElem?_eq_getElem hi, List.flatMap_append, List.getD_eq_getElem?_getD, List.getElem?_eq_getElem hi]
 simp
theorem flat_le {α β : Type} [Inhabited α] (f : α → List β) (l : List α) (i : Nat) : ((l.take i).flatMap f).length ≤ (l.flatMap f).length := by
 have h : l.flatMap f = (l.take i).flatMap f ++ (l.drop i).flatMap f := by rw [← List.flatMap_append, List.take_append_drop]
 rw [h, List.length_append]; omega
theorem flat_room {α β : Type} [Inhabited α] (f : α → List β) (l : List α) (i : Nat) (hi : i < l.length) : ((l.take i).flatMap f).length + (f (l.getD i default)).length ≤ (l.flatMap f).length := by
 have h := flat_le f l (i + 1)
 rw [flat_take f l i hi, List.length_append] at h
 exact h
theorem nodesF_pos (d k : Nat) (n : Need) : 1 ≤ (nodesF d k n).length := by cases d <;> simp [nodesF]
theorem flat_ge (d k : Nat) : ∀ l : List Need, l.length ≤ (l.flatMap (nodesF d k)).length
 | [] => Nat.le_refl _
 | x :: r => by
  have h1 := flat_ge d k r
  have h2 := nodesF_pos d k x
  simp only [List.flatMap_cons, List.length_append, List.length_cons]
  omega
theorem nodesF_succ (d k : Nat) (n : Need) : (nodesF (d + 1) k n).length = 1 + (n.L.flatMap (nodesF d (k + 1))).length := by simp only [nodesF, List.length_cons]; omega
def deepQ (qs : List (Need × Nat)) : Nat := qs.foldl (fun m x => max m x.2) 0
theorem deepQ_snoc (qs : List (Need × Nat)) (x : Need × Nat) : deepQ (qs ++ [x]) = max (deepQ qs) x.2 := by simp [deepQ]
@[go_sem] def eVl : OB := .var [.acc 1002]
@[go_sem] def eDp (qs : List (Need × Nat)) : OB := .var [.int .i64 (deepQ qs : Nat)]
@[go_sem] def eAq (qs : List (Need × Nat)) : OB := .acc 30 5 qs.length (fun i => eNeedU (qs.getD i default).1)
abbrev YR (r : LR) (bl : List Nat) (h0 : Hp) : Prop := YldMA Tryz.prog r.l h0 bl (fun ds os d os' => ∃ (qs : List (Need × Nat)) (x : Need × Nat), (x.2 ≤ 100 ∧ qs.length < 10000) ∧ ds = [eInt (x.2 : Nat), eNeedU x.1] ∧ os = [eVl, eDp qs, eAq qs, recO r .ready none] ∧ d = .bool true ∧ os' = enumO 1000 [eVl, eDp (qs ++ [x]), eAq (qs ++ [x]), recO r .ready none])
set_option maxHeartbeats 20000000
theorem K222 (r : LR) (h0 : Hp) (bl : List Nat) (hbl : bl.length = 4) (Y : YR r bl h0) (d : Nat) : FnMA Tryz.prog 222 h0 bl (fun ds os v os' => ∃ (qs : List (Need × Nat)) (n : Need) (k : Nat), (NOk d n ∧ k + d ≤ 100 ∧ qs.length + (nodesF d k n).length ≤ 10000) ∧ ds = [eNeedU n, eInt (k : Nat), .yld r.l] ∧ os = [eVl, eDp qs, eAq qs, recO r .ready none] ∧ v = .bool true ∧ os' = enumO 1000 [eVl, eDp (qs ++ nodesF d k n), eAq (qs ++ nodesF d k n), recO r .ready none]) := by
 obtain ⟨b0, b1, b2, b3, rfl⟩ : ∃ b0 b1 b2 b3, bl = [b0, b1, b2, b3] := by
  match bl, hbl with
  | [b0, b1, b2, b3], _ => exact ⟨b0, b1, b2, b3, rfl⟩
 induction d with
 | zero =>
  refine fn_introMA Tryz.call222 Tryz.func222 rfl Tryz.ntmps222 ?_
  rintro ds os d os' ⟨qs, n, k, ⟨hn, hk, hq⟩, rfl, rfl, rfl, rfl⟩
  refine ⟨by simp, by simp, fun F w0 han => ?_⟩
  have c1 := nodesF_pos 0 k n
  have hL : n.L = [] := hn.2
  repeat' (first | apply zC | apply zG | apply zD | apply zA | apply zB | refine zF (by simp only [go_sem, hL]; rfl) qR ?_ ?_ | refine stepcallYA [1000, 1001, 1002, 1003] Y (by first | (simp only [go_sem, hL]; done) | (simp only [go_sem, hL]; rfl)) han qR qR (by simp only [go_sem, hL]; first | done | rfl) (by first | (simp only [go_sem, hL]; done) | rfl) (by first | (simp only [go_sem, hL]; done) | (simp only [go_sem, hL]; rfl)) ?_ ⟨qs, (n, k), ⟨by omega, by omega⟩, rfl, rfl, rfl, rfl⟩ (by simp only [go_sem, hL]; rfl) ?_ | (refine zE (by simp only [go_sem, hL]; rfl) ?_ ?_ <;> intro hb <;> have hc := hb <;> (try simp only [bF] at hc) <;> (try (exfalso; simp at hc; done))) | exact True.intro | exact rfl | fail)
  refine zN [0, 1, 2, 3, 15, 16] (fun x : Nat × Unit => [(17, .int .i64 x.1)]) (fun x : Nat × Unit => []) (fun x : Nat × Unit => x.1 ≤ 0) (fun x : Nat × Unit => 0 - x.1) (0, ()) (fun x => qS) ?_ qL qL ?_
  ·exact Nat.le_refl _
  rintro ⟨j, _⟩ g1
  simp only at g1
  repeat' (first | apply zC | apply zA | apply zB | refine zF qS qR ?_ ?_ | exact True.intro | exact rfl | fail)
  (refine zE qS ?_ ?_ <;> intro hb <;> have hc := hb <;> (try simp only [bF] at hc) <;> (try (exfalso; simp at hc; done)))
  repeat' (first | apply zC | apply zA | apply zB | refine zF qS qR ?_ ?_ | refine zK qR ?_ | exact True.intro | exact rfl | fail)
  refine yC qR qS ?_ ?_
  ·exact SLe.refl _
  ·(show subO _ _; simp only [go_sem]; repeat' (first | exact SLe.any1 | exact trivial | exact True.intro | exact SLe.refl _ | exact OLe.refl _ | exact ⟨_, rfl, OLe.refl _⟩ | refine ⟨_, rfl, ?_⟩ | refine OLe.var ?_ | (show SLeL _ _; refine ⟨?_, ?_⟩) | (show SLeL [] []; exact True.intro) | (refine SLe.int ?_; rw [w64]; omega) | refine SLe.int ?_ | refine SLe.bool ?_ | apply And.intro))
 | succ d ih =>
  refine fn_introMA Tryz.call222 Tryz.func222 rfl Tryz.ntmps222 ?_
  rintro ds os d os' ⟨qs, n, k, ⟨hn, hk, hq⟩, rfl, rfl, rfl, rfl⟩
  refine ⟨by simp, by simp, fun F w0 han => ?_⟩
  have c2 := nodesF_succ d k n
  have c3 := flat_ge d (k + 1) n.L
  obtain ⟨Q, hQd⟩ : ∃ Q : Nat → List (Need × Nat), ∀ i, Q i = qs ++ ((n, k) :: (n.L.take i).flatMap (nodesF d (k + 1))) := ⟨_, fun _ => rfl⟩
  have hQ0 : qs ++ [(n, k)] = Q 0 := by rw [hQd]; simp
  have hQl : ∀ i, i < n.L.length → (Q i).length + (nodesF d (k + 1) (n.L.getD i default)).length ≤ qs.length + (nodesF (d + 1) k n).length := by
   intro i hi
   have := flat_room (nodesF d (k + 1)) n.L i hi
   rw [hQd, c2]
   simp only [List.length_append, List.length_cons]
   omega
  repeat' (first | apply zC | apply zG | apply zD | apply zA | apply zB | refine zF (by simp only [go_sem, hQ0]; rfl) qR ?_ ?_ | refine stepcallYA [1000, 1001, 1002, 1003] Y (by first | (simp only [go_sem, hQ0]; done) | (simp only [go_sem, hQ0]; rfl)) han qR qR (by simp only [go_sem, hQ0]; first | done | rfl) (by first | (simp only [go_sem, hQ0]; done) | rfl) (by first | (simp only [go_sem, hQ0]; done) | (simp only [go_sem, hQ0]; rfl)) ?_ ⟨qs, (n, k), ⟨by omega, by omega⟩, rfl, rfl, rfl, rfl⟩ (by simp only [go_sem, hQ0]; rfl) ?_ | (refine zE (by simp only [go_sem, hQ0]; rfl) ?_ ?_ <;> intro hb <;> have hc := hb <;> (try simp only [bF] at hc) <;> (try (exfalso; simp at hc; done))) | exact True.intro | exact rfl | fail)
  refine zN [0, 1, 2, 3, 15, 16] (fun x : Nat × Unit => [(17, .int .i64 x.1)]) (fun x : Nat × Unit => [(1001, eDp (Q x.1)), (1002, eAq (Q x.1))]) (fun x : Nat × Unit => x.1 ≤ n.L.length) (fun x : Nat × Unit => n.L.length - x.1) (0, ()) (fun x => qS) ?_ qL qL ?_
  ·exact Nat.zero_le _
  rintro ⟨j, _⟩ g1
  simp only at g1
  repeat' (first | apply zC | apply zA | apply zB | refine zF qS qR ?_ ?_ | exact True.intro | exact rfl | fail)
  (refine zE qS ?_ ?_ <;> intro hb <;> have hc := hb <;> (try simp only [bF] at hc) <;> (try (exfalso; simp at hc; done)))
  ·have hj : j < n.L.length := by assumption
   have hx := hn.2 _ (getD_mem' hj)
   have hl := hQl j hj
   have en : nthSD (eNeeds n.L) j = eNeedU (n.L.getD j default) := by rw [eNeeds_nth _ _ hj, eNeed, nCells_eq]; rfl
   have hQ : Q j ++ nodesF d (k + 1) (n.L.getD j default) = Q (j + 1) := by rw [hQd, hQd, flat_take _ _ _ hj]; simp
   have e1 : IntKind.i64.wrap ((k : Int) + 1) = ((k + 1 : Nat) : Int) := by rw [w64]; omega
   repeat' (first | apply zC | apply zG | apply zD | apply zL | apply zA | apply zB | refine zF (by simp only [go_sem, en, hQ, e1]; rfl) qR ?_ ?_ | refine stepcallMA [1000, 1001, 1002, 1003] ih han qR qR (by simp only [go_sem, en, hQ, e1]; first | done | rfl) (by first | (simp only [go_sem, en, hQ, e1]; done) | rfl) (by first | (simp only [go_sem, en, hQ, e1]; done) | (simp only [go_sem, en, hQ, e1]; rfl)) ?_ ⟨Q j, n.L.getD j default, k+1, ⟨hx, by omega, by omega⟩, rfl, rfl, rfl, rfl⟩ (by simp only [go_sem, en, hQ, e1]; rfl) ?_ | (refine zE (by simp only [go_sem, en, hQ, e1]; rfl) ?_ ?_ <;> intro hb <;> have hc := hb <;> (try simp only [bF] at hc) <;> (try (exfalso; simp at hc; done))) | refine zS (j+1,()) ?_ ?_ ⟨rfl, qL, qL⟩ | exact True.intro | exact rfl | omega | exact qP | fail)
  ·have hQe : Q j = qs ++ nodesF (d + 1) k n := by rw [hQd, List.take_of_length_le (by omega)]; rfl
   rw [hQe]
   repeat' (first | apply zC | apply zA | apply zB | refine zF qS qR ?_ ?_ | refine zK qR ?_ | exact True.intro | exact rfl | fail)
   refine yC qR qS ?_ ?_
   ·exact SLe.refl _
   ·(show subO _ _; simp only [go_sem]; repeat' (first | exact SLe.any1 | exact trivial | exact True.intro | exact SLe.refl _ | exact OLe.refl _ | exact ⟨_, rfl, OLe.refl _⟩ | refine ⟨_, rfl, ?_⟩ | refine OLe.var ?_ | (show SLeL _ _; refine ⟨?_, ?_⟩) | (show SLeL [] []; exact True.intro) | (refine SLe.int ?_; rw [w64]; omega) | refine SLe.int ?_ | refine SLe.bool ?_ | apply And.intro))
end Go.Sx
namespace Go.Sx
theorem run_st {P : Program} {F : List Nat} {w0 : Base} {fin : Exit → Act → World → Prop} {k : List It} {s s' : St} (h : s = s') (hn : Run P F w0 fin k s') : Run P F w0 fin k s := h ▸ hn
theorem run_keep {P : Program} {F : List Nat} {w0 : Base} {fin : Exit → Act → World → Prop} {k : List It} {s : St} (ns : List Nat) {l : List (Nat × SD)} (hl : keepS s.sl ns = l) (hn : Run P F w0 fin k ⟨s.n, s.nx, l, s.ow⟩) : Run P F w0 fin k s := fun h e a w D =>
 hn h e a w (hl ▸ D.weak' (s' := ⟨s.n, s.nx, keepS s.sl ns, s.ow⟩) rfl (subS_keep ns) fun k o h => ⟨o, h, OLe.refl o⟩)
open Go.Proofs Go.RowKit
attribute [local irreducible] Run RunL RunD OpT SLe0 SLe OLe
set_option maxHeartbeats 2000000
set_option maxRecDepth 8000
set_option maxHeartbeats 20000000
@[go_sem] def nCellsU (n : Need) : List SD := [.int .i64 n.Kind, .int .i64 n.N, .int .i64 n.Min, eList 2 eCourse n.Set, .list 5 n.L.length fun i => nthSD (eNeeds n.L) i]
theorem K221 (r : LR) (h0 : Hp) (bl : List Nat) (hbl : bl.length = 4) (Y : YR r bl h0) (d : Nat) : FnMA Tryz.prog 221 h0 bl (fun ds os v os' => ∃ (qs : List (Need × Nat)) (n : Need), (NOk d n ∧ 1 + d ≤ 100 ∧ qs.length + (nodesF d 1 n).length ≤ 10000) ∧ ds = [.yld r.l, .fp (nCellsU n)] ∧ os = [eVl, eDp qs, eAq qs, recO r .ready none] ∧ v = .tup [] ∧ os' = enumO 1000 [eVl, eDp (qs ++ nodesF d 1 n), eAq (qs ++ nodesF d 1 n), recO r .ready none]) := by
 have K := K222 r h0 bl hbl Y d
 obtain ⟨b0, b1, b2, b3, rfl⟩ : ∃ b0 b1 b2 b3, bl = [b0, b1, b2, b3] := by
  match bl, hbl with
  | [b0, b1, b2, b3], _ => exact ⟨b0, b1, b2, b3, rfl⟩
 refine fn_introMA Tryz.call221 Tryz.func221 rfl Tryz.ntmps221 ?_
 rintro ds os d os' ⟨qs, n, ⟨hn, hk, hq⟩, rfl, rfl, rfl, rfl⟩
 refine ⟨by simp, by simp, fun F w0 han => ?_⟩
 repeat' (first | apply zA | apply zB | refine zF qS qR ?_ ?_ | refine stepcallMA [1000, 1001, 1002, 1003] K han qR qR qD (by first | (simp only [go_sem]; done) | rfl) qF ?_ ⟨qs, n, 1, ⟨hn, hk, hq⟩, rfl, rfl, rfl, rfl⟩ qS ?_ | exact True.intro | exact rfl | fail)
 refine run_endM qR ?_ ?_
 ·repeat' (first | exact SLe.refl _ | fail)
 ·(show subO _ _; simp only [go_sem]; repeat' (first | exact SLe.any1 | exact trivial | exact True.intro | exact SLe.refl _ | exact OLe.refl _ | exact ⟨_, rfl, OLe.refl _⟩ | refine ⟨_, rfl, ?_⟩ | refine OLe.var ?_ | (show SLeL _ _; refine ⟨?_, ?_⟩) | (show SLeL [] []; exact True.intro) | (refine SLe.int ?_; rw [w64]; omega) | refine SLe.int ?_ | refine SLe.bool ?_ | apply And.intro))
theorem K185 : FnOK Tryz.prog 185 (fun ds d => ∃ n : Need, ds = [eNeedU n] ∧ d = .fn 221 [.fp (nCellsU n)]) := by
 refine fn_intro Tryz.call185 Tryz.func185 rfl Tryz.ntmps185 ?_
 rintro ds d ⟨n, rfl, rfl⟩
 refine ⟨by simp, fun w0 => ?_⟩
 repeat' (first | refine zO 0 qS ?_ | apply zC | apply zA | apply zB | refine zF qS qR ?_ ?_ | refine zI qR ?_ | exact True.intro | exact rfl | exact SLe0.pure rfl | fail)
end Go.Sx
namespace Go.Sx
theorem FnMA.weaken {P : Program} {f : Nat} {h0 : Hp} {bl : List Nat} {R R' : List SD → List OB → SD → List (Nat × OB) → Prop} (hf : FnMA P f h0 bl R) (h : ∀ ds os d os', R' ds os d os' → R ds os d os') : FnMA P f h0 bl R' := ⟨hf.call, fun ds os d os' hr => hf.ok ds os d os' (h ds os d os' hr)⟩
open Go.Proofs Go.RowKit
attribute [local irreducible] Run RunL RunD OpT SLe0 SLe OLe
set_option maxHeartbeats 2000000
set_option maxRecDepth 8000
set_option maxHeartbeats 20000000
theorem nq_join (qs : List (Need × Nat)) (x : Need × Nat) (f : Nat → SD) (hf : f 0 = eNeedU x.1) (i : Nat) (hi : i < qs.length + 1) : joinF qs.length (fun i => eNeedU (qs.getD i default).1) f i = eNeedU ((qs ++ [x]).getD i default).1 := by
 simp only [joinF]
 by_cases h : i < qs.length
 ·rw [if_pos h, List.getD_eq_getElem?_getD, List.getD_eq_getElem?_getD, List.getElem?_append_left h]
 ·have : i = qs.length := by omega
  subst this
  rw [if_neg h, Nat.sub_self, hf]
  simp
theorem nq_ole (qs : List (Need × Nat)) (x : Need × Nat) {f : Nat → SD} (hf : f 0 = eNeedU x.1) : OLe (.acc 30 5 (qs.length + 1) (joinF qs.length (fun i => eNeedU (qs.getD i default).1) f)) (eAq (qs ++ [x])) := OLe.accS (by simp) fun i hi => nq_join qs x f hf i hi
@[go_sem] def eQl (qs : List (Need × Nat)) : SD := .list 5 qs.length fun i => eNeedU (qs.getD i default).1
def WOk (d : Nat) (n : Need) : Prop := NOk d n ∧ (nodesF d 1 n).length ≤ 1000
theorem K143 (d : Nat) (hd : 1 + d ≤ 100) : FnOK Tryz.prog 143 (fun ds v => ∃ n : Need, WOk d n ∧ ds = [eNeedU n] ∧ v = .tup [eQl (nodesF d 1 n), .int .i64 (deepQ (nodesF d 1 n) : Nat), .bool true]) := by
 refine fn_introX Tryz.call143 Tryz.func143 rfl Tryz.ntmps143 ?_
 rintro ds v ⟨n, ⟨hn, hc⟩, rfl, rfl⟩
 refine ⟨by simp, fun w0 => ?_⟩
 repeat' (first | apply zC | apply zD | apply zA | apply zB | refine zF qS qR ?_ ?_ | refine zM K185 qD ?_ ⟨_, rfl, rfl⟩ qS ?_ | exact True.intro | exact rfl | fail)
 refine run_nilaccV 1 0 30 5 (fun i => eNeedU (([] : List (Need × Nat)).getD i default).1) rfl rfl (by simp only [List.set]; rfl) rfl ?_
 refine run_keep [2, 3, 4, 8] qS ?_
 refine run_rangeFuncO [1, 2, 4] (gf := 221) (os := [eVl, eDp [], eAq []]) (osu' := [eVl, eDp (nodesF d 1 n), eAq (nodesF d 1 n)]) (pe := none) rfl qS qR qR qR qR (fun r K => by rfl) (fun h1 bl r hps has hbd htm hbl1 hle hfx hsl => ?hit) (fun r K => by simp only [go_sem]; rfl) (fun r K => by rfl) (fun r K => ?hk)
 case hk =>
  refine run_st (s' := ?_) qS ?_
  simp only [contK]
  change Run _ _ ⟨w0, none, [{ target := .collected K, args := #[] }]⟩ _ _ _
  repeat' (first | refine zO 4 qS ?_ | apply zC | apply zL | apply zP | refine zU qS qR ?_ ?_ | refine zQ qK qK ?_ | exact True.intro | fail)
  refine run_retX1 5 K qR qR qS ?_
  exact SLe0.le qZ (SLe.refl _)
 case hit =>
  refine (K221 r h1 bl (by simpa using hbl1) ?Y d).weaken ?w
  case w =>
   rintro ds os d os' ⟨rfl, rfl, rfl, rfl⟩
   exact ⟨[], n, ⟨hn, hd, by show 0 + _ ≤ _; omega⟩, rfl, rfl, rfl, rfl⟩
  case Y =>
   obtain ⟨c0, c1, c2, c3, rfl⟩ : ∃ b0 b1 b2 b3, bl = [b0, b1, b2, b3] := by
    match bl, hbl1 with
    | [b0, b1, b2, b3], _ => exact ⟨b0, b1, b2, b3, rfl⟩
   refine yld_intro r [(2, .loc 1000 0), (3, .loc 1001 0)] 27 r.l rfl htm (by rw [hps]; simp) (fun h e hl hb t => by
    by_cases ht : t = 2
    ·subst ht; exact hsl h e hl hb 2
    ·by_cases ht3 : t = 3
     ·subst ht3; exact hsl h e hl hb 3
     ·have : lkp [(2, SD.loc 1000 0), (3, SD.loc 1001 0)] t = .any := by
       simp only [lkp]; rw [beqF (fun hc => ht hc.symm), beqF (fun hc => ht3 hc.symm)]; rfl
      rw [this]; simp only [rep]) ?_
   rintro ds os v os' ⟨qs, x, ⟨hx, hql⟩, rfl, rfl, rfl, rfl⟩
   have f1 : decide ((100 : Int) < ((x.2 : Nat) : Int)) = false := decide_eq_false (by omega)
   have f2 : (((qs.length : Nat) : Int) == 10000) = false := by
    rw [beq_eq_false_iff_ne]; intro hc; omega
   refine ⟨[eVl, eDp qs, eAq qs], [eVl, eDp (qs ++ [x]), eAq (qs ++ [x])], none, ?sA, rfl, rfl, rfl, rfl, rfl, by rw [hps]; rfl, fun F w0 han2 => ?g1, ?g2, fun F w0 han2 => ?g3⟩
   case g1 =>
    rw [has, hps]
    change Run _ F _ _ _ ⟨27, 0, upd (upd [(2, .loc 1000 0), (3, .loc 1001 0)] 9 (eInt (x.2 : Nat))) 10 (eNeedU x.1), _⟩
    repeat' (first | apply zC | apply zA | apply zB | refine zF qS qR ?_ ?_ | exact True.intro | exact rfl | fail)
    exact run_here
   case g2 => rfl
   case g3 =>
    rw [hbd]
    repeat' (first | apply zC | apply zG | apply zD | apply zL | apply zA | apply zP | apply zB | refine zF (by simp only [go_sem, menM, f1, f2]; rfl) qR ?_ ?_ | refine zU (by simp only [go_sem, menM, f1, f2]; rfl) qR ?_ ?_ | refine zQ qK qK ?_ | refine runDapN (by simp only [go_sem, menM, f1, f2]; rfl) ?_ (by simp only [go_sem, menM, f1, f2]; rfl) ?_ | (refine zE (by simp only [go_sem, menM, f1, f2]; rfl) ?_ ?_ <;> intro hb <;> have hc := hb <;> (try simp only [bF] at hc) <;> (try (exfalso; simp at hc; done))) | exact True.intro | exact rfl | exact qP | fail)
    refine run_renH 701 1002 qS ?_
    refine zR (o' := eAq (qs ++ [x])) 1002 qR (nq_ole qs x rfl) ?_
    refine run_round_end ?_
    (show subO _ _; simp only [go_sem]; repeat' (first | exact SLe.any1 | exact trivial | exact True.intro | exact SLe.refl _ | exact OLe.refl _ | exact ⟨_, rfl, OLe.refl _⟩ | refine ⟨_, rfl, ?_⟩ | refine OLe.var ?_ | (show SLeL _ _; refine ⟨?_, ?_⟩) | (show SLeL [] []; exact True.intro) | (refine SLe.int ?_; rw [w64]; omega) | refine SLe.int ?_ | refine SLe.bool ?_ | apply And.intro))
    rw [deepQ_snoc]
    split <;> omega
end Go.Sx
namespace Go.Sx
theorem ole_snoc {α : Type} [Inhabited α] {T es : Nat} (enc : α → SD) (l : List α) (x : α) {f : Nat → SD} (hf : f 0 = enc x) : OLe (.acc T es (l.length + 1) (joinF l.length (fun i => enc (l.getD i default)) f)) (.acc T es (l ++ [x]).length (fun i => enc ((l ++ [x]).getD i default))) := OLe.accS (by simp) fun i hi => by
 simp only [joinF]
 by_cases h : i < l.length
 ·rw [if_pos h, List.getD_eq_getElem?_getD, List.getD_eq_getElem?_getD, List.getElem?_append_left h]
 ·have : i = l.length := by omega
  subst this
  rw [if_neg h, Nat.sub_self, hf]
  simp
open Go.Proofs Go.RowKit
attribute [local irreducible] Run RunL RunD OpT SLe0 SLe OLe
set_option maxHeartbeats 2000000
set_option maxRecDepth 8000
set_option maxHeartbeats 20000000
theorem K224 : FnOK Tryz.prog 224 (fun ds d => ∃ f : Nat → SD, ds = [.list 5 0 f] ∧ d = .list 5 0 f) := by
 refine fn_intro Tryz.call224 Tryz.func224 rfl Tryz.ntmps224 ?_
 rintro ds d ⟨f, rfl, rfl⟩
 refine ⟨by simp, fun w0 => ?_⟩
 repeat' (first | refine zO 0 qS ?_ | apply zC | apply zG | apply zA | apply zB | refine zF qS qR ?_ ?_ | refine yG qS qZ qZ (fun bn hbn => ?_) | (refine zE qS ?_ ?_ <;> intro hb <;> have hc := hb <;> (try simp only [bF] at hc) <;> (try (exfalso; simp at hc; done))) | refine zI qR ?_ | exact True.intro | exact rfl | exact SLe0.pure rfl | exact qP | fail)
 all_goals first | exact SLe0.le qZ SLe.nils | exact SLe0.le qZ (SLe.list rfl fun i hi => absurd hi (Nat.not_lt_zero _))
theorem K187n : FnOK Tryz.prog 187 (fun ds d => ∃ n : Need, n.L = [] ∧ ds = [eNeedU n] ∧ d = eNeedU n) := by
 refine fn_intro Tryz.call187 Tryz.func187 rfl Tryz.ntmps187 ?_
 rintro ds d ⟨n, hL, rfl, rfl⟩
 refine ⟨by simp, fun w0 => ?_⟩
 repeat' (first | apply zC | apply zD | apply zA | apply zP | apply zB | refine zF (by simp only [go_sem, hL]; rfl) qR ?_ ?_ | refine zU (by simp only [go_sem, hL]; rfl) qR ?_ ?_ | refine zQ qK qK ?_ | refine zX K223 (by simp only [go_sem, hL]; first | done | rfl) ?_ ⟨_, rfl, rfl⟩ (by simp only [go_sem, hL]; rfl) ?_ | refine zX K224 (by simp only [go_sem, hL]; first | done | rfl) ?_ ⟨_, rfl, rfl⟩ (by simp only [go_sem, hL]; rfl) ?_ | exact True.intro | exact rfl | fail)
 refine zN [0, 1, 2, 14, 15] (fun x : Nat × Unit => [(16, .int .i64 x.1)]) (fun x : Nat × Unit => []) (fun x : Nat × Unit => x.1 ≤ 0) (fun x : Nat × Unit => 0 - x.1) (0, ()) (fun x => qS) ?_ qL qL ?_
 ·exact Nat.le_refl _
 rintro ⟨j, _⟩ g1
 simp only at g1
 repeat' (first | apply zC | apply zA | apply zB | refine zF (by simp only [go_sem, hL]; rfl) qR ?_ ?_ | (refine zE (by simp only [go_sem, hL]; rfl) ?_ ?_ <;> intro hb <;> have hc := hb <;> (try simp only [bF] at hc) <;> (try (exfalso; simp at hc; done))) | refine yA qR (by simp only [go_sem, hL]; rfl) ?_ | refine zK qR ?_ | exact True.intro | exact rfl | fail)
 all_goals (refine SLe0.le qZ ?_; simp only [go_sem, hL]; exact SLe.refl _)
theorem FnOK.both {P : Program} {f : Nat} {R R1 R2 : List SD → SD → Prop} (K1 : FnOK P f R1) (K2 : FnOK P f R2) (h : ∀ ds d, R ds d → R1 ds d ∨ R2 ds d) : FnOK P f R :=
 ⟨K1.call, fun ds d hr => by
  rcases h ds d hr with h | h
  ·exact K1.ok ds d h
  ·exact K2.ok ds d h⟩
attribute [local go_sem] asA asS recAs
theorem K224m : FnM Tryz.prog 224 (fun ds os d os' => ∃ (n : Nat) (f : Nat → SD), (0 < n ∧ n ≤ 10000) ∧ ds = [.list 5 n f] ∧ os = [] ∧ d = .acc 0 ∧ os' = [(0, .acc 30 5 n f)]) := by
 refine fn_introM Tryz.call224 Tryz.func224 rfl Tryz.ntmps224 ?_
 rintro ds os d os' ⟨n, f, ⟨hn, hn2⟩, rfl, rfl, rfl, rfl⟩
 refine ⟨by simp, fun F w0 => ?_⟩
 obtain ⟨m, rfl⟩ : ∃ m, n = m + 1 := ⟨n - 1, by omega⟩
 repeat' (first | apply zC | apply zG | apply zA | apply zB | refine zF qS qR ?_ ?_ | (refine zE qS ?_ ?_ <;> intro hb <;> have hc := hb <;> (try simp only [bF] at hc) <;> (try (exfalso; simp at hc; done))) | exact True.intro | exact rfl | exact qP | fail)
 refine zR (o' := .acc 30 5 (m + 1) f) 0 qR (OLe.accS (Nat.zero_add _) fun i _ => by simp only [joinF, Nat.not_lt_zero, if_false, Nat.sub_zero]) ?_
 refine yC qR qS ?_ ?_
 ·exact SLe.refl _
 ·(show subO _ _; simp only [go_sem]; repeat' (first | exact SLe.any1 | exact trivial | exact True.intro | exact SLe.refl _ | exact OLe.refl _ | exact ⟨_, rfl, OLe.refl _⟩ | refine ⟨_, rfl, ?_⟩ | refine OLe.var ?_ | (show SLeL _ _; refine ⟨?_, ?_⟩) | (show SLeL [] []; exact True.intro) | (refine SLe.int ?_; rw [w64]; omega) | refine SLe.int ?_ | refine SLe.bool ?_ | apply And.intro))
theorem needs_ole (l : List Need) : OLe (.acc 30 5 l.length fun i => nthSD (eNeeds l) i) (.acc 30 5 l.length fun i => eNeedU (l.getD i default)) := OLe.accS rfl fun i hi => by
 show nthSD (eNeeds l) i = _
 rw [eNeeds_nth _ _ hi, eNeed, nCells_eq]; rfl
theorem needs_sle (l : List Need) : SLe (.list 5 l.length fun i => eNeedU (l.getD i default)) (.list 5 l.length fun i => nthSD (eNeeds l) i) := SLe.list rfl fun i hi => by
 show _ = nthSD (eNeeds l) i
 rw [eNeeds_nth _ _ hi, eNeed, nCells_eq]; rfl
theorem setF_same {f : Nat → SD} {j : Nat} {d : SD} (h : d = f j) : Sx.setF j d f = f := by
 funext i
 simp only [Sx.setF]
 by_cases hi : i = j
 ·rw [if_pos hi, hi, h]
 ·rw [if_neg hi]
theorem nodesF_shift (d : Nat) : ∀ (k m : Nat) (n : Need), (nodesF d k n).length = (nodesF d m n).length := by
 induction d with
 | zero => intro k m n; rfl
 | succ d ih =>
  intro k m n
  have key : ∀ l : List Need, (l.flatMap (nodesF d (k + 1))).length = (l.flatMap (nodesF d (m + 1))).length := by
   intro l
   induction l with
   | nil => rfl
   | cons x r ihl => simp only [List.flatMap_cons, List.length_append, ihl, ih (k + 1) (m + 1) x]
  simp only [nodesF, List.length_cons, key]
theorem K187c (d : Nat) (ih : FnOK Tryz.prog 187 (fun ds v => ∃ n : Need, (NOk d n ∧ (nodesF d 1 n).length ≤ 10000) ∧ ds = [eNeedU n] ∧ v = eNeedU n)) : FnOK Tryz.prog 187 (fun ds v => ∃ n : Need, (n.L ≠ [] ∧ NOk (d + 1) n ∧ (nodesF (d + 1) 1 n).length ≤ 10000) ∧ ds = [eNeedU n] ∧ v = eNeedU n) := by
 refine fn_intro Tryz.call187 Tryz.func187 rfl Tryz.ntmps187 ?_
 rintro ds d ⟨n, ⟨hL, hn, hl⟩, rfl, rfl⟩
 refine ⟨by simp, fun w0 => ?_⟩
 have hL0 : 0 < n.L.length := List.length_pos_iff.2 hL
 have c2 := nodesF_succ d 1 n
 have c3 := flat_ge d (1 + 1) n.L
 have hl2 : n.L.length ≤ 10000 := by omega
 repeat' (first | apply zC | apply zD | apply zA | apply zP | apply zB | refine zF qS qR ?_ ?_ | refine zU qS qR ?_ ?_ | refine zQ qK qK ?_ | refine zX K223 qD ?_ ⟨_, rfl, rfl⟩ qS ?_ | refine runDcallM [] K224m qR qD qZ qF ?_ ⟨_, _, ⟨hL0, hl2⟩, rfl, rfl, rfl, rfl⟩ qS ?_ | exact True.intro | exact rfl | fail)
 refine zR 2 qR (needs_ole n.L) ?_
 refine zN [0, 1, 2, 14, 15] (fun x : Nat × Unit => [(16, .int .i64 x.1)]) (fun x : Nat × Unit => []) (fun x : Nat × Unit => x.1 ≤ n.L.length) (fun x : Nat × Unit => n.L.length - x.1) (0, ()) (fun x => qS) ?_ qL qL ?_
 ·exact Nat.zero_le _
 rintro ⟨j, _⟩ g1
 simp only at g1
 repeat' (first | apply zC | apply zA | apply zB | refine zF qS qR ?_ ?_ | exact True.intro | exact rfl | fail)
 (refine zE qS ?_ ?_ <;> intro hb <;> have hc := hb <;> (try simp only [bF] at hc) <;> (try (exfalso; simp at hc; done)))
 ·have hj : j < n.L.length := by assumption
  have hx := hn.2 _ (getD_mem' hj)
  have h9 : (nodesF d 1 (n.L.getD j default)).length ≤ 10000 := by
   have h1 := flat_room (nodesF d (1 + 1)) n.L j hj
   rw [nodesF_shift d (1 + 1) 1] at h1
   omega
  repeat' (first | apply zC | apply zG | apply zD | apply zL | apply zA | apply zP | apply zB | refine zF qS qR ?_ ?_ | refine zU qS qR ?_ ?_ | refine zQ qK qK ?_ | refine runDas qS qS ?_ | refine zX ih qD ?_ ⟨n.L.getD j default, ⟨hx, h9⟩, rfl, rfl⟩ qS ?_ | exact True.intro | exact rfl | exact qP | fail)
  refine zR (o' := .acc 30 5 n.L.length fun i => eNeedU (n.L.getD i default)) 2 qR (OLe.accS rfl fun i _ => congrFun (setF_same (f := fun i => eNeedU (n.L.getD i default)) rfl) i) ?_
  repeat' (first | refine zS (j+1,()) ?_ ?_ ⟨rfl, qL, qL⟩ | omega)
 ·repeat' (first | refine zO 2 qS ?_ | apply zC | apply zA | apply zB | refine zF qS qR ?_ ?_ | refine yA qR qS ?_ | refine zK qR ?_ | exact True.intro | exact rfl | fail)
  all_goals (refine SLe0.le qZ ?_)
  all_goals exact SLe.agg ⟨SLe.refl _, SLe.refl _, SLe.refl _, SLe.refl _, needs_sle n.L, trivial⟩
theorem K187 : ∀ d : Nat, FnOK Tryz.prog 187 (fun ds v => ∃ n : Need, (NOk d n ∧ (nodesF d 1 n).length ≤ 10000) ∧ ds = [eNeedU n] ∧ v = eNeedU n) := by
 intro d
 induction d with
 | zero =>
  exact K187n.weaken fun ds v ⟨n, ⟨hn, _⟩, h1, h2⟩ => ⟨n, hn.2, h1, h2⟩
 | succ d ih =>
  refine FnOK.both K187n (R2 := fun ds v => ∃ n : Need, (n.L ≠ [] ∧ NOk (d + 1) n ∧ (nodesF (d + 1) 1 n).length ≤ 10000) ∧ ds = [eNeedU n] ∧ v = eNeedU n) (K187c d ih) fun ds v ⟨n, ⟨hn, hl⟩, h1, h2⟩ => ?_
  by_cases hL : n.L = []
  ·exact .inl ⟨n, hL, h1, h2⟩
  ·exact .inr ⟨n, ⟨hL, hn, hl⟩, h1, h2⟩
def lvs (qs : List (Need × Nat)) : List Need := (qs.map (·.1)).filter leafR
@[go_sem] def eLv (l : List Need) : SD := .list 5 l.length fun i => eNeedU (l.getD i default)
theorem NOk.up : ∀ {d : Nat} {n : Need}, NOk d n → NOk (d + 1) n ∧ (nodesF (d + 1) 1 n).length = (nodesF d 1 n).length
 | 0, n, h => by
  have hL : n.L = [] := h.2
  refine ⟨⟨h.1, fun x hx => by rw [hL] at hx; cases hx⟩, ?_⟩
  simp only [nodesF, hL]; rfl
 | d + 1, n, h => by
  refine ⟨⟨h.1, fun x hx => (NOk.up (h.2 x hx)).1⟩, ?_⟩
  have key : ∀ l : List Need, (∀ x ∈ l, NOk d x) → (l.flatMap (nodesF (d + 1) (1 + 1))).length = (l.flatMap (nodesF d (1 + 1))).length := by
   intro l
   induction l with
   | nil => intro _; rfl
   | cons x r ihl =>
    intro hx
    simp only [List.flatMap_cons, List.length_append]
    rw [ihl fun y hy => hx y (List.mem_cons_of_mem _ hy), nodesF_shift (d + 1) (1 + 1) 1, nodesF_shift d (1 + 1) 1, (NOk.up (hx x (List.mem_cons_self ..))).2]
  have h1 := nodesF_succ (d + 1) 1 n
  have h2 := nodesF_succ d 1 n
  have h3 := key n.L h.2
  omega
theorem nodesF_ok : ∀ (d k : Nat) (n : Need), NOk d n → ∀ x ∈ nodesF d k n, NOk d x.1 ∧ (nodesF d 1 x.1).length ≤ (nodesF d k n).length
 | 0, k, n, h, x, hx => by
  simp only [nodesF, List.mem_singleton] at hx
  subst hx
  exact ⟨h, Nat.le_refl _⟩
 | d + 1, k, n, h, x, hx => by
  simp only [nodesF, List.mem_cons, List.mem_flatMap] at hx
  rcases hx with rfl | ⟨y, hy, hx⟩
  ·exact ⟨h, by rw [nodesF_shift (d + 1) 1 k]; exact Nat.le_refl _⟩
  ·obtain ⟨h1, h2⟩ := nodesF_ok d (k + 1) y (h.2 y hy) x hx
   have h3 : (nodesF d (k + 1) y).length ≤ (n.L.flatMap (nodesF d (k + 1))).length := by
    obtain ⟨i, hi, rfl⟩ := List.getElem_of_mem hy
    have := flat_room (nodesF d (k + 1)) n.L i hi
    rw [List.getD_eq_getElem?_getD, List.getElem?_eq_getElem hi] at this
    simp only [Option.getD_some] at this
    omega
   have h4 := nodesF_succ d k n
   obtain ⟨h5, h6⟩ := NOk.up h1
   exact ⟨h5, by omega⟩
theorem K144 (d : Nat) (hd : 1 + d ≤ 100) : FnOK Tryz.prog 144 (fun ds v => ∃ n : Need, WOk d n ∧ ds = [eNeedU n] ∧ v = eLv (lvs (nodesF d 1 n))) := by
 have K := K143 d hd
 have K187x := K187 d
 refine fn_intro Tryz.call144 Tryz.func144 rfl Tryz.ntmps144 ?_
 rintro ds d ⟨n, hn, rfl, rfl⟩
 refine ⟨by simp, fun w0 => ?_⟩
 have hlen := hn.2
 have hok : ∀ x ∈ nodesF d 1 n, NOk d x.1 ∧ (nodesF d 1 x.1).length ≤ 1000 := fun x hx => ⟨(nodesF_ok d 1 n hn.1 x hx).1, Nat.le_trans (nodesF_ok d 1 n hn.1 x hx).2 hlen⟩
 repeat' (first | apply zC | apply zD | apply zA | apply zB | refine zF qS qR ?_ ?_ | refine zM K qD ?_ ⟨n, hn, rfl, rfl⟩ qS ?_ | exact True.intro | exact rfl | fail)
 generalize nodesF d 1 n = qs at hlen hok ⊢
 refine yF 2 30 5 (fun i => eNeedU (([] : List Need).getD i default)) rfl rfl rfl ?_
 refine zN [0, 1, 2, 14, 15] (fun x : Nat × List Need => [(16, .int .i64 x.1)]) (fun x : Nat × List Need => [(1, .acc 30 5 x.2.length (fun i => eNeedU (x.2.getD i default)))]) (fun x : Nat × List Need => (x.1 ≤ qs.length ∧ x.2.length ≤ x.1) ∧ lvs qs = x.2 ++ lvs (qs.drop x.1)) (fun x : Nat × List Need => qs.length - x.1) (0, []) (fun x => qS) ?_ qL qL ?_
 ·exact ⟨⟨Nat.zero_le _, Nat.zero_le _⟩, rfl⟩
 rintro ⟨j, ls⟩ ⟨⟨g1, g3⟩, g2⟩
 simp only at g1 g2 g3
 repeat' (first | apply zC | apply zA | apply zB | refine zF qS qR ?_ ?_ | exact True.intro | exact rfl | fail)
 (refine zE qS ?_ ?_ <;> intro hb <;> have hc := hb <;> (try simp only [bF] at hc) <;> (try (exfalso; simp at hc; done)))
 ·have hj : j < qs.length := by assumption
  have hx := hok _ (getD_mem' hj)
  have hdrop : lvs (qs.drop j) = (if leafR (qs.getD j default).1 then [(qs.getD j default).1] else []) ++ lvs (qs.drop (j + 1)) := by
   rw [lvs, List.drop_eq_getElem_cons hj, List.map_cons, List.filter_cons, List.getD_eq_getElem?_getD, List.getElem?_eq_getElem hj]
   simp only [Option.getD_some, lvs]
   split <;> rfl
  cases hlf : leafR (qs.getD j default).1
  ·rw [hlf] at hdrop
   repeat' (first | apply zC | apply zG | apply zD | apply zL | apply zA | apply zB | refine zF (by simp only [go_sem, hlf]; rfl) qR ?_ ?_ | refine zM K186 (by simp only [go_sem, hlf]; first | done | rfl) ?_ ⟨_, rfl, rfl⟩ (by simp only [go_sem, hlf]; rfl) ?_ | (refine zE (by simp only [go_sem, hlf]; rfl) ?_ ?_ <;> intro hb <;> have hc := hb <;> (try simp only [bF] at hc) <;> (try (exfalso; simp at hc; done))) | refine zS (j+1,ls) ?_ ?_ ⟨rfl, qL, qL⟩ | exact True.intro | exact rfl | omega | exact qP | fail)
   exact ⟨⟨by simp only; omega, by simp only; omega⟩, by rw [g2, hdrop]; rfl⟩
  ·rw [hlf] at hdrop
   repeat' (first | apply zC | apply zG | apply zD | apply zL | apply zA | apply zB | refine zF (by simp only [go_sem, hlf]; rfl) qR ?_ ?_ | refine zM K186 (by simp only [go_sem, hlf]; first | done | rfl) ?_ ⟨_, rfl, rfl⟩ (by simp only [go_sem, hlf]; rfl) ?_ | refine zM K187x (by simp only [go_sem, hlf]; first | done | rfl) ?_ ⟨_, ⟨hx.1, by have := hx.2; omega⟩, rfl, rfl⟩ (by simp only [go_sem, hlf]; rfl) ?_ | (refine zE (by simp only [go_sem, hlf]; rfl) ?_ ?_ <;> intro hb <;> have hc := hb <;> (try simp only [bF] at hc) <;> (try (exfalso; simp at hc; done))) | exact True.intro | exact rfl | exact qP | fail)
   refine zR (o' := .acc 30 5 (ls ++ [(qs.getD j default).1]).length (fun i => eNeedU ((ls ++ [(qs.getD j default).1]).getD i default))) 1 qR (ole_snoc eNeedU ls _ rfl) ?_
   refine zS (j + 1, ls ++ [(qs.getD j default).1]) ?_ ?_ ⟨rfl, qL, qL⟩
   ·refine ⟨⟨by simp only; omega, by simp; omega⟩, ?_⟩
    rw [g2, hdrop]; simp
   ·simp only; omega
 ·repeat' (first | refine zO 1 qS ?_ | apply zC | apply zA | apply zB | refine zF qS qR ?_ ?_ | refine zI qR ?_ | refine zK qR ?_ | exact True.intro | exact rfl | fail)
  all_goals (have hz : lvs (qs.drop j) = [] := by rw [List.drop_of_length_le (by omega)]; rfl)
  all_goals (rw [hz, List.append_nil] at g2; rw [g2]; exact SLe0.le qZ (SLe.refl _))
end Go.Sx
