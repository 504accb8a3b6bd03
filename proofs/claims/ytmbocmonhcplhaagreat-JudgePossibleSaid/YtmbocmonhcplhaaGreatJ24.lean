/- Part of the proof that the laws of the judge return true for every input: J23, J24. -/
import Derived.Test.YtmbocmonhcplhaaGreatJ22
set_option linter.all false
namespace Go.Sx
open Go.Proofs Go.RowKit
attribute [local irreducible] Run RunL RunD OpT SLe0 SLe OLe
set_option maxHeartbeats 2000000
set_option maxRecDepth 8000
attribute [go_sem] menM recO rawOB aftD rfS stE entS del Option.isNone
def NOk : Nat → Need → Prop
 | 0, n => SetOk n ∧ n.L = []
 | d + 1, n => SetOk n ∧ n.L.length ≤ 3 ∧ (leafR n = true → n.L = []) ∧ ∀ x ∈ n.L, NOk d x
theorem NOk.set {d : Nat} {n : Need} (h : NOk d n) : SetOk n := by cases d <;> exact h.1
theorem NOk.lf {d : Nat} {n : Need} (h : NOk d n) (hl : leafR n = true) : n.L = [] := by
 cases d
 ·exact h.2
 ·exact h.2.2.1 hl
theorem NOk.len {d : Nat} {n : Need} (h : NOk d n) : n.L.length ≤ 3 := by
 cases d
 ·rw [h.2]; exact Nat.zero_le _
 ·exact h.2.1
theorem getD_mem' {α : Type} [Inhabited α] {l : List α} {i : Nat} (hi : i < l.length) : l.getD i default ∈ l := by
 rw [List.getD_eq_getElem?_getD, List.getElem?_eq_getElem hi]
 exact List.getElem_mem hi
def nodesF : Nat → Nat → Need → List (Need × Nat)
 | 0, k, n => [(n, k)]
 | d + 1, k, n => (n, k) :: n.L.flatMap (nodesF d (k + 1))
def cntB : Nat → Nat
 | 0 => 1
 | d + 1 => 1 + 3 * cntB d
theorem cntB_pos (d : Nat) : 1 ≤ cntB d := by cases d <;> simp [cntB]
theorem nodesF_len : ∀ (d k : Nat) (n : Need), NOk d n → (nodesF d k n).length ≤ cntB d
 | 0, k, n, h => by simp [nodesF, cntB]
 | d + 1, k, n, h => by
  have h3 := h.2.1
  have h4 : ∀ (l : List Need), (∀ x ∈ l, NOk d x) → (l.flatMap (nodesF d (k + 1))).length ≤ l.length * cntB d := by
   intro l
   induction l with
   | nil => intro _; simp
   | cons x r ih =>
    intro hx
    simp only [List.flatMap_cons, List.length_append, List.length_cons]
    have h1 := ih fun y hy => hx y (List.mem_cons_of_mem _ hy)
    have h2 := nodesF_len d (k + 1) x (hx x (List.mem_cons_self ..))
    rw [Nat.succ_mul]; omega
  have h5 := h4 n.L h.2.2.2
  have h6 := Nat.mul_le_mul_right (cntB d) h3
  simp only [nodesF, List.length_cons, cntB]
  omega
theorem flat_take {α β : Type} [Inhabited α] (f : α → List β) (l : List α) (i : Nat) (hi : i < l.length) : (l.take (i + 1)).flatMap f = (l.take i).flatMap f ++ f (l.getD i default) := by
 rw [List.take_add_one, List.getElem?_eq_getElem hi, List.flatMap_append, List.getD_eq_getElem?_getD, List.getElem?_eq_getElem hi]
 simp
def deepQ (qs : List (Need × Nat)) : Nat := qs.foldl (fun m x => max m x.2) 0
theorem deepQ_snoc (qs : List (Need × Nat)) (x : Need × Nat) : deepQ (qs ++ [x]) = max (deepQ qs) x.2 := by simp [deepQ]
@[go_sem] def eVl : OB := .var [.acc 1002]
@[go_sem] def eDp (qs : List (Need × Nat)) : OB := .var [.int .i64 (deepQ qs : Nat)]
@[go_sem] def eAq (qs : List (Need × Nat)) : OB := .acc 30 5 qs.length (fun i => eNeedU (qs.getD i default).1)
abbrev YR (r : LR) (bl : List Nat) (h0 : Hp) : Prop := YldMA Tryz.prog r.l h0 bl (fun ds os d os' => ∃ (qs : List (Need × Nat)) (x : Need × Nat), (x.2 ≤ 100 ∧ qs.length < 10000) ∧ ds = [eInt (x.2 : Nat), eNeedU x.1] ∧ os = [eVl, eDp qs, eAq qs, recO r .ready none] ∧ d = .bool true ∧ os' = enumO 1000 [eVl, eDp (qs ++ [x]), eAq (qs ++ [x]), recO r .ready none])
set_option maxHeartbeats 20000000
theorem K222 (r : LR) (h0 : Hp) (bl : List Nat) (hbl : bl.length = 4) (Y : YR r bl h0) (d : Nat) : FnMA Tryz.prog 222 h0 bl (fun ds os v os' => ∃ (qs : List (Need × Nat)) (n : Need) (k : Nat), (NOk d n ∧ k + d ≤ 100 ∧ qs.length + cntB d ≤ 10000) ∧ ds = [eNeedU n, eInt (k : Nat), .yld r.l] ∧ os = [eVl, eDp qs, eAq qs, recO r .ready none] ∧ v = .bool true ∧ os' = enumO 1000 [eVl, eDp (qs ++ nodesF d k n), eAq (qs ++ nodesF d k n), recO r .ready none]) := by
 obtain ⟨b0, b1, b2, b3, rfl⟩ : ∃ b0 b1 b2 b3, bl = [b0, b1, b2, b3] := by
  match bl, hbl with
  | [b0, b1, b2, b3], _ => exact ⟨b0, b1, b2, b3, rfl⟩
 induction d with
 | zero =>
  refine fn_introMA Tryz.call222 Tryz.func222 rfl Tryz.ntmps222 ?_
  rintro ds os d os' ⟨qs, n, k, ⟨hn, hk, hq⟩, rfl, rfl, rfl, rfl⟩
  refine ⟨by simp, by simp, fun F w0 han => ?_⟩
  have c1 := cntB_pos 0
  have hL : n.L = [] := hn.2
  repeat' (first | apply zC | apply zG | apply zD | apply zA | apply zB | refine zF (by simp only [go_sem, hL]; rfl) qR ?_ ?_ | refine stepcallYA [1000, 1001, 1002, 1003] Y (by first | (simp only [go_sem, hL]; done) | (simp only [go_sem, hL]; rfl)) han qR qR (by simp only [go_sem, hL]; first | done | rfl) (by first | (simp only [go_sem, hL]; done) | rfl) (by first | (simp only [go_sem, hL]; done) | (simp only [go_sem, hL]; rfl)) ?_ ⟨qs, (n, k), ⟨by omega, by omega⟩, rfl, rfl, rfl, rfl⟩ (by simp only [go_sem, hL]; rfl) ?_ | (refine zE (by simp only [go_sem, hL]; rfl) ?_ ?_ <;> intro hb <;> have hc := hb <;> (try simp only [bF] at hc) <;> (try (exfalso; simp at hc; done))) | exact True.intro | exact rfl | fail)
  refine zM [0, 1, 2, 3, 15, 16] (fun x : Nat × Unit => [(17, .int .i64 x.1)]) (fun x : Nat × Unit => []) (fun x : Nat × Unit => x.1 ≤ 0) (fun x : Nat × Unit => 0 - x.1) (0, ()) (fun x => qS) ?_ qL qL ?_
  ·exact Nat.le_refl _
  rintro ⟨j, _⟩ g1
  simp only at g1
  repeat' (first | apply zC | apply zA | apply zB | refine zF qS qR ?_ ?_ | exact True.intro | exact rfl | fail)
  (refine zE qS ?_ ?_ <;> intro hb <;> have hc := hb <;> (try simp only [bF] at hc) <;> (try (exfalso; simp at hc; done)))
  repeat' (first | apply zC | apply zA | apply zB | refine zF qS qR ?_ ?_ | refine zJ qR ?_ | exact True.intro | exact rfl | fail)
  refine yB qR qS ?_ ?_
  ·exact SLe.refl _
  ·(show subO _ _; simp only [go_sem]; repeat' (first | exact SLe.any1 | exact trivial | exact True.intro | exact SLe.refl _ | exact OLe.refl _ | exact ⟨_, rfl, OLe.refl _⟩ | refine ⟨_, rfl, ?_⟩ | refine OLe.var ?_ | (show SLeL _ _; refine ⟨?_, ?_⟩) | (show SLeL [] []; exact True.intro) | (refine SLe.int ?_; rw [w64]; omega) | refine SLe.int ?_ | refine SLe.bool ?_ | apply And.intro))
 | succ d ih =>
  refine fn_introMA Tryz.call222 Tryz.func222 rfl Tryz.ntmps222 ?_
  rintro ds os d os' ⟨qs, n, k, ⟨hn, hk, hq⟩, rfl, rfl, rfl, rfl⟩
  refine ⟨by simp, by simp, fun F w0 han => ?_⟩
  have c1 := cntB_pos d
  have c2 := cntB_pos (d + 1)
  have h3 := hn.2.1
  obtain ⟨Q, hQd⟩ : ∃ Q : Nat → List (Need × Nat), ∀ i, Q i = qs ++ ((n, k) :: (n.L.take i).flatMap (nodesF d (k + 1))) := ⟨_, fun _ => rfl⟩
  have hQ0 : qs ++ [(n, k)] = Q 0 := by rw [hQd]; simp
  have hQl : ∀ i, i ≤ n.L.length → (Q i).length ≤ qs.length + 1 + i * cntB d := by
   intro i
   induction i with
   | zero => intro _; rw [hQd]; simp
   | succ i ihh =>
    intro hi
    have h1 := ihh (by omega)
    have h2 := nodesF_len d (k + 1) _ (hn.2.2.2 _ (getD_mem' (show i < n.L.length by omega)))
    rw [hQd] at h1 ⊢
    rw [flat_take _ _ _ (by omega)]
    simp only [List.length_append, List.length_cons] at h1 ⊢
    rw [Nat.succ_mul]; omega
  repeat' (first | apply zC | apply zG | apply zD | apply zA | apply zB | refine zF (by simp only [go_sem, hQ0]; rfl) qR ?_ ?_ | refine stepcallYA [1000, 1001, 1002, 1003] Y (by first | (simp only [go_sem, hQ0]; done) | (simp only [go_sem, hQ0]; rfl)) han qR qR (by simp only [go_sem, hQ0]; first | done | rfl) (by first | (simp only [go_sem, hQ0]; done) | rfl) (by first | (simp only [go_sem, hQ0]; done) | (simp only [go_sem, hQ0]; rfl)) ?_ ⟨qs, (n, k), ⟨by omega, by omega⟩, rfl, rfl, rfl, rfl⟩ (by simp only [go_sem, hQ0]; rfl) ?_ | (refine zE (by simp only [go_sem, hQ0]; rfl) ?_ ?_ <;> intro hb <;> have hc := hb <;> (try simp only [bF] at hc) <;> (try (exfalso; simp at hc; done))) | exact True.intro | exact rfl | fail)
  refine zM [0, 1, 2, 3, 15, 16] (fun x : Nat × Unit => [(17, .int .i64 x.1)]) (fun x : Nat × Unit => [(1001, eDp (Q x.1)), (1002, eAq (Q x.1))]) (fun x : Nat × Unit => x.1 ≤ n.L.length) (fun x : Nat × Unit => n.L.length - x.1) (0, ()) (fun x => qS) ?_ qL qL ?_
  ·exact Nat.zero_le _
  rintro ⟨j, _⟩ g1
  simp only at g1
  repeat' (first | apply zC | apply zA | apply zB | refine zF qS qR ?_ ?_ | exact True.intro | exact rfl | fail)
  (refine zE qS ?_ ?_ <;> intro hb <;> have hc := hb <;> (try simp only [bF] at hc) <;> (try (exfalso; simp at hc; done)))
  ·have hj : j < n.L.length := by assumption
   have hx := hn.2.2.2 _ (getD_mem' hj)
   have hl := hQl j g1
   have hl3 : qs.length + 1 + j * cntB d + cntB d ≤ 10000 := by
    have : (j + 1) * cntB d ≤ 3 * cntB d := Nat.mul_le_mul_right _ (by omega)
    simp only [cntB] at hq
    rw [Nat.succ_mul] at this
    omega
   have en : nthSD (eNeeds n.L) j = eNeedU (n.L.getD j default) := by rw [eNeeds_nth _ _ hj, eNeed, nCells_eq]; rfl
   have hQ : Q j ++ nodesF d (k + 1) (n.L.getD j default) = Q (j + 1) := by rw [hQd, hQd, flat_take _ _ _ hj]; simp
   have e1 : IntKind.i64.wrap ((k : Int) + 1) = ((k + 1 : Nat) : Int) := by rw [w64]; omega
   repeat' (first | apply zC | apply zG | apply zD | apply zK | apply zA | apply zB | refine zF (by simp only [go_sem, en, hQ, e1]; rfl) qR ?_ ?_ | refine stepcallMA [1000, 1001, 1002, 1003] ih han qR qR (by simp only [go_sem, en, hQ, e1]; first | done | rfl) (by first | (simp only [go_sem, en, hQ, e1]; done) | rfl) (by first | (simp only [go_sem, en, hQ, e1]; done) | (simp only [go_sem, en, hQ, e1]; rfl)) ?_ ⟨Q j, n.L.getD j default, k+1, ⟨hx, by omega, by omega⟩, rfl, rfl, rfl, rfl⟩ (by simp only [go_sem, en, hQ, e1]; rfl) ?_ | (refine zE (by simp only [go_sem, en, hQ, e1]; rfl) ?_ ?_ <;> intro hb <;> have hc := hb <;> (try simp only [bF] at hc) <;> (try (exfalso; simp at hc; done))) | refine zR (j+1,()) ?_ ?_ ⟨rfl, qL, qL⟩ | exact True.intro | exact rfl | omega | exact qP | fail)
  ·have hQe : Q j = qs ++ nodesF (d + 1) k n := by rw [hQd, List.take_of_length_le (by omega)]; rfl
   rw [hQe]
   repeat' (first | apply zC | apply zA | apply zB | refine zF qS qR ?_ ?_ | refine zJ qR ?_ | exact True.intro | exact rfl | fail)
   refine yB qR qS ?_ ?_
   ·exact SLe.refl _
   ·(show subO _ _; simp only [go_sem]; repeat' (first | exact SLe.any1 | exact trivial | exact True.intro | exact SLe.refl _ | exact OLe.refl _ | exact ⟨_, rfl, OLe.refl _⟩ | refine ⟨_, rfl, ?_⟩ | refine OLe.var ?_ | (show SLeL _ _; refine ⟨?_, ?_⟩) | (show SLeL [] []; exact True.intro) | (refine SLe.int ?_; rw [w64]; omega) | refine SLe.int ?_ | refine SLe.bool ?_ | apply And.intro))
end Go.Sx
namespace Go.Sx
theorem run_st {P : Program} {F : List Nat} {w0 : Base} {fin : Exit → Act → World → Prop} {k : List It} {s s' : St} (h : s = s') (hn : Run P F w0 fin k s') : Run P F w0 fin k s := h ▸ hn
theorem run_keep {P : Program} {F : List Nat} {w0 : Base} {fin : Exit → Act → World → Prop} {k : List It} {s : St} (ns : List Nat) {l : List (Nat × SD)} (hl : keepS s.sl ns = l) (hn : Run P F w0 fin k ⟨s.n, s.nx, l, s.ow⟩) : Run P F w0 fin k s := fun h e a w D =>
 hn h e a w (hl ▸ D.weak' (s' := ⟨s.n, s.nx, keepS s.sl ns, s.ow⟩) rfl (subS_keep ns) fun k o h => ⟨o, h, OLe.refl o⟩)
open Go.Proofs Go.RowKit
attribute [local irreducible] Run RunL RunD OpT SLe0 SLe OLe
set_option maxHeartbeats 2000000
set_option maxRecDepth 8000
set_option maxHeartbeats 20000000
@[go_sem] def nCellsU (n : Need) : List SD := [.int .i64 n.Kind, .int .i64 n.N, .int .i64 n.Min, eList 2 eCourse n.Set, .list 5 n.L.length fun i => nthSD (eNeeds n.L) i]
theorem K221 (r : LR) (h0 : Hp) (bl : List Nat) (hbl : bl.length = 4) (Y : YR r bl h0) (d : Nat) : FnMA Tryz.prog 221 h0 bl (fun ds os v os' => ∃ (qs : List (Need × Nat)) (n : Need), (NOk d n ∧ 1 + d ≤ 100 ∧ qs.length + cntB d ≤ 10000) ∧ ds = [.yld r.l, .fp (nCellsU n)] ∧ os = [eVl, eDp qs, eAq qs, recO r .ready none] ∧ v = .tup [] ∧ os' = enumO 1000 [eVl, eDp (qs ++ nodesF d 1 n), eAq (qs ++ nodesF d 1 n), recO r .ready none]) := by
 have K := K222 r h0 bl hbl Y d
 obtain ⟨b0, b1, b2, b3, rfl⟩ : ∃ b0 b1 b2 b3, bl = [b0, b1, b2, b3] := by
  match bl, hbl with
  | [b0, b1, b2, b3], _ => exact ⟨b0, b1, b2, b3, rfl⟩
 refine fn_introMA Tryz.call221 Tryz.func221 rfl Tryz.ntmps221 ?_
 rintro ds os d os' ⟨qs, n, ⟨hn, hk, hq⟩, rfl, rfl, rfl, rfl⟩
 refine ⟨by simp, by simp, fun F w0 han => ?_⟩
 repeat' (first | apply zA | apply zB | refine zF qS qR ?_ ?_ | refine stepcallMA [1000, 1001, 1002, 1003] K han qR qR qD (by first | (simp only [go_sem]; done) | rfl) qF ?_ ⟨qs, n, 1, ⟨hn, hk, hq⟩, rfl, rfl, rfl, rfl⟩ qS ?_ | exact True.intro | exact rfl | fail)
 refine run_endM qR ?_ ?_
 ·repeat' (first | exact SLe.refl _ | fail)
 ·(show subO _ _; simp only [go_sem]; repeat' (first | exact SLe.any1 | exact trivial | exact True.intro | exact SLe.refl _ | exact OLe.refl _ | exact ⟨_, rfl, OLe.refl _⟩ | refine ⟨_, rfl, ?_⟩ | refine OLe.var ?_ | (show SLeL _ _; refine ⟨?_, ?_⟩) | (show SLeL [] []; exact True.intro) | (refine SLe.int ?_; rw [w64]; omega) | refine SLe.int ?_ | refine SLe.bool ?_ | apply And.intro))
theorem K185 : FnOK Tryz.prog 185 (fun ds d => ∃ n : Need, ds = [eNeedU n] ∧ d = .fn 221 [.fp (nCellsU n)]) := by
 refine fn_intro Tryz.call185 Tryz.func185 rfl Tryz.ntmps185 ?_
 rintro ds d ⟨n, rfl, rfl⟩
 refine ⟨by simp, fun w0 => ?_⟩
 repeat' (first | refine zN 0 qS ?_ | apply zC | apply zA | apply zB | refine zF qS qR ?_ ?_ | refine zI qR ?_ | exact True.intro | exact rfl | exact SLe0.pure rfl | fail)
end Go.Sx
