/- Part of the proof that the laws of the judge return true for every input: J27. -/
import Derived.Test.YtmbocmonhcplhaaGreatJ26
set_option linter.all false
namespace Go.Sx
open Go.Proofs Go.RowKit
attribute [local irreducible] Run RunL RunD OpT SLe0 SLe OLe
set_option maxHeartbeats 2000000
set_option maxRecDepth 8000
set_option maxHeartbeats 20000000
@[go_sem] def eItm (x : Need × Nat) : SD := .agg [.int .i64 x.1.Kind, .int .i64 x.1.N, .int .i64 x.1.Min, eList 2 eCourse x.1.Set, .list 5 x.1.L.length (fun i => nthSD (eNeeds x.1.L) i), .int .i64 (x.2 : Nat)]
@[go_sem] def eIq (qs : List (Need × Nat)) : OB := .acc 221 6 qs.length (fun i => eItm (qs.getD i default))
theorem K151 (d : Nat) : FnM Tryz.prog 151 (fun ds os v os' => ∃ (qs : List (Need × Nat)) (n : Need) (k : Nat), (NOk d n ∧ k + d ≤ 100 ∧ qs.length + (nodesF d k n).length ≤ 10000) ∧ ds = [.acc 1000, eNeedU n, eInt (k : Nat)] ∧ os = [eIq qs] ∧ v = .tup [.acc 1000, .bool true] ∧ os' = [(1000, eIq (qs ++ nodesF d k n))]) := by
 induction d with
 | zero =>
  refine fn_introM Tryz.call151 Tryz.func151 rfl Tryz.ntmps151 ?_
  rintro ds os d os' ⟨qs, n, k, ⟨hn, hk, hq⟩, rfl, rfl, rfl, rfl⟩
  refine ⟨by simp, fun F w0 => ?_⟩
  have c1 := nodesF_pos 0 k n
  have hL : n.L = [] := hn.2
  have f1 : decide ((100 : Int) < ((k : Nat) : Int)) = false := decide_eq_false (by omega)
  have f2 : decide ((10000 : Int) ≤ ((qs.length : Nat) : Int)) = false := decide_eq_false (by omega)
  repeat' (first | apply zC | apply zG | apply zD | apply zA | apply zB | refine zF (by simp only [go_sem, hL, f1, f2]; rfl) qR ?_ ?_ | (refine zE (by simp only [go_sem, hL, f1, f2]; rfl) ?_ ?_ <;> intro hb <;> have hc := hb <;> (try simp only [bF] at hc) <;> (try (exfalso; simp at hc; done))) | exact True.intro | exact rfl | exact qP | fail)
  refine zR (o' := eIq (qs ++ [(n, k)])) 1000 qR (ole_snoc eItm qs (n, k) ?_) ?_
  ·simp only [nthSD, go_sem, hL]
  refine zN [2, 4, 6, 7] (fun x : Nat × Unit => [(8, .int .i64 x.1), (0, .acc 1000)]) (fun x : Nat × Unit => [(1000, eIq (qs ++ [(n, k)]))]) (fun x : Nat × Unit => x.1 ≤ 0) (fun x : Nat × Unit => 0 - x.1) (0, ()) (fun x => qS) ?_ qL qL ?_
  ·exact Nat.le_refl _
  rintro ⟨j, _⟩ g1
  simp only at g1
  repeat' (first | apply zC | apply zA | apply zB | refine zF (by simp only [go_sem, hL]; rfl) qR ?_ ?_ | (refine zE (by simp only [go_sem, hL]; rfl) ?_ ?_ <;> intro hb <;> have hc := hb <;> (try simp only [bF] at hc) <;> (try (exfalso; simp at hc; done))) | refine zK qR ?_ | exact True.intro | exact rfl | fail)
  refine yC qR qS ?_ ?_
  ·exact SLe.refl _
  ·(show subO _ _; simp only [go_sem]; repeat' (first | exact SLe.any1 | exact trivial | exact True.intro | exact SLe.refl _ | exact OLe.refl _ | exact ⟨_, rfl, OLe.refl _⟩ | refine ⟨_, rfl, ?_⟩ | refine OLe.var ?_ | (show SLeL _ _; refine ⟨?_, ?_⟩) | (show SLeL [] []; exact True.intro) | (refine SLe.int ?_; rw [w64]; omega) | refine SLe.int ?_ | refine SLe.bool ?_ | apply And.intro))
 | succ d ih =>
  refine fn_introM Tryz.call151 Tryz.func151 rfl Tryz.ntmps151 ?_
  rintro ds os d os' ⟨qs, n, k, ⟨hn, hk, hq⟩, rfl, rfl, rfl, rfl⟩
  refine ⟨by simp, fun F w0 => ?_⟩
  have c2 := nodesF_succ d k n
  have c3 := flat_ge d (k + 1) n.L
  have f1 : decide ((100 : Int) < ((k : Nat) : Int)) = false := decide_eq_false (by omega)
  have f2 : decide ((10000 : Int) ≤ ((qs.length : Nat) : Int)) = false := decide_eq_false (by omega)
  obtain ⟨Q, hQd⟩ : ∃ Q : Nat → List (Need × Nat), ∀ i, Q i = qs ++ ((n, k) :: (n.L.take i).flatMap (nodesF d (k + 1))) := ⟨_, fun _ => rfl⟩
  have hQ0 : qs ++ [(n, k)] = Q 0 := by rw [hQd]; simp
  have hQl : ∀ i, i < n.L.length → (Q i).length + (nodesF d (k + 1) (n.L.getD i default)).length ≤ qs.length + (nodesF (d + 1) k n).length := by
   intro i hi
   have := flat_room (nodesF d (k + 1)) n.L i hi
   rw [hQd, c2]
   simp only [List.length_append, List.length_cons]
   omega
  repeat' (first | apply zC | apply zG | apply zD | apply zA | apply zB | refine zF (by simp only [go_sem, f1, f2]; rfl) qR ?_ ?_ | (refine zE (by simp only [go_sem, f1, f2]; rfl) ?_ ?_ <;> intro hb <;> have hc := hb <;> (try simp only [bF] at hc) <;> (try (exfalso; simp at hc; done))) | exact True.intro | exact rfl | exact qP | fail)
  refine zR (o' := eIq (qs ++ [(n, k)])) 1000 qR (ole_snoc eItm qs (n, k) rfl) ?_
  rw [hQ0]
  refine zN [2, 4, 6, 7] (fun x : Nat × Unit => [(8, .int .i64 x.1), (0, .acc 1000)]) (fun x : Nat × Unit => [(1000, eIq (Q x.1))]) (fun x : Nat × Unit => x.1 ≤ n.L.length) (fun x : Nat × Unit => n.L.length - x.1) (0, ()) (fun x => qS) ?_ qL qL ?_
  ·exact Nat.zero_le _
  rintro ⟨j, _⟩ g1
  simp only at g1
  repeat' (first | apply zC | apply zA | apply zB | refine zF qS qR ?_ ?_ | exact True.intro | exact rfl | fail)
  (refine zE qS ?_ ?_ <;> intro hb <;> have hc := hb <;> (try simp only [bF] at hc) <;> (try (exfalso; simp at hc; done)))
  ·have hj : j < n.L.length := by assumption
   have hx := hn.2 _ (getD_mem' hj)
   have hl := hQl j hj
   have en : nthSD (eNeeds n.L) j = eNeedU (n.L.getD j default) := by rw [eNeeds_nth _ _ hj, eNeed, nCells_eq]; rfl
   have hQ : Q j ++ nodesF d (k + 1) (n.L.getD j default) = Q (j + 1) := by rw [hQd, hQd, flat_take _ _ _ hj]; simp
   have e1 : IntKind.i64.wrap ((k : Int) + 1) = ((k + 1 : Nat) : Int) := by rw [w64]; omega
   repeat' (first | apply zC | apply zG | apply zD | apply zL | apply zA | apply zB | refine zF (by simp only [go_sem, en, hQ, e1]; rfl) qR ?_ ?_ | refine zW [1000] ih qR (by simp only [go_sem, en, hQ, e1]; first | done | rfl) (by simp only [go_sem, en, hQ, e1]) (by first | (simp only [go_sem, en, hQ, e1]; done) | (simp only [go_sem, en, hQ, e1]; rfl)) ?_ ⟨Q j, n.L.getD j default, k+1, ⟨hx, by omega, by omega⟩, rfl, rfl, rfl, rfl⟩ (by simp only [go_sem, en, hQ, e1]; rfl) ?_ | (refine zE (by simp only [go_sem, en, hQ, e1]; rfl) ?_ ?_ <;> intro hb <;> have hc := hb <;> (try simp only [bF] at hc) <;> (try (exfalso; simp at hc; done))) | refine zS (j+1,()) ?_ ?_ ⟨rfl, qL, qL⟩ | exact True.intro | exact rfl | omega | exact qP | fail)
  ·have hQe : Q j = qs ++ nodesF (d + 1) k n := by rw [hQd, List.take_of_length_le (by omega)]; rfl
   rw [hQe]
   repeat' (first | apply zC | apply zA | apply zB | refine zF qS qR ?_ ?_ | refine zK qR ?_ | exact True.intro | exact rfl | fail)
   refine yC qR qS ?_ ?_
   ·exact SLe.refl _
   ·(show subO _ _; simp only [go_sem]; repeat' (first | exact SLe.any1 | exact trivial | exact True.intro | exact SLe.refl _ | exact OLe.refl _ | exact ⟨_, rfl, OLe.refl _⟩ | refine ⟨_, rfl, ?_⟩ | refine OLe.var ?_ | (show SLeL _ _; refine ⟨?_, ?_⟩) | (show SLeL [] []; exact True.intro) | (refine SLe.int ?_; rw [w64]; omega) | refine SLe.int ?_ | refine SLe.bool ?_ | apply And.intro))
@[go_sem] def eIl (qs : List (Need × Nat)) : SD := .list 6 qs.length fun i => eItm (qs.getD i default)
theorem K151n (d : Nat) (hd : 1 + d ≤ 100) : FnOK Tryz.prog 151 (fun ds v => ∃ n : Need, WOk d n ∧ ds = [.nils, eNeedU n, eInt 1] ∧ v = .tup [eIl (nodesF d 1 n), .bool true]) := by
 refine fn_intro Tryz.call151 Tryz.func151 rfl Tryz.ntmps151 ?_
 rintro ds v ⟨n, ⟨hn, hcn⟩, rfl, rfl⟩
 refine ⟨by simp, fun w0 => ?_⟩
 cases d with
 | zero =>
  have hL : n.L = [] := hn.2
  refine yF 0 221 6 (fun i => eItm (([] : List (Need × Nat)).getD i default)) rfl rfl rfl ?_
  repeat' (first | apply zC | apply zG | apply zD | apply zA | apply zB | refine zF (by simp only [go_sem, hL]; rfl) qR ?_ ?_ | (refine zE (by simp only [go_sem, hL]; rfl) ?_ ?_ <;> intro hb <;> have hc := hb <;> (try simp only [bF] at hc) <;> (try (exfalso; simp at hc; done))) | exact True.intro | exact rfl | exact qP | fail)
  refine zR (o' := eIq ([] ++ [(n, 1)])) 0 qR (ole_snoc eItm [] (n, 1) ?_) ?_
  ·simp only [nthSD, go_sem, hL]; rfl
  refine zN [2, 4, 6, 7] (fun x : Nat × Unit => [(8, .int .i64 x.1), (0, .acc 0)]) (fun x : Nat × Unit => [(0, eIq [(n, 1)])]) (fun x : Nat × Unit => x.1 ≤ 0) (fun x : Nat × Unit => 0 - x.1) (0, ()) (fun x => qS) ?_ qL qL ?_
  ·exact Nat.le_refl _
  rintro ⟨j, _⟩ g1
  simp only at g1
  repeat' (first | refine zO 0 qS ?_ | apply zC | apply zA | apply zB | refine zF (by simp only [go_sem, hL]; rfl) qR ?_ ?_ | (refine zE (by simp only [go_sem, hL]; rfl) ?_ ?_ <;> intro hb <;> have hc := hb <;> (try simp only [bF] at hc) <;> (try (exfalso; simp at hc; done))) | refine yA qR (by simp only [go_sem, hL]; rfl) ?_ | refine zK qR ?_ | exact True.intro | exact rfl | exact SLe0.pure rfl | fail)
  all_goals skip
 | succ d =>
  have ih := K151 d
  have c2 := nodesF_succ d 1 n
  have c3 := flat_ge d (1 + 1) n.L
  obtain ⟨Q, hQd⟩ : ∃ Q : Nat → List (Need × Nat), ∀ i, Q i = (n, 1) :: (n.L.take i).flatMap (nodesF d (1 + 1)) := ⟨_, fun _ => rfl⟩
  have hQ0 : [] ++ [(n, 1)] = Q 0 := by rw [hQd]; simp
  have hQl : ∀ i, i < n.L.length → (Q i).length + (nodesF d (1 + 1) (n.L.getD i default)).length ≤ (nodesF (d + 1) 1 n).length := by
   intro i hi
   have := flat_room (nodesF d (1 + 1)) n.L i hi
   rw [hQd, c2]
   simp only [List.length_cons]
   omega
  refine yF 0 221 6 (fun i => eItm (([] : List (Need × Nat)).getD i default)) rfl rfl rfl ?_
  repeat' (first | apply zC | apply zG | apply zD | apply zA | apply zB | refine zF qS qR ?_ ?_ | (refine zE qS ?_ ?_ <;> intro hb <;> have hc := hb <;> (try simp only [bF] at hc) <;> (try (exfalso; simp at hc; done))) | exact True.intro | exact rfl | exact qP | fail)
  refine zR (o' := eIq ([] ++ [(n, 1)])) 0 qR (ole_snoc eItm [] (n, 1) rfl) ?_
  rw [hQ0]
  refine zN [2, 4, 6, 7] (fun x : Nat × Unit => [(8, .int .i64 x.1), (0, .acc 0)]) (fun x : Nat × Unit => [(0, eIq (Q x.1))]) (fun x : Nat × Unit => x.1 ≤ n.L.length) (fun x : Nat × Unit => n.L.length - x.1) (0, ()) (fun x => qS) ?_ qL qL ?_
  ·exact Nat.zero_le _
  rintro ⟨j, _⟩ g1
  simp only at g1
  repeat' (first | apply zC | apply zA | apply zB | refine zF qS qR ?_ ?_ | exact True.intro | exact rfl | fail)
  (refine zE qS ?_ ?_ <;> intro hb <;> have hc := hb <;> (try simp only [bF] at hc) <;> (try (exfalso; simp at hc; done)))
  ·have hj : j < n.L.length := by assumption
   have hx := hn.2 _ (getD_mem' hj)
   have hl := hQl j hj
   have en : nthSD (eNeeds n.L) j = eNeedU (n.L.getD j default) := by rw [eNeeds_nth _ _ hj, eNeed, nCells_eq]; rfl
   have hQ : Q j ++ nodesF d (1 + 1) (n.L.getD j default) = Q (j + 1) := by rw [hQd, hQd, flat_take _ _ _ hj]; simp
   have e1 : IntKind.i64.wrap (1 + 1) = ((1 + 1 : Nat) : Int) := rfl
   repeat' (first | apply zC | apply zG | apply zD | apply zL | apply zA | apply zB | refine zF (by simp only [go_sem, en, hQ, e1]; rfl) qR ?_ ?_ | refine zW [0] ih qR (by simp only [go_sem, en, hQ, e1]; first | done | rfl) (by simp only [go_sem, en, hQ, e1]) (by first | (simp only [go_sem, en, hQ, e1]; done) | (simp only [go_sem, en, hQ, e1]; rfl)) ?_ ⟨Q j, n.L.getD j default, 1+1, ⟨hx, by omega, by omega⟩, rfl, rfl, rfl, rfl⟩ (by simp only [go_sem, en, hQ, e1]; rfl) ?_ | (refine zE (by simp only [go_sem, en, hQ, e1]; rfl) ?_ ?_ <;> intro hb <;> have hc := hb <;> (try simp only [bF] at hc) <;> (try (exfalso; simp at hc; done))) | refine zS (j+1,()) ?_ ?_ ⟨rfl, qL, qL⟩ | exact True.intro | exact rfl | omega | exact qP | fail)
  ·have hQe : Q j = nodesF (d + 1) 1 n := by rw [hQd, List.take_of_length_le (by omega)]; rfl
   rw [hQe]
   repeat' (first | refine zO 0 qS ?_ | apply zC | apply zA | apply zB | refine zF qS qR ?_ ?_ | refine yA qR qS ?_ | refine zK qR ?_ | exact True.intro | exact rfl | exact SLe0.pure rfl | fail)
   all_goals skip
def errF : List (Need × Nat) → Int
 | [] => 0
 | x :: r => if oneR x.1 = 0 then errF r else oneR x.1
def cntL : List (Need × Nat) → Nat
 | [] => 0
 | x :: r => (if leafR x.1 then 1 else 0) + cntL r
theorem lvs_len : ∀ qs : List (Need × Nat), (lvs qs).length = cntL qs
 | [] => rfl
 | x :: r => by
  have := lvs_len r
  simp only [lvs] at this
  simp only [lvs, cntL, List.map_cons, List.filter_cons]
  split <;> simp [this] <;> omega
def chkQ (qs : List (Need × Nat)) : Int :=
 if decide (24 < (qs.length : Int)) || decide (5 < ((deepQ qs : Nat) : Int)) || !(decide (1 ≤ ((cntL qs : Nat) : Int)) && decide (((cntL qs : Nat) : Int) ≤ 8)) then 2 else errF qs
theorem deepQ_ge (qs : List (Need × Nat)) (x : Need × Nat) (h : x ∈ qs) : x.2 ≤ deepQ qs := by
 have key : ∀ (l : List (Need × Nat)) (m : Nat), m ≤ l.foldl (fun m x => max m x.2) m ∧ ∀ y ∈ l, y.2 ≤ l.foldl (fun m x => max m x.2) m := by
  intro l
  induction l with
  | nil => intro m; exact ⟨Nat.le_refl _, fun y hy => by cases hy⟩
  | cons z r ih =>
   intro m
   obtain ⟨h1, h2⟩ := ih (max m z.2)
   refine ⟨by simp only [List.foldl_cons]; omega, fun y hy => ?_⟩
   simp only [List.foldl_cons]
   rcases List.mem_cons.1 hy with rfl | hy
   ·omega
   ·exact h2 y hy
 exact (key qs 0).2 x h
theorem deepQ_le (qs : List (Need × Nat)) (b : Nat) (h : ∀ x ∈ qs, x.2 ≤ b) : deepQ qs ≤ b := by
 have key : ∀ (l : List (Need × Nat)) (m : Nat), m ≤ b → (∀ y ∈ l, y.2 ≤ b) → l.foldl (fun m x => max m x.2) m ≤ b := by
  intro l
  induction l with
  | nil => intro m hm _; exact hm
  | cons z r ih =>
   intro m hm hl
   simp only [List.foldl_cons]
   exact ih _ (by have := hl z (List.mem_cons_self ..); omega) fun y hy => hl y (List.mem_cons_of_mem _ hy)
 exact key qs 0 (Nat.zero_le _) h
theorem K108 (d : Nat) (hd : 1 + d ≤ 100) : FnOK Tryz.prog 108 (fun ds v => ∃ n : Need, WOk d n ∧ ds = [eNeedU n] ∧ v = eInt (chkQ (nodesF d 1 n))) := by
 have K := K151n d hd
 refine fn_intro Tryz.call108 Tryz.func108 rfl Tryz.ntmps108 ?_
 rintro ds d ⟨n, hn, rfl, rfl⟩
 refine ⟨by simp, fun w0 => ?_⟩
 have hlen := hn.2
 have hok : ∀ x ∈ nodesF d 1 n, SetOk x.1 := fun x hx => (nodesF_ok d 1 n hn.1 x hx).1.set
 generalize hqs : nodesF d 1 n = qs at hlen hok
 by_cases m1 : (decide (24 < (qs.length : Int))) = true
 ·rw [chkQ, m1]
  repeat' (first | apply zC | apply zA | apply zB | refine zF (by simp only [go_sem, hqs, m1]; rfl) qR ?_ ?_ | refine zM K (by simp only [go_sem, hqs, m1]; first | done | rfl) ?_ ⟨n, hn, rfl, rfl⟩ (by simp only [go_sem, hqs, m1]; rfl) ?_ | (refine zE (by simp only [go_sem, hqs, m1]; rfl) ?_ ?_ <;> intro hb <;> have hc := hb <;> (try simp only [bF] at hc) <;> (try (exfalso; simp at hc; done))) | refine zI qR ?_ | exact True.intro | exact rfl | refine SLe0.int ?_ | exact qP | fail)
  all_goals skip
 ·have m1' := Bool.eq_false_iff.2 m1
  rw [chkQ, m1']
  repeat' (first | apply zC | apply zG | apply zD | apply zA | apply zB | refine zF (by simp only [go_sem, hqs, m1']; rfl) qR ?_ ?_ | refine zM K (by simp only [go_sem, hqs, m1']; first | done | rfl) ?_ ⟨n, hn, rfl, rfl⟩ (by simp only [go_sem, hqs, m1']; rfl) ?_ | (refine zE (by simp only [go_sem, hqs, m1']; rfl) ?_ ?_ <;> intro hb <;> have hc := hb <;> (try simp only [bF] at hc) <;> (try (exfalso; simp at hc; done))) | exact True.intro | exact rfl | exact qP | fail)
  simp only [decide_eq_true_eq] at m1
  refine zN [0, 1, 2, 3] (fun x : Nat × Nat => [(6, .int .i64 x.1), (5, .int .i64 x.2)]) (fun x : Nat × Nat => []) (fun x : Nat × Nat => (x.1 ≤ qs.length ∧ x.2 ≤ x.1) ∧ cntL qs = x.2 + cntL (qs.drop x.1) ∧ ∀ j, j < x.1 → (qs.getD j default).2 ≤ 5) (fun x : Nat × Nat => qs.length - x.1) (0, 0) (fun x => qS) ?_ qL qL ?_
  ·exact ⟨⟨Nat.zero_le _, Nat.zero_le _⟩, by simp, fun j h => absurd h (Nat.not_lt_zero _)⟩
  rintro ⟨j, c⟩ ⟨⟨g1, g3⟩, g2, g4⟩
  simp only at g1 g2 g3 g4
  repeat' (first | apply zC | apply zA | apply zB | refine zF qS qR ?_ ?_ | exact True.intro | exact rfl | fail)
  (refine zE qS ?_ ?_ <;> intro hb <;> have hc := hb <;> (try simp only [bF] at hc) <;> (try (exfalso; simp at hc; done)))
  ·have hj : j < qs.length := by assumption
   have hdrop : cntL (qs.drop j) = (if leafR (qs.getD j default).1 then 1 else 0) + cntL (qs.drop (j + 1)) := by
    rw [List.drop_eq_getElem_cons hj, cntL, List.getD_eq_getElem?_getD, List.getElem?_eq_getElem hj]; rfl
   by_cases h5 : 5 < (qs.getD j default).2
   ·have f5 : decide ((5 : Int) < (((qs.getD j default).2 : Nat) : Int)) = true := decide_eq_true (by omega)
    have f6 : decide ((5 : Int) < ((deepQ qs : Nat) : Int)) = true := decide_eq_true (by have := deepQ_ge qs _ (getD_mem' hj); omega)
    repeat' (first | apply zC | apply zG | apply zD | apply zA | apply zB | refine zF (by simp only [go_sem, f5]; rfl) qR ?_ ?_ | (refine zE (by simp only [go_sem, f5]; rfl) ?_ ?_ <;> intro hb <;> have hc := hb <;> (try simp only [bF] at hc) <;> (try (exfalso; simp at hc; done))) | refine zI qR ?_ | exact True.intro | exact rfl | refine SLe0.int ?_ | exact qP | fail)
    rw [f6]; rfl
   ·have f5 : decide ((5 : Int) < (((qs.getD j default).2 : Nat) : Int)) = false := decide_eq_false (by omega)
    have e1 : IntKind.i64.wrap ((c : Int) + 1) = ((c + 1 : Nat) : Int) := by rw [w64]; omega
    have g5 : ∀ i, i < j + 1 → (qs.getD i default).2 ≤ 5 := fun i hi => by
     by_cases hij : i = j
     ·subst hij; omega
     ·exact g4 i (by omega)
    cases hlf : leafR (qs.getD j default).1
    ·rw [hlf] at hdrop
     repeat' (first | apply zC | apply zG | apply zD | apply zL | apply zA | apply zB | refine zF (by simp only [go_sem, f5, hlf]; rfl) qR ?_ ?_ | refine zM K152 (by simp only [go_sem, f5, hlf]; first | done | rfl) ?_ ⟨_, rfl, rfl⟩ (by simp only [go_sem, f5, hlf]; rfl) ?_ | (refine zE (by simp only [go_sem, f5, hlf]; rfl) ?_ ?_ <;> intro hb <;> have hc := hb <;> (try simp only [bF] at hc) <;> (try (exfalso; simp at hc; done))) | refine zS (j+1,c) ?_ ?_ ⟨rfl, qL, qL⟩ | exact True.intro | exact rfl | omega | exact qP | fail)
     exact ⟨⟨by simp only; omega, by simp only; omega⟩, by rw [g2, hdrop]; simp, g5⟩
    ·rw [hlf] at hdrop
     repeat' (first | apply zC | apply zG | apply zD | apply zL | apply zA | apply zB | refine zF (by simp only [go_sem, f5, hlf, e1]; rfl) qR ?_ ?_ | refine zM K152 (by simp only [go_sem, f5, hlf, e1]; first | done | rfl) ?_ ⟨_, rfl, rfl⟩ (by simp only [go_sem, f5, hlf, e1]; rfl) ?_ | (refine zE (by simp only [go_sem, f5, hlf, e1]; rfl) ?_ ?_ <;> intro hb <;> have hc := hb <;> (try simp only [bF] at hc) <;> (try (exfalso; simp at hc; done))) | refine zS (j+1,c+1) ?_ ?_ ⟨rfl, qL, qL⟩ | exact True.intro | exact rfl | omega | exact qP | fail)
     exact ⟨⟨by simp only; omega, by simp only; omega⟩, by rw [g2, hdrop]; simp; omega, g5⟩
  ·have hz : cntL (qs.drop j) = 0 := by rw [List.drop_of_length_le (by omega)]; rfl
   rw [hz, Nat.add_zero] at g2
   have f6 : decide ((5 : Int) < ((deepQ qs : Nat) : Int)) = false := decide_eq_false (by
    have := deepQ_le qs 5 fun x hx => by
     obtain ⟨i, hi⟩ := List.getElem?_of_mem hx
     have hl := (List.getElem?_eq_some_iff.1 hi).1
     have := g4 i (by omega)
     rw [List.getD_eq_getElem?_getD, hi] at this
     exact this
    omega)
   rw [f6, g2]
   by_cases m2 : (decide (1 ≤ ((c : Nat) : Int)) && decide (((c : Nat) : Int) ≤ 8)) = true
   ·rw [m2]
    simp only [Bool.and_eq_true, decide_eq_true_eq] at m2
    have m3 : (((c : Nat) : Int) == 0) = false := by rw [beq_eq_false_iff_ne]; omega
    have m4 : decide (8 < ((c : Nat) : Int)) = false := decide_eq_false (by omega)
    repeat' (first | apply zC | apply zG | apply zD | apply zA | apply zB | refine zF (by simp only [go_sem, m3, m4]; rfl) qR ?_ ?_ | (refine zE (by simp only [go_sem, m3, m4]; rfl) ?_ ?_ <;> intro hb <;> have hc := hb <;> (try simp only [bF] at hc) <;> (try (exfalso; simp at hc; done))) | refine zK qR ?_ | exact True.intro | exact rfl | exact qP | fail)
    refine zN [0, 1, 2, 3] (fun x : Nat × Unit => [(7, .int .i64 x.1)]) (fun x : Nat × Unit => []) (fun x : Nat × Unit => x.1 ≤ qs.length ∧ errF qs = errF (qs.drop x.1)) (fun x : Nat × Unit => qs.length - x.1) (0, ()) (fun x => qS) ?_ qL qL ?_
    ·exact ⟨Nat.zero_le _, rfl⟩
    rintro ⟨i, _⟩ ⟨g6, g7⟩
    simp only at g6 g7
    repeat' (first | apply zC | apply zA | apply zB | refine zF qS qR ?_ ?_ | exact True.intro | exact rfl | fail)
    (refine zE qS ?_ ?_ <;> intro hb <;> have hc := hb <;> (try simp only [bF] at hc) <;> (try (exfalso; simp at hc; done)))
    ·have hi : i < qs.length := by assumption
     have hed : errF (qs.drop i) = if oneR (qs.getD i default).1 = 0 then errF (qs.drop (i + 1)) else oneR (qs.getD i default).1 := by
      rw [List.drop_eq_getElem_cons hi, errF, List.getD_eq_getElem?_getD, List.getElem?_eq_getElem hi]; rfl
     have hx := hok _ (getD_mem' hi)
     repeat' (first | apply zC | apply zG | apply zD | apply zL | apply zA | apply zB | refine zF qS qR ?_ ?_ | refine zM K153 qD ?_ ⟨(qs.getD i default).1, hx, rfl, rfl⟩ qS ?_ | (refine zE qS ?_ ?_ <;> intro hb <;> have hc := hb <;> (try simp only [bF] at hc) <;> (try (exfalso; simp at hc; done))) | refine zI qR ?_ | refine zS (i+1,()) ?_ ?_ ⟨rfl, qL, qL⟩ | exact True.intro | exact rfl | omega | refine SLe0.int ?_ | exact qP | fail)
     ·rw [g7, hed, if_neg hc]; rfl
     ·exact ⟨by simp only; omega, by rw [g7, hed, if_pos hc]⟩
    ·repeat' (first | apply zC | apply zA | apply zB | refine zF qS qR ?_ ?_ | refine zI qR ?_ | refine zK qR ?_ | exact True.intro | exact rfl | refine SLe0.int ?_ | fail)
     rw [g7, List.drop_of_length_le (by omega)]; rfl
   ·have m2' := Bool.eq_false_iff.2 m2
    rw [m2']
    repeat' (first | apply zC | apply zG | apply zD | apply zA | apply zB | refine zF qS qR ?_ ?_ | (refine zE qS ?_ ?_ <;> intro hb <;> have hc := hb <;> (try simp only [bF] at hc) <;> (try (exfalso; simp at hc; done))) | refine zI qR ?_ | refine zK qR ?_ | exact True.intro | exact rfl | refine SLe0.int ?_ | exact qP | fail)
    all_goals (exfalso; simp only [Bool.and_eq_true, decide_eq_true_eq] at m2; omega)
end Go.Sx
