/- Part of the proof that the laws of the judge return true for every input: J42. -/
import Derived.Test.YtmbocmonhcplhaaGreatJ41
import Derived.Test.YtmbocmonhcplhaaGreatJ40
import Derived.Test.YtmbocmonhcplhaaGreatS4
set_option linter.all false
namespace Go.Sx
open Go.Proofs Go.RowKit
attribute [local irreducible] Run RunL RunD OpT SLe0 SLe OLe
set_option maxHeartbeats 2000000
set_option maxRecDepth 8000
set_option maxRecDepth 40000
set_option maxHeartbeats 8000000
attribute [go_sem] asA asS recAs List.replicate_succ List.replicate_zero vslF
@[go_sem] theorem w01 : IntKind.i64.wrap (0 + 1) = 1 := rfl
@[go_sem] theorem w12 : IntKind.i64.wrap (1 + 1) = 2 := rfl
@[go_sem] theorem w23 : IntKind.i64.wrap (2 + 1) = 3 := rfl
@[go_sem] theorem w34 : IntKind.i64.wrap (3 + 1) = 4 := rfl
@[go_sem] theorem tn2 : Int.toNat 2 = 2 := rfl
@[go_sem] theorem tn3 : Int.toNat 3 = 3 := rfl
theorem tU182 : Tryz.prog.underlying 182 = some (.slice 106) := by kernel_rfl
theorem info106 : (Tryz.prog.info? 106).map (fun i => (i.zero, i.size, i.bytes)) = some (some (.slice none 0 0), 1, 24) := by kernel_rfl
@[go_sem] def eBs (M : Nat) (l : List (Nat → Bool)) : SD := .list 1 l.length fun i => eB M (l.getD i noneS)
theorem bs1 (M : Nat) (S : Nat → Bool) : SLe (.list 1 1 (nthSD [.list 1 M fun i => .bool (S i)])) (.list 1 [S].length fun i => .list 1 M fun j => .bool ([S].getD i noneS j)) := SLe.list rfl fun i hi => by
 have : i = 0 := by omega
 subst this; rfl
theorem bs_nth (M : Nat) : ∀ (l : List (Nat → Bool)) (i : Nat), i < l.length → nthSD (l.map fun S => SD.list 1 M fun i => .bool (S i)) i = .list 1 M fun j => .bool (l.getD i noneS j)
 | [], i, h => absurd h (Nat.not_lt_zero i)
 | S :: r, 0, _ => rfl
 | S :: r, i + 1, h => by
  simp only [List.map_cons, nthSD, List.getD_cons_succ]
  exact bs_nth M r i (by simpa using h)
theorem bs_list (M : Nat) (l : List (Nat → Bool)) : SLe (.list 1 l.length (nthSD (l.map fun S => SD.list 1 M fun i => .bool (S i)))) (.list 1 l.length fun i => .list 1 M fun j => .bool (l.getD i noneS j)) := SLe.list rfl fun i hi => bs_nth M l i hi
theorem set_or (j : Nat) (U b : Nat → Bool) (i : Nat) : setF j (.bool (U j || b j)) (fun i => .bool (U i)) i = .bool (U i || (decide (i = j) && b i)) := by
 simp only [setF]
 by_cases h : i = j
 ·subst h; simp
 ·simp [h]
theorem lt_succ_or (z j : Nat) (b : Bool) : ((decide (z < j) && b) || (decide (z = j) && b)) = (decide (z < j + 1) && b) := by
 rw [← Bool.and_or_distrib_right]
 congr 1
 rw [Bool.eq_iff_iff, Bool.or_eq_true, decide_eq_true_eq, decide_eq_true_eq, decide_eq_true_eq]
 omega
theorem step_eq {M : Nat} {A : (Nat → Bool) → Nat → Bool} (hA : ∀ S S' : Nat → Bool, (∀ z, z < M → S z = S' z) → ∀ z, z < M → A S z = A S' z) {As : List ((Nat → Bool) → Nat → Bool)} {S : Nat → Bool} (met T : List (Nat → Bool)) (h1 : met.length = (foldM As [S]).length) (h2 : ∀ i z, z < M → met.getD i noneS z = (foldM As [S]).getD i noneS z) (hT : T.length = met.length + 1)
  (h : ∀ i, i < T.length → ∀ z, z < M → T.getD i noneS z = if i = 0 then met.getD 0 noneS z else (met.getD i noneS z || A (met.getD (i - 1) noneS) z)) : T.length = (foldM (As ++ [A]) [S]).length ∧ ∀ i z, z < M → T.getD i noneS z = (foldM (As ++ [A]) [S]).getD i noneS z := by
 rw [foldM_snoc]
 refine ⟨by rw [stepM_len, hT, h1], fun i z hz => ?_⟩
 by_cases hi : i < (foldM As [S]).length + 1
 ·rw [stepM_get _ _ _ hi, h i (by omega) z hz]
  split
  ·exact h2 0 z hz
  ·simp only [orS]
   rw [h2 i z hz, hA _ _ (fun z hz => h2 (i - 1) z hz) z hz]
 ·rw [stepM_get' _ _ _ hi, List.getD_eq_getElem?_getD, List.getElem?_eq_none (by omega)]; rfl
def acS (met : List (Nat → Bool)) (q m z : Nat) : Bool := (List.range m).any fun t => decide (q ≤ t) && met.getD t noneS z
theorem acS_le (met : List (Nat → Bool)) (q m z : Nat) (h : m ≤ q) : acS met q m z = false := by
 simp only [acS, List.any_eq_false, List.mem_range, Bool.and_eq_true, decide_eq_true_eq]
 intro t ht; omega
theorem acS_zero (met : List (Nat → Bool)) (q z : Nat) : acS met q q z = false := acS_le met q q z (Nat.le_refl _)
theorem acS_succ (met : List (Nat → Bool)) (q m : Nat) (h : q ≤ m) (z : Nat) : acS met q (m + 1) z = (acS met q m z || met.getD m noneS z) := by
 simp [acS, List.range_succ, h]
theorem some_acS {M : Nat} {As : List ((Nat → Bool) → Nat → Bool)} {S : Nat → Bool} {met : List (Nat → Bool)} {q z : Nat} (hz : z < M) (h1 : met.length = (foldM As [S]).length) (h2 : ∀ i z, z < M → met.getD i noneS z = (foldM As [S]).getD i noneS z) : someS As (q : Int) S z = acS met q met.length z := by
 unfold someS
 rw [Bool.eq_iff_iff, any_drop]
 simp only [acS, List.any_eq_true, List.mem_range, Bool.and_eq_true, decide_eq_true_eq]
 constructor
 ·rintro ⟨i, q1, q2, q3⟩
  refine ⟨i, by omega, ?_, by rw [h2 i z hz]; exact q3⟩
  revert q1; split <;> omega
 ·rintro ⟨i, q1, q2, q3⟩
  refine ⟨i, ?_, by omega, by rw [← h2 i z hz]; exact q3⟩
  split <;> omega
theorem K51s (Pm : Need → Prop) (A : Scale → List Ach → Nat → Need → (Nat → Bool) → Nat → Bool) (hA0 : ∀ s l M m, l.length ≤ 10 → M = 2 ^ l.length → ∀ (S S' : Nat → Bool), (∀ z, z < M → S z = S' z) → ∀ z, z < M → A s l M m S z = A s l M m S' z)
  (ih : FnOK Tryz.prog 51 (fun ds v => ∃ (n : Need) (s : Scale) (l : List Ach) (M : Nat) (S : Nat → Bool), (Pm n ∧ l.length ≤ 10 ∧ M = 2 ^ l.length) ∧ ds = [eNeedU n, eScale s, eList 8 eAch l, eB M S] ∧ v = eB M (A s l M n S))) :
  FnOK Tryz.prog 51 (fun ds v => ∃ (n : Need) (s : Scale) (l : List Ach) (M : Nat) (S : Nat → Bool), (((∀ m ∈ n.L, Pm m) ∧ n.L.length ≤ 3 ∧ 0 ≤ n.N) ∧ l.length ≤ 10 ∧ M = 2 ^ l.length) ∧ ds = [eNeedU n, eScale s, eList 8 eAch l, eB M S] ∧ v = eB M (if n.Kind = 1 ∨ n.Kind = 2 then leafS n s l M S else someS (n.L.map (A s l M)) (if n.Kind = 3 then (n.L.length : Int) else n.N) S)) := by
 refine fn_intro Tryz.call51 Tryz.func51 rfl Tryz.ntmps51 ?_
 rintro ds d ⟨n, s, l, M, S, ⟨⟨hP, hl3, hN⟩, hl, hMe⟩, rfl, rfl⟩
 refine ⟨by simp, fun w0 => ?_⟩
 have hM : M ≤ 1024 := by rw [hMe]; exact Nat.pow_le_pow_right (n := 2) (by omega) hl
 by_cases hk : n.Kind = 1 ∨ n.Kind = 2
 ·have hk1 : ((n.Kind == 1) || (n.Kind == 2)) = true := by rw [Bool.or_eq_true, beq_iff_eq, beq_iff_eq]; exact hk
  rw [if_pos hk]
  repeat' (first | apply zC | apply zA | apply zB | refine zF (by simp only [go_sem, hk1]; rfl) qR ?_ ?_ | refine zL K112 (by simp only [go_sem, hk1]; first | done | rfl) ?_ ⟨n, s, l, M, S, ⟨hl, hMe⟩, rfl, rfl⟩ (by simp only [go_sem, hk1]; rfl) ?_ | (refine zE (by simp only [go_sem, hk1]; rfl) ?_ ?_ <;> intro hb <;> have hc := hb <;> (try simp only [bF] at hc) <;> (try (exfalso; simp at hc; done))) | refine zI qR ?_ | exact True.intro | exact rfl | exact SLe0.pure rfl | exact qP | fail)
  all_goals skip
 ·have hk1 : ((n.Kind == 1) || (n.Kind == 2)) = false := by
   rw [← Bool.not_eq_true, Bool.or_eq_true, beq_iff_eq, beq_iff_eq]; exact hk
  rw [if_neg hk]
  obtain ⟨least, hle⟩ : ∃ least : Int, least = if n.Kind = 3 then (n.L.length : Int) else n.N := ⟨_, rfl⟩
  have hl0 : 0 ≤ least := by rw [hle]; split <;> omega
  rw [← hle]
  repeat' (first | apply zC | apply zA | apply zB | refine zF (by simp only [go_sem, hk1]; rfl) qR ?_ ?_ | exact True.intro | exact rfl | exact qP | fail)
  (refine zE qS ?_ ?_ <;> intro hb <;> have hc := hb <;> (try simp only [bF] at hc) <;> (try (exfalso; simp at hc; done)))
  repeat' (first | apply zC | apply zG | apply zA | apply zB | refine zF qS qR ?_ ?_ | exact True.intro | exact rfl | fail)
  refine run_condJ [2, 3, 4, 5] [(9, .int .i64 least)] [] 2 qS qS (fun hb k' hk => ?_) (fun hb k' hk => ?_) ?_
  ·have h3 : n.Kind = 3 := by simpa using hb
   rw [if_pos h3] at hle
   subst hle
   repeat' (first | apply zA | apply zB | refine zF qS qR ?_ ?_ | exact True.intro | exact rfl | fail)
   refine run_into hk ⟨rfl, qL, qL⟩
  ·have h3 : ¬ n.Kind = 3 := by simpa using hb
   rw [if_neg h3] at hle
   subst hle
   repeat' (first | apply zG | fail)
   refine run_into hk ⟨rfl, qL, qL⟩
  clear hk1 hle
  repeat' (first | apply zC | apply zD | apply zA | apply zB | refine zF qS qR ?_ ?_ | exact True.intro | exact rfl | fail)
  refine zM [2, 3, 4, 5, 9] (fun x : Nat × List (Nat → Bool) => [(11, .int .i64 x.1), (10, eBs M x.2)]) (fun x : Nat × List (Nat → Bool) => []) (fun x : Nat × List (Nat → Bool) => (x.1 ≤ n.L.length ∧ x.2.length = x.1 + 1) ∧ x.2.length = (foldM ((n.L.take x.1).map (A s l M)) [S]).length ∧ ∀ i z, z < M → x.2.getD i noneS z = (foldM ((n.L.take x.1).map (A s l M)) [S]).getD i noneS z) (fun x : Nat × List (Nat → Bool) => n.L.length - x.1) (0, [S]) (fun x => qS) ?_ (by simp only [go_sem]; repeat' (first | exact trivial | exact True.intro | exact SLe.refl _ | exact OLe.refl _ | exact ⟨_, rfl, OLe.refl _⟩ | refine ⟨_, rfl, ?_⟩ | refine OLe.var ?_ | (show SLeL _ _; refine ⟨?_, ?_⟩) | (show SLeL [] []; exact True.intro) | (refine SLe.int ?_; rw [w64]; omega) | refine SLe.int ?_ | refine SLe.bool ?_ | apply And.intro | (exact bs1 _ _))) (by simp only [go_sem]; repeat' (first | exact trivial | exact True.intro | exact SLe.refl _ | exact OLe.refl _ | exact ⟨_, rfl, OLe.refl _⟩ | refine ⟨_, rfl, ?_⟩ | refine OLe.var ?_ | (show SLeL _ _; refine ⟨?_, ?_⟩) | (show SLeL [] []; exact True.intro) | (refine SLe.int ?_; rw [w64]; omega) | refine SLe.int ?_ | refine SLe.bool ?_ | apply And.intro | (exact bs1 _ _))) ?_
  ·exact ⟨⟨Nat.zero_le _, rfl⟩, rfl, fun i z _ => rfl⟩
  rintro ⟨k, met⟩ ⟨⟨g1, g2⟩, g3, g4⟩
  simp only at g1 g2 g3 g4
  repeat' (first | apply zC | apply zA | apply zB | refine zF qS qR ?_ ?_ | exact True.intro | exact rfl | fail)
  (refine zE qS ?_ ?_ <;> intro hb <;> have hc := hb <;> (try simp only [bF] at hc) <;> (try (exfalso; simp at hc; done)))
  ·have hk : k < n.L.length := by assumption
   have hm := hP _ (getD_mem' hk)
   have hA := hA0 s l M (n.L.getD k default) hl hMe
   have en : nthSD (eNeeds n.L) k = eNeedU (n.L.getD k default) := by rw [eNeeds_nth _ _ hk, eNeed_U]
   rcases (show k = 0 ∨ k = 1 ∨ k = 2 by omega) with rfl | rfl | rfl
   ·obtain ⟨m0, rfl⟩ : ∃ m0, met = [m0] := by
     match met, g2 with
     | [m0], _ => exact ⟨m0, rfl⟩
    have e2 : IntKind.i64.wrap (((1 : Nat) : Int) + 1) = 2 := rfl
    repeat' (first | refine stepmkN 2 tU182 info106 qK qR (by simp only [go_sem, e2]; rfl) (by simp only [go_sem, e2]; rfl) (by first | rfl | omega) (by first | rfl | omega) (by first | (simp only [go_sem, e2]; done) | (simp only [go_sem, e2]; rfl)) (by simp only [go_sem, e2]; rfl) ?_ | apply zC | apply zG | apply zD | apply zA | apply zB | refine stepX_ok (by simp only [go_sem, e2]; rfl) ?_ ?_ | exact True.intro | exact rfl | fail)
    repeat' (first | apply zC | apply zG | apply zD | apply zK | apply zA | apply zB | refine zF qS qR ?_ ?_ | (refine zE qS ?_ ?_ <;> intro hb <;> have hc := hb <;> (try simp only [bF] at hc) <;> (try (exfalso; simp at hc; done))) | refine zJ qR ?_ | refine run_roundsB 2 4 ?_ | refine run_round ?_ | exact True.intro | exact rfl | exact qP | fail)
    repeat' (first | apply zC | apply zG | apply zD | apply zA | apply zO | apply zB | refine zF (by simp only [go_sem, en]; rfl) qR ?_ ?_ | refine runDqRP (by simp only [go_sem, en]; rfl) qR ?_ (by simp only [go_sem, en, recsOf, recA, recU, recG, readS, keysA, keysU]; rfl) ?_ | refine zP qK qK ?_ | refine zW ih (by simp only [go_sem, en]; first | done | rfl) ?_ ⟨n.L.getD 0 default, s, l, M, m0, ⟨hm, hl, hMe⟩, rfl, rfl⟩ (by simp only [go_sem, en]; rfl) ?_ | (refine zE (by simp only [go_sem, en]; rfl) ?_ ?_ <;> intro hb <;> have hc := hb <;> (try simp only [bF] at hc) <;> (try (exfalso; simp at hc; done))) | refine run_roundsB 4 3 ?_ | exact True.intro | exact rfl | exact qP | fail)
    refine zM [2, 3, 4, 5, 9, 10, 11, 12, 14, 15] (fun x : Nat × (Nat → Bool) × (Nat → Bool) => [(16, .int .i64 x.1)]) (fun x : Nat × (Nat → Bool) × (Nat → Bool) => [(3, aB M x.2.1), (4, aB M x.2.2)]) (fun x : Nat × (Nat → Bool) × (Nat → Bool) => x.1 ≤ M ∧ (∀ z, z < M → x.2.1 z = ((fun _ => false) z || (decide (z < x.1) && m0 z))) ∧ ∀ z, z < M → x.2.2 z = (decide (z < x.1) && A s l M (n.L.getD 0 default) m0 z)) (fun x : Nat × (Nat → Bool) × (Nat → Bool) => M - x.1) (0, (fun _ => false), fun _ => false) (fun x => qS) ?_ qL qL ?_
    ·exact ⟨Nat.zero_le _, fun z _ => by simp, fun z _ => by simp⟩
    rintro ⟨j, U0, V0⟩ ⟨p1, p2, p3⟩
    simp only at p1 p2 p3
    repeat' (first | apply zC | apply zA | apply zB | refine zF qS qR ?_ ?_ | exact True.intro | exact rfl | fail)
    (refine zE qS ?_ ?_ <;> intro hb <;> have hc := hb <;> (try simp only [bF] at hc) <;> (try (exfalso; simp at hc; done)))
    ·have hj : j < M := by assumption
     clear hA hA0 ih hP
     repeat' (first | apply zC | apply zG | apply zD | apply zK | apply zA | apply zO | apply zB | refine zF qS qR ?_ ?_ | refine zT qS qR ?_ ?_ | refine zP qK qK ?_ | refine runDas qS qS ?_ | exact True.intro | exact rfl | exact qP | fail)
     refine zQ (o' := aB M fun z => U0 z || (decide (z = j) && m0 z)) 3 qR (ole_bool fun i hi => set_or _ _ _ _) ?_
     refine zQ (o' := aB M fun z => V0 z || (decide (z = j) && A s l M (n.L.getD 0 default) m0 z)) 4 qR (ole_bool fun i hi => set_or _ _ _ _) ?_
     refine zR (j + 1, (fun z => U0 z || (decide (z = j) && m0 z)), fun z => V0 z || (decide (z = j) && A s l M (n.L.getD 0 default) m0 z)) ?_ ?_ ⟨rfl, qL, qL⟩
     ·exact ⟨by simp only; omega, fun z hz => by simp only; rw [p2 z hz, Bool.or_assoc, lt_succ_or], fun z hz => by simp only; rw [p3 z hz, lt_succ_or]⟩
     ·simp only; omega
    have u0 : ∀ z, z < M → U0 z = ((fun _ => false) z || m0 z) := fun z hz => by rw [p2 z hz, decide_eq_true (by omega), Bool.true_and]
    have v0 : ∀ z, z < M → V0 z = A s l M (n.L.getD 0 default) m0 z := fun z hz => by rw [p3 z hz, decide_eq_true (by omega), Bool.true_and]
    clear p1 p2 p3
    repeat' (first | apply zC | apply zK | apply zA | apply zB | refine zF qS qR ?_ ?_ | (refine zE qS ?_ ?_ <;> intro hb <;> have hc := hb <;> (try simp only [bF] at hc) <;> (try (exfalso; simp at hc; done))) | refine zJ qR ?_ | refine run_round ?_ | exact True.intro | exact rfl | fail)
    refine zN 3 qS ?_
    refine zN 4 qS ?_
    refine zN 2 qS ?_
    refine zR (0 + 1, [U0, V0]) ?_ ?_ ⟨rfl, by simp only [go_sem]; repeat' (first | exact trivial | exact True.intro | exact SLe.refl _ | exact OLe.refl _ | exact ⟨_, rfl, OLe.refl _⟩ | refine ⟨_, rfl, ?_⟩ | refine OLe.var ?_ | (show SLeL _ _; refine ⟨?_, ?_⟩) | (show SLeL [] []; exact True.intro) | (refine SLe.int ?_; rw [w64]; omega) | refine SLe.int ?_ | refine SLe.bool ?_ | apply And.intro | exact bs_list _ [U0, V0]), by simp only [go_sem]; repeat' (first | exact trivial | exact True.intro | exact SLe.refl _ | exact OLe.refl _ | exact ⟨_, rfl, OLe.refl _⟩ | refine ⟨_, rfl, ?_⟩ | refine OLe.var ?_ | (show SLeL _ _; refine ⟨?_, ?_⟩) | (show SLeL [] []; exact True.intro) | (refine SLe.int ?_; rw [w64]; omega) | refine SLe.int ?_ | refine SLe.bool ?_ | apply And.intro | exact bs_list _ [U0, V0])⟩
    ·refine ⟨⟨by simp only; omega, rfl⟩, ?_⟩
     simp only
     rw [List.take_add_one, List.getElem?_eq_getElem hk, List.map_append, show (some (n.L[0]'hk)).toList = [n.L.getD 0 default] from by rw [List.getD_eq_getElem?_getD, List.getElem?_eq_getElem hk]; rfl]
     refine step_eq hA [m0] [U0, V0] g3 g4 rfl fun i hi z hz => ?_
     rcases (show i = 0 ∨ i = 1 by simp only [List.length_cons, List.length_nil] at hi; omega) with rfl | rfl
     ·simpa using u0 z hz
     ·simp only [List.getD_cons_succ, List.getD_cons_zero, List.getD_nil]; rw [v0 z hz]; rfl
    ·simp only; omega
   ·obtain ⟨m0, m1, rfl⟩ : ∃ m0 m1, met = [m0, m1] := by
     match met, g2 with
     | [m0, m1], _ => exact ⟨m0, m1, rfl⟩
    have e2 : IntKind.i64.wrap (((2 : Nat) : Int) + 1) = 3 := rfl
    repeat' (first | refine stepmkN 3 tU182 info106 qK qR (by simp only [go_sem, e2]; rfl) (by simp only [go_sem, e2]; rfl) (by first | rfl | omega) (by first | rfl | omega) (by first | (simp only [go_sem, e2]; done) | (simp only [go_sem, e2]; rfl)) (by simp only [go_sem, e2]; rfl) ?_ | apply zC | apply zG | apply zD | apply zA | apply zB | refine stepX_ok (by simp only [go_sem, e2]; rfl) ?_ ?_ | exact True.intro | exact rfl | fail)
    repeat' (first | apply zC | apply zG | apply zD | apply zK | apply zA | apply zB | refine zF qS qR ?_ ?_ | (refine zE qS ?_ ?_ <;> intro hb <;> have hc := hb <;> (try simp only [bF] at hc) <;> (try (exfalso; simp at hc; done))) | refine zJ qR ?_ | refine run_roundsB 2 5 ?_ | refine run_round ?_ | exact True.intro | exact rfl | exact qP | fail)
    repeat' (first | apply zC | apply zG | apply zD | apply zA | apply zO | apply zB | refine zF (by simp only [go_sem, en]; rfl) qR ?_ ?_ | refine runDqRP (by simp only [go_sem, en]; rfl) qR ?_ (by simp only [go_sem, en, recsOf, recA, recU, recG, readS, keysA, keysU]; rfl) ?_ | refine zP qK qK ?_ | refine zW ih (by simp only [go_sem, en]; first | done | rfl) ?_ ⟨n.L.getD 1 default, s, l, M, m0, ⟨hm, hl, hMe⟩, rfl, rfl⟩ (by simp only [go_sem, en]; rfl) ?_ | (refine zE (by simp only [go_sem, en]; rfl) ?_ ?_ <;> intro hb <;> have hc := hb <;> (try simp only [bF] at hc) <;> (try (exfalso; simp at hc; done))) | refine run_roundsB 4 4 ?_ | exact True.intro | exact rfl | exact qP | fail)
    refine zM [2, 3, 4, 5, 9, 10, 11, 12, 14, 15] (fun x : Nat × (Nat → Bool) × (Nat → Bool) => [(16, .int .i64 x.1)]) (fun x : Nat × (Nat → Bool) × (Nat → Bool) => [(3, aB M x.2.1), (4, aB M x.2.2)]) (fun x : Nat × (Nat → Bool) × (Nat → Bool) => x.1 ≤ M ∧ (∀ z, z < M → x.2.1 z = ((fun _ => false) z || (decide (z < x.1) && m0 z))) ∧ ∀ z, z < M → x.2.2 z = (decide (z < x.1) && A s l M (n.L.getD 1 default) m0 z)) (fun x : Nat × (Nat → Bool) × (Nat → Bool) => M - x.1) (0, (fun _ => false), fun _ => false) (fun x => qS) ?_ qL qL ?_
    ·exact ⟨Nat.zero_le _, fun z _ => by simp, fun z _ => by simp⟩
    rintro ⟨j, U0, V0⟩ ⟨p1, p2, p3⟩
    simp only at p1 p2 p3
    repeat' (first | apply zC | apply zA | apply zB | refine zF qS qR ?_ ?_ | exact True.intro | exact rfl | fail)
    (refine zE qS ?_ ?_ <;> intro hb <;> have hc := hb <;> (try simp only [bF] at hc) <;> (try (exfalso; simp at hc; done)))
    ·have hj : j < M := by assumption
     clear hA hA0 ih hP
     repeat' (first | apply zC | apply zG | apply zD | apply zK | apply zA | apply zO | apply zB | refine zF qS qR ?_ ?_ | refine zT qS qR ?_ ?_ | refine zP qK qK ?_ | refine runDas qS qS ?_ | exact True.intro | exact rfl | exact qP | fail)
     refine zQ (o' := aB M fun z => U0 z || (decide (z = j) && m0 z)) 3 qR (ole_bool fun i hi => set_or _ _ _ _) ?_
     refine zQ (o' := aB M fun z => V0 z || (decide (z = j) && A s l M (n.L.getD 1 default) m0 z)) 4 qR (ole_bool fun i hi => set_or _ _ _ _) ?_
     refine zR (j + 1, (fun z => U0 z || (decide (z = j) && m0 z)), fun z => V0 z || (decide (z = j) && A s l M (n.L.getD 1 default) m0 z)) ?_ ?_ ⟨rfl, qL, qL⟩
     ·exact ⟨by simp only; omega, fun z hz => by simp only; rw [p2 z hz, Bool.or_assoc, lt_succ_or], fun z hz => by simp only; rw [p3 z hz, lt_succ_or]⟩
     ·simp only; omega
    have u0 : ∀ z, z < M → U0 z = ((fun _ => false) z || m0 z) := fun z hz => by rw [p2 z hz, decide_eq_true (by omega), Bool.true_and]
    have v0 : ∀ z, z < M → V0 z = A s l M (n.L.getD 1 default) m0 z := fun z hz => by rw [p3 z hz, decide_eq_true (by omega), Bool.true_and]
    clear p1 p2 p3
    repeat' (first | apply zC | apply zG | apply zD | apply zK | apply zA | apply zO | apply zB | refine zF (by simp only [go_sem, en]; rfl) qR ?_ ?_ | refine runDqRP (by simp only [go_sem, en]; rfl) qR ?_ (by simp only [go_sem, en, recsOf, recA, recU, recG, readS, keysA, keysU]; rfl) ?_ | refine zP qK qK ?_ | refine zW ih (by simp only [go_sem, en]; first | done | rfl) ?_ ⟨n.L.getD 1 default, s, l, M, m1, ⟨hm, hl, hMe⟩, rfl, rfl⟩ (by simp only [go_sem, en]; rfl) ?_ | (refine zE (by simp only [go_sem, en]; rfl) ?_ ?_ <;> intro hb <;> have hc := hb <;> (try simp only [bF] at hc) <;> (try (exfalso; simp at hc; done))) | refine zJ qR ?_ | refine run_round ?_ | exact True.intro | exact rfl | exact qP | fail)
    refine zM [2, 3, 4, 5, 9, 10, 11, 12, 14, 15] (fun x : Nat × (Nat → Bool) × (Nat → Bool) => [(16, .int .i64 x.1)]) (fun x : Nat × (Nat → Bool) × (Nat → Bool) => [(4, aB M x.2.1), (5, aB M x.2.2)]) (fun x : Nat × (Nat → Bool) × (Nat → Bool) => x.1 ≤ M ∧ (∀ z, z < M → x.2.1 z = (V0 z || (decide (z < x.1) && m1 z))) ∧ ∀ z, z < M → x.2.2 z = (decide (z < x.1) && A s l M (n.L.getD 1 default) m1 z)) (fun x : Nat × (Nat → Bool) × (Nat → Bool) => M - x.1) (0, V0, fun _ => false) (fun x => qS) ?_ qL qL ?_
    ·exact ⟨Nat.zero_le _, fun z _ => by simp, fun z _ => by simp⟩
    rintro ⟨j, U1, V1⟩ ⟨p1, p2, p3⟩
    simp only at p1 p2 p3
    repeat' (first | apply zC | apply zA | apply zB | refine zF qS qR ?_ ?_ | exact True.intro | exact rfl | fail)
    (refine zE qS ?_ ?_ <;> intro hb <;> have hc := hb <;> (try simp only [bF] at hc) <;> (try (exfalso; simp at hc; done)))
    ·have hj : j < M := by assumption
     clear hA hA0 ih hP
     repeat' (first | apply zC | apply zG | apply zD | apply zK | apply zA | apply zO | apply zB | refine zF qS qR ?_ ?_ | refine zT qS qR ?_ ?_ | refine zP qK qK ?_ | refine runDas qS qS ?_ | exact True.intro | exact rfl | exact qP | fail)
     refine zQ (o' := aB M fun z => U1 z || (decide (z = j) && m1 z)) 4 qR (ole_bool fun i hi => set_or _ _ _ _) ?_
     refine zQ (o' := aB M fun z => V1 z || (decide (z = j) && A s l M (n.L.getD 1 default) m1 z)) 5 qR (ole_bool fun i hi => set_or _ _ _ _) ?_
     refine zR (j + 1, (fun z => U1 z || (decide (z = j) && m1 z)), fun z => V1 z || (decide (z = j) && A s l M (n.L.getD 1 default) m1 z)) ?_ ?_ ⟨rfl, qL, qL⟩
     ·exact ⟨by simp only; omega, fun z hz => by simp only; rw [p2 z hz, Bool.or_assoc, lt_succ_or], fun z hz => by simp only; rw [p3 z hz, lt_succ_or]⟩
     ·simp only; omega
    have u1 : ∀ z, z < M → U1 z = (V0 z || m1 z) := fun z hz => by rw [p2 z hz, decide_eq_true (by omega), Bool.true_and]
    have v1 : ∀ z, z < M → V1 z = A s l M (n.L.getD 1 default) m1 z := fun z hz => by rw [p3 z hz, decide_eq_true (by omega), Bool.true_and]
    clear p1 p2 p3
    repeat' (first | apply zC | apply zK | apply zA | apply zB | refine zF qS qR ?_ ?_ | (refine zE qS ?_ ?_ <;> intro hb <;> have hc := hb <;> (try simp only [bF] at hc) <;> (try (exfalso; simp at hc; done))) | refine zJ qR ?_ | refine run_round ?_ | exact True.intro | exact rfl | fail)
    refine zN 3 qS ?_
    refine zN 4 qS ?_
    refine zN 5 qS ?_
    refine zN 2 qS ?_
    refine zR (1 + 1, [U0, U1, V1]) ?_ ?_ ⟨rfl, by simp only [go_sem]; repeat' (first | exact trivial | exact True.intro | exact SLe.refl _ | exact OLe.refl _ | exact ⟨_, rfl, OLe.refl _⟩ | refine ⟨_, rfl, ?_⟩ | refine OLe.var ?_ | (show SLeL _ _; refine ⟨?_, ?_⟩) | (show SLeL [] []; exact True.intro) | (refine SLe.int ?_; rw [w64]; omega) | refine SLe.int ?_ | refine SLe.bool ?_ | apply And.intro | exact bs_list _ [U0, U1, V1]), by simp only [go_sem]; repeat' (first | exact trivial | exact True.intro | exact SLe.refl _ | exact OLe.refl _ | exact ⟨_, rfl, OLe.refl _⟩ | refine ⟨_, rfl, ?_⟩ | refine OLe.var ?_ | (show SLeL _ _; refine ⟨?_, ?_⟩) | (show SLeL [] []; exact True.intro) | (refine SLe.int ?_; rw [w64]; omega) | refine SLe.int ?_ | refine SLe.bool ?_ | apply And.intro | exact bs_list _ [U0, U1, V1])⟩
    ·refine ⟨⟨by simp only; omega, rfl⟩, ?_⟩
     simp only
     rw [List.take_add_one, List.getElem?_eq_getElem hk, List.map_append, show (some (n.L[1]'hk)).toList = [n.L.getD 1 default] from by rw [List.getD_eq_getElem?_getD, List.getElem?_eq_getElem hk]; rfl]
     refine step_eq hA [m0, m1] [U0, U1, V1] g3 g4 rfl fun i hi z hz => ?_
     rcases (show i = 0 ∨ i = 1 ∨ i = 2 by simp only [List.length_cons, List.length_nil] at hi; omega) with rfl | rfl | rfl
     ·simpa using u0 z hz
     ·simp only [List.getD_cons_succ, List.getD_cons_zero]; rw [u1 z hz, v0 z hz]; exact Bool.or_comm _ _
     ·simp only [List.getD_cons_succ, List.getD_cons_zero, List.getD_nil]; rw [v1 z hz]; rfl
    ·simp only; omega
   ·obtain ⟨m0, m1, m2, rfl⟩ : ∃ m0 m1 m2, met = [m0, m1, m2] := by
     match met, g2 with
     | [m0, m1, m2], _ => exact ⟨m0, m1, m2, rfl⟩
    have e2 : IntKind.i64.wrap (((3 : Nat) : Int) + 1) = 4 := rfl
    repeat' (first | refine stepmkN 4 tU182 info106 qK qR (by simp only [go_sem, e2]; rfl) (by simp only [go_sem, e2]; rfl) (by first | rfl | omega) (by first | rfl | omega) (by first | (simp only [go_sem, e2]; done) | (simp only [go_sem, e2]; rfl)) (by simp only [go_sem, e2]; rfl) ?_ | apply zC | apply zG | apply zD | apply zA | apply zB | refine stepX_ok (by simp only [go_sem, e2]; rfl) ?_ ?_ | exact True.intro | exact rfl | fail)
    repeat' (first | apply zC | apply zG | apply zD | apply zK | apply zA | apply zB | refine zF qS qR ?_ ?_ | (refine zE qS ?_ ?_ <;> intro hb <;> have hc := hb <;> (try simp only [bF] at hc) <;> (try (exfalso; simp at hc; done))) | refine zJ qR ?_ | refine run_roundsB 2 6 ?_ | refine run_round ?_ | exact True.intro | exact rfl | exact qP | fail)
    repeat' (first | apply zC | apply zG | apply zD | apply zA | apply zO | apply zB | refine zF (by simp only [go_sem, en]; rfl) qR ?_ ?_ | refine runDqRP (by simp only [go_sem, en]; rfl) qR ?_ (by simp only [go_sem, en, recsOf, recA, recU, recG, readS, keysA, keysU]; rfl) ?_ | refine zP qK qK ?_ | refine zW ih (by simp only [go_sem, en]; first | done | rfl) ?_ ⟨n.L.getD 2 default, s, l, M, m0, ⟨hm, hl, hMe⟩, rfl, rfl⟩ (by simp only [go_sem, en]; rfl) ?_ | (refine zE (by simp only [go_sem, en]; rfl) ?_ ?_ <;> intro hb <;> have hc := hb <;> (try simp only [bF] at hc) <;> (try (exfalso; simp at hc; done))) | refine run_roundsB 4 5 ?_ | exact True.intro | exact rfl | exact qP | fail)
    refine zM [2, 3, 4, 5, 9, 10, 11, 12, 14, 15] (fun x : Nat × (Nat → Bool) × (Nat → Bool) => [(16, .int .i64 x.1)]) (fun x : Nat × (Nat → Bool) × (Nat → Bool) => [(3, aB M x.2.1), (4, aB M x.2.2)]) (fun x : Nat × (Nat → Bool) × (Nat → Bool) => x.1 ≤ M ∧ (∀ z, z < M → x.2.1 z = ((fun _ => false) z || (decide (z < x.1) && m0 z))) ∧ ∀ z, z < M → x.2.2 z = (decide (z < x.1) && A s l M (n.L.getD 2 default) m0 z)) (fun x : Nat × (Nat → Bool) × (Nat → Bool) => M - x.1) (0, (fun _ => false), fun _ => false) (fun x => qS) ?_ qL qL ?_
    ·exact ⟨Nat.zero_le _, fun z _ => by simp, fun z _ => by simp⟩
    rintro ⟨j, U0, V0⟩ ⟨p1, p2, p3⟩
    simp only at p1 p2 p3
    repeat' (first | apply zC | apply zA | apply zB | refine zF qS qR ?_ ?_ | exact True.intro | exact rfl | fail)
    (refine zE qS ?_ ?_ <;> intro hb <;> have hc := hb <;> (try simp only [bF] at hc) <;> (try (exfalso; simp at hc; done)))
    ·have hj : j < M := by assumption
     clear hA hA0 ih hP
     repeat' (first | apply zC | apply zG | apply zD | apply zK | apply zA | apply zO | apply zB | refine zF qS qR ?_ ?_ | refine zT qS qR ?_ ?_ | refine zP qK qK ?_ | refine runDas qS qS ?_ | exact True.intro | exact rfl | exact qP | fail)
     refine zQ (o' := aB M fun z => U0 z || (decide (z = j) && m0 z)) 3 qR (ole_bool fun i hi => set_or _ _ _ _) ?_
     refine zQ (o' := aB M fun z => V0 z || (decide (z = j) && A s l M (n.L.getD 2 default) m0 z)) 4 qR (ole_bool fun i hi => set_or _ _ _ _) ?_
     refine zR (j + 1, (fun z => U0 z || (decide (z = j) && m0 z)), fun z => V0 z || (decide (z = j) && A s l M (n.L.getD 2 default) m0 z)) ?_ ?_ ⟨rfl, qL, qL⟩
     ·exact ⟨by simp only; omega, fun z hz => by simp only; rw [p2 z hz, Bool.or_assoc, lt_succ_or], fun z hz => by simp only; rw [p3 z hz, lt_succ_or]⟩
     ·simp only; omega
    have u0 : ∀ z, z < M → U0 z = ((fun _ => false) z || m0 z) := fun z hz => by rw [p2 z hz, decide_eq_true (by omega), Bool.true_and]
    have v0 : ∀ z, z < M → V0 z = A s l M (n.L.getD 2 default) m0 z := fun z hz => by rw [p3 z hz, decide_eq_true (by omega), Bool.true_and]
    clear p1 p2 p3
    repeat' (first | apply zC | apply zG | apply zD | apply zK | apply zA | apply zO | apply zB | refine zF (by simp only [go_sem, en]; rfl) qR ?_ ?_ | refine runDqRP (by simp only [go_sem, en]; rfl) qR ?_ (by simp only [go_sem, en, recsOf, recA, recU, recG, readS, keysA, keysU]; rfl) ?_ | refine zP qK qK ?_ | refine zW ih (by simp only [go_sem, en]; first | done | rfl) ?_ ⟨n.L.getD 2 default, s, l, M, m1, ⟨hm, hl, hMe⟩, rfl, rfl⟩ (by simp only [go_sem, en]; rfl) ?_ | (refine zE (by simp only [go_sem, en]; rfl) ?_ ?_ <;> intro hb <;> have hc := hb <;> (try simp only [bF] at hc) <;> (try (exfalso; simp at hc; done))) | refine zJ qR ?_ | refine run_round ?_ | exact True.intro | exact rfl | exact qP | fail)
    refine zM [2, 3, 4, 5, 9, 10, 11, 12, 14, 15] (fun x : Nat × (Nat → Bool) × (Nat → Bool) => [(16, .int .i64 x.1)]) (fun x : Nat × (Nat → Bool) × (Nat → Bool) => [(4, aB M x.2.1), (5, aB M x.2.2)]) (fun x : Nat × (Nat → Bool) × (Nat → Bool) => x.1 ≤ M ∧ (∀ z, z < M → x.2.1 z = (V0 z || (decide (z < x.1) && m1 z))) ∧ ∀ z, z < M → x.2.2 z = (decide (z < x.1) && A s l M (n.L.getD 2 default) m1 z)) (fun x : Nat × (Nat → Bool) × (Nat → Bool) => M - x.1) (0, V0, fun _ => false) (fun x => qS) ?_ qL qL ?_
    ·exact ⟨Nat.zero_le _, fun z _ => by simp, fun z _ => by simp⟩
    rintro ⟨j, U1, V1⟩ ⟨p1, p2, p3⟩
    simp only at p1 p2 p3
    repeat' (first | apply zC | apply zA | apply zB | refine zF qS qR ?_ ?_ | exact True.intro | exact rfl | fail)
    (refine zE qS ?_ ?_ <;> intro hb <;> have hc := hb <;> (try simp only [bF] at hc) <;> (try (exfalso; simp at hc; done)))
    ·have hj : j < M := by assumption
     clear hA hA0 ih hP
     repeat' (first | apply zC | apply zG | apply zD | apply zK | apply zA | apply zO | apply zB | refine zF qS qR ?_ ?_ | refine zT qS qR ?_ ?_ | refine zP qK qK ?_ | refine runDas qS qS ?_ | exact True.intro | exact rfl | exact qP | fail)
     refine zQ (o' := aB M fun z => U1 z || (decide (z = j) && m1 z)) 4 qR (ole_bool fun i hi => set_or _ _ _ _) ?_
     refine zQ (o' := aB M fun z => V1 z || (decide (z = j) && A s l M (n.L.getD 2 default) m1 z)) 5 qR (ole_bool fun i hi => set_or _ _ _ _) ?_
     refine zR (j + 1, (fun z => U1 z || (decide (z = j) && m1 z)), fun z => V1 z || (decide (z = j) && A s l M (n.L.getD 2 default) m1 z)) ?_ ?_ ⟨rfl, qL, qL⟩
     ·exact ⟨by simp only; omega, fun z hz => by simp only; rw [p2 z hz, Bool.or_assoc, lt_succ_or], fun z hz => by simp only; rw [p3 z hz, lt_succ_or]⟩
     ·simp only; omega
    have u1 : ∀ z, z < M → U1 z = (V0 z || m1 z) := fun z hz => by rw [p2 z hz, decide_eq_true (by omega), Bool.true_and]
    have v1 : ∀ z, z < M → V1 z = A s l M (n.L.getD 2 default) m1 z := fun z hz => by rw [p3 z hz, decide_eq_true (by omega), Bool.true_and]
    clear p1 p2 p3
    repeat' (first | apply zC | apply zG | apply zD | apply zK | apply zA | apply zO | apply zB | refine zF (by simp only [go_sem, en]; rfl) qR ?_ ?_ | refine runDqRP (by simp only [go_sem, en]; rfl) qR ?_ (by simp only [go_sem, en, recsOf, recA, recU, recG, readS, keysA, keysU]; rfl) ?_ | refine zP qK qK ?_ | refine zW ih (by simp only [go_sem, en]; first | done | rfl) ?_ ⟨n.L.getD 2 default, s, l, M, m2, ⟨hm, hl, hMe⟩, rfl, rfl⟩ (by simp only [go_sem, en]; rfl) ?_ | (refine zE (by simp only [go_sem, en]; rfl) ?_ ?_ <;> intro hb <;> have hc := hb <;> (try simp only [bF] at hc) <;> (try (exfalso; simp at hc; done))) | refine zJ qR ?_ | refine run_round ?_ | exact True.intro | exact rfl | exact qP | fail)
    refine zM [2, 3, 4, 5, 9, 10, 11, 12, 14, 15] (fun x : Nat × (Nat → Bool) × (Nat → Bool) => [(16, .int .i64 x.1)]) (fun x : Nat × (Nat → Bool) × (Nat → Bool) => [(5, aB M x.2.1), (6, aB M x.2.2)]) (fun x : Nat × (Nat → Bool) × (Nat → Bool) => x.1 ≤ M ∧ (∀ z, z < M → x.2.1 z = (V1 z || (decide (z < x.1) && m2 z))) ∧ ∀ z, z < M → x.2.2 z = (decide (z < x.1) && A s l M (n.L.getD 2 default) m2 z)) (fun x : Nat × (Nat → Bool) × (Nat → Bool) => M - x.1) (0, V1, fun _ => false) (fun x => qS) ?_ qL qL ?_
    ·exact ⟨Nat.zero_le _, fun z _ => by simp, fun z _ => by simp⟩
    rintro ⟨j, U2, V2⟩ ⟨p1, p2, p3⟩
    simp only at p1 p2 p3
    repeat' (first | apply zC | apply zA | apply zB | refine zF qS qR ?_ ?_ | exact True.intro | exact rfl | fail)
    (refine zE qS ?_ ?_ <;> intro hb <;> have hc := hb <;> (try simp only [bF] at hc) <;> (try (exfalso; simp at hc; done)))
    ·have hj : j < M := by assumption
     clear hA hA0 ih hP
     repeat' (first | apply zC | apply zG | apply zD | apply zK | apply zA | apply zO | apply zB | refine zF qS qR ?_ ?_ | refine zT qS qR ?_ ?_ | refine zP qK qK ?_ | refine runDas qS qS ?_ | exact True.intro | exact rfl | exact qP | fail)
     refine zQ (o' := aB M fun z => U2 z || (decide (z = j) && m2 z)) 5 qR (ole_bool fun i hi => set_or _ _ _ _) ?_
     refine zQ (o' := aB M fun z => V2 z || (decide (z = j) && A s l M (n.L.getD 2 default) m2 z)) 6 qR (ole_bool fun i hi => set_or _ _ _ _) ?_
     refine zR (j + 1, (fun z => U2 z || (decide (z = j) && m2 z)), fun z => V2 z || (decide (z = j) && A s l M (n.L.getD 2 default) m2 z)) ?_ ?_ ⟨rfl, qL, qL⟩
     ·exact ⟨by simp only; omega, fun z hz => by simp only; rw [p2 z hz, Bool.or_assoc, lt_succ_or], fun z hz => by simp only; rw [p3 z hz, lt_succ_or]⟩
     ·simp only; omega
    have u2 : ∀ z, z < M → U2 z = (V1 z || m2 z) := fun z hz => by rw [p2 z hz, decide_eq_true (by omega), Bool.true_and]
    have v2 : ∀ z, z < M → V2 z = A s l M (n.L.getD 2 default) m2 z := fun z hz => by rw [p3 z hz, decide_eq_true (by omega), Bool.true_and]
    clear p1 p2 p3
    repeat' (first | apply zC | apply zK | apply zA | apply zB | refine zF qS qR ?_ ?_ | (refine zE qS ?_ ?_ <;> intro hb <;> have hc := hb <;> (try simp only [bF] at hc) <;> (try (exfalso; simp at hc; done))) | refine zJ qR ?_ | refine run_round ?_ | exact True.intro | exact rfl | fail)
    refine zN 3 qS ?_
    refine zN 4 qS ?_
    refine zN 5 qS ?_
    refine zN 6 qS ?_
    refine zN 2 qS ?_
    refine zR (2 + 1, [U0, U1, U2, V2]) ?_ ?_ ⟨rfl, by simp only [go_sem]; repeat' (first | exact trivial | exact True.intro | exact SLe.refl _ | exact OLe.refl _ | exact ⟨_, rfl, OLe.refl _⟩ | refine ⟨_, rfl, ?_⟩ | refine OLe.var ?_ | (show SLeL _ _; refine ⟨?_, ?_⟩) | (show SLeL [] []; exact True.intro) | (refine SLe.int ?_; rw [w64]; omega) | refine SLe.int ?_ | refine SLe.bool ?_ | apply And.intro | exact bs_list _ [U0, U1, U2, V2]), by simp only [go_sem]; repeat' (first | exact trivial | exact True.intro | exact SLe.refl _ | exact OLe.refl _ | exact ⟨_, rfl, OLe.refl _⟩ | refine ⟨_, rfl, ?_⟩ | refine OLe.var ?_ | (show SLeL _ _; refine ⟨?_, ?_⟩) | (show SLeL [] []; exact True.intro) | (refine SLe.int ?_; rw [w64]; omega) | refine SLe.int ?_ | refine SLe.bool ?_ | apply And.intro | exact bs_list _ [U0, U1, U2, V2])⟩
    ·refine ⟨⟨by simp only; omega, rfl⟩, ?_⟩
     simp only
     rw [List.take_add_one, List.getElem?_eq_getElem hk, List.map_append, show (some (n.L[2]'hk)).toList = [n.L.getD 2 default] from by rw [List.getD_eq_getElem?_getD, List.getElem?_eq_getElem hk]; rfl]
     refine step_eq hA [m0, m1, m2] [U0, U1, U2, V2] g3 g4 rfl fun i hi z hz => ?_
     rcases (show i = 0 ∨ i = 1 ∨ i = 2 ∨ i = 3 by simp only [List.length_cons, List.length_nil] at hi; omega) with rfl | rfl | rfl | rfl
     ·simpa using u0 z hz
     ·simp only [List.getD_cons_succ, List.getD_cons_zero]; rw [u1 z hz, v0 z hz]; exact Bool.or_comm _ _
     ·simp only [List.getD_cons_succ, List.getD_cons_zero]; rw [u2 z hz, v1 z hz]; exact Bool.or_comm _ _
     ·simp only [List.getD_cons_succ, List.getD_cons_zero, List.getD_nil]; rw [v2 z hz]; rfl
    ·simp only; omega
  ·have htk : n.L.take k = n.L := List.take_of_length_le (by omega)
   rw [htk] at g3 g4
   clear ih hP hA0 htk
   obtain ⟨q, rfl⟩ : ∃ q : Nat, least = (q : Int) := ⟨least.toNat, by omega⟩
   have hfin : ∀ z, z < M → someS (n.L.map (A s l M)) q S z = acS met q met.length z := fun z hz => some_acS hz g3 g4
   generalize someS (n.L.map (A s l M)) q S = R at hfin ⊢
   clear g3 g4
   have hl4 : met.length ≤ 4 := by omega
   repeat' (first | apply zC | apply zD | apply zA | apply zB | refine zF qS qR ?_ ?_ | refine zJ qR ?_ | exact True.intro | exact rfl | exact qP | fail)
   refine zM [2, 3, 4, 5, 9, 10, 17] (fun x : Nat × (Nat → Bool) => [(18, .int .i64 x.1)]) (fun x : Nat × (Nat → Bool) => [(2, aB M x.2)]) (fun x : Nat × (Nat → Bool) => (q ≤ x.1 ∧ (x.1 ≤ met.length ∨ x.1 = q)) ∧ ∀ z, z < M → x.2 z = acS met q x.1 z) (fun x : Nat × (Nat → Bool) => met.length - x.1) (q, fun _ => false) (fun x => qS) ?_ qL qL ?_
   ·exact ⟨⟨Nat.le_refl _, .inr rfl⟩, fun z _ => (acS_zero met q z).symm⟩
   rintro ⟨i, T⟩ ⟨⟨r1, r2⟩, r3⟩
   simp only at r1 r2 r3
   repeat' (first | apply zC | apply zA | apply zB | refine zF qS qR ?_ ?_ | exact True.intro | exact rfl | fail)
   (refine zE qS ?_ ?_ <;> intro hb <;> have hc := hb <;> (try simp only [bF] at hc) <;> (try (exfalso; simp at hc; done)))
   ·have hi : i < met.length := by assumption
    repeat' (first | apply zC | apply zG | apply zD | apply zA | apply zB | refine zF qS qR ?_ ?_ | exact True.intro | exact rfl | fail)
    refine zM [2, 3, 4, 5, 9, 10, 17, 18] (fun x : Nat × (Nat → Bool) => [(19, .int .i64 x.1)]) (fun x : Nat × (Nat → Bool) => [(2, aB M x.2)]) (fun x : Nat × (Nat → Bool) => x.1 ≤ M ∧ ∀ z, z < M → x.2 z = (T z || (decide (z < x.1) && met.getD i noneS z))) (fun x : Nat × (Nat → Bool) => M - x.1) (0, T) (fun x => qS) ?_ qL qL ?_
    ·exact ⟨Nat.zero_le _, fun z _ => by simp⟩
    rintro ⟨j, U⟩ ⟨p1, p2⟩
    simp only at p1 p2
    repeat' (first | apply zC | apply zA | apply zB | refine zF qS qR ?_ ?_ | exact True.intro | exact rfl | fail)
    (refine zE qS ?_ ?_ <;> intro hb <;> have hc := hb <;> (try simp only [bF] at hc) <;> (try (exfalso; simp at hc; done)))
    ·have hj : j < M := by assumption
     repeat' (first | apply zC | apply zG | apply zD | apply zK | apply zA | apply zB | refine zF qS qR ?_ ?_ | exact True.intro | exact rfl | exact qP | fail)
     refine zQ (o' := aB M fun z => U z || (decide (z = j) && met.getD i noneS z)) 2 qR (ole_bool fun i hi => set_or _ _ _ _) ?_
     refine zR (j + 1, fun z => U z || (decide (z = j) && met.getD i noneS z)) ?_ ?_ ⟨rfl, qL, qL⟩
     ·exact ⟨by simp only; omega, fun z hz => by simp only; rw [p2 z hz, Bool.or_assoc, lt_succ_or]⟩
     ·simp only; omega
    ·have hU : ∀ z, z < M → U z = (T z || met.getD i noneS z) := fun z hz => by rw [p2 z hz, decide_eq_true (by omega), Bool.true_and]
     repeat' (first | apply zK | apply zA | apply zB | refine zF qS qR ?_ ?_ | refine zJ qR ?_ | refine zR (i+1,U) ?_ ?_ ⟨rfl, qL, qL⟩ | exact True.intro | exact rfl | omega)
     exact ⟨⟨by simp only; omega, .inl (by simp only; omega)⟩, fun z hz => by simp only; rw [hU z hz, r3 z hz, acS_succ _ _ _ r1]⟩
   ·have hz : ∀ z, z < M → T z = R z := fun z hz => by
     rw [r3 z hz, hfin z hz]
     rcases r2 with r2 | r2
     ·rw [show i = met.length by omega]
     ·rw [r2, acS_zero, acS_le]; omega
    repeat' (first | refine zN 2 qS ?_ | apply zC | apply zA | apply zB | refine zF qS qR ?_ ?_ | refine zI qR ?_ | refine zJ qR ?_ | exact True.intro | exact rfl | fail)
    (refine SLe0.le qZ ?_; repeat' (first | exact True.intro | exact SLe.refl _ | refine SLe.agg ?_ | refine SLe.tup ?_ | refine And.intro ?_ ?_ | exact SLe.nils | refine SLe.int ?_ | refine SLe.bool ?_ | refine SLe.str ?_))
    refine SLe.list rfl fun i hi => ?_
    rw [hz i hi]
end Go.Sx
