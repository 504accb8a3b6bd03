/- Part of the proof that the laws of the judge return true for every input: R51, J42. -/
import Derived.Test.YtmbocmonhcplhaaGreatB51a
import Derived.Test.YtmbocmonhcplhaaGreatB51c
import Derived.Test.YtmbocmonhcplhaaGreatB51d
import Derived.Test.YtmbocmonhcplhaaGreatB51e
import Derived.Test.YtmbocmonhcplhaaGreatB51f
import Derived.Test.YtmbocmonhcplhaaGreatB51g
set_option linter.all false
namespace Go.Sx
open Go.Proofs Go.RowKit
attribute [local irreducible] Run RunL RunD OpT SLe0 SLe OLe
set_option maxHeartbeats 2000000
set_option maxRecDepth 8000
set_option maxRecDepth 40000
set_option maxHeartbeats 400000000
theorem R51 {Pm : Need → Prop} {A : Scale → List Ach → Nat → Need → (Nat → Bool) → Nat → Bool}
  (ih : FnOK Tryz.prog 51 (fun ds v => ∃ (n : Need) (s : Scale) (l : List Ach) (M : Nat) (S : Nat → Bool), (Pm n ∧ l.length ≤ 10 ∧ M = 2 ^ l.length) ∧ ds = [eNeedU n, eScale s, eList 8 eAch l, eB M S] ∧ v = eB M (A s l M n S)))
  {F : List Nat} {w0 : Base} {fin : Exit → Act → World → Prop} {kl : List It} {n : Need} {s : Scale} {l : List Ach} {M : Nat} {U : Nat → Bool} {least : Int} {mf : Nat → Nat → Bool} {k : Nat} (h7 : k ≤ 7) (hm : Pm (n.L.getD k default)) (hk : k < n.L.length) (hl : l.length ≤ 10) (hMe : M = 2 ^ l.length) (hM : M ≤ 1024)
  (hn : ∀ mf' : Nat → Nat → Bool, (∀ j z, z < M → mf' j z = ((decide (j < k + 1) && mf j z) || (decide (0 < j ∧ j ≤ k + 1) && A s l M (n.L.getD k default) (mf (j - 1)) z))) → Run Tryz.prog F w0 fin kl (s51 n s l M U least (k + 1) mf')) :
  Run Tryz.prog F w0 fin (.code (nthLoop 0 Tryz.f51.body) :: kl) (s51 n s l M U least k mf) := by
 rcases (show k = 0 ∨ k = 1 ∨ k = 2 ∨ k = 3 ∨ k = 4 ∨ k = 5 ∨ k = 6 ∨ k = 7 by omega) with rfl | rfl | rfl | rfl | rfl | rfl | rfl | rfl
 all_goals
  obtain ⟨k', hk'⟩ : ∃ k', k' = n.L.length := ⟨_, rfl⟩
  repeat' (first | (show Run _ _ _ _ _ _; first | apply zC | apply zA) | (show RunL _ _ _ _ _ _ _; first | apply zB | refine zF qS qR ?_ ?_) | exact True.intro | exact rfl | fail)
  (refine zE qS ?_ ?_ <;> intro hb <;> have hc := hb <;> (try simp only [bF] at hc) <;> (try (exfalso; simp at hc; done)))
  rotate_left
  ·exfalso; omega
  repeat' (first | (show Run _ _ _ _ _ _; first | apply zC | apply zG | apply zD | apply zA) | (show RunL _ _ _ _ _ _ _; first | refine stepmkNk hk tU182 info106 qK qR qS qS (by first | rfl | omega) (by first | rfl | omega) qF qS ?_ | apply zB | refine stepX_ok qS ?_ ?_) | exact True.intro | exact rfl | fail)
  repeat' (first | (show Run _ _ _ _ _ _; first | apply zC | apply zG | apply zD | apply zL | apply zA | (refine zE qS ?_ ?_ <;> intro hb <;> have hc := hb <;> (try simp only [bF] at hc) <;> (try (exfalso; simp at hc; done))) | refine zK qR ?_ | refine run_roundsB 2 11 ?_ | refine run_round ?_) | (show RunL _ _ _ _ _ _ _; first | apply zB | refine zF qS qR ?_ ?_) | exact True.intro | exact rfl | exact qP | fail)
  refine run_loopN hk [2, 3, 4, 5, 9, 10, 11, 12] (fun x : Nat × (Nat → Nat → Bool) => [(14, .int .i64 x.1)]) (fun k x => rwO M x.2 (k + 2) 0) (fun x => iv51 A n s l M mf hk x) (fun x => lt51 hk + 1 - x.1) (0, fun _ _ => false) (fun x => qS) ?_ qL qL ?_
  ·exact ⟨Nat.zero_le _, fun j z _ => by simp; omega⟩
  rintro ⟨i, W⟩ ⟨g1, g2⟩
  simp only at g1 g2
  rcases Nat.lt_or_ge i (lt51 hk + 1) with hi | hi
  ·have hlp := fun V h => step51 (V := V) hk hi g2 h
   simp only [lt51] at hi
   rcases (show i ≤ 3 ∨ 4 ≤ i by omega) with h43 | h43
   all_goals first
    | exact B51a ih (by omega) (by omega) hm hk hl hMe hM fun V h => zS (i + 1, V) (hlp V h).1 (hlp V h).2 ⟨rfl, qL, qL⟩
    | exact B51b ih (by omega) (by omega) hm hk hl hMe hM fun V h => zS (i + 1, V) (hlp V h).1 (hlp V h).2 ⟨rfl, qL, qL⟩
    | exact B51c ih (by omega) (by omega) hm hk hl hMe hM fun V h => zS (i + 1, V) (hlp V h).1 (hlp V h).2 ⟨rfl, qL, qL⟩
    | exact B51d ih (by omega) (by omega) hm hk hl hMe hM fun V h => zS (i + 1, V) (hlp V h).1 (hlp V h).2 ⟨rfl, qL, qL⟩
    | exact B51e ih (by omega) (by omega) hm hk hl hMe hM fun V h => zS (i + 1, V) (hlp V h).1 (hlp V h).2 ⟨rfl, qL, qL⟩
    | exact B51f ih (by omega) (by omega) hm hk hl hMe hM fun V h => zS (i + 1, V) (hlp V h).1 (hlp V h).2 ⟨rfl, qL, qL⟩
    | exact B51g ih (by omega) (by omega) hm hk hl hMe hM fun V h => zS (i + 1, V) (hlp V h).1 (hlp V h).2 ⟨rfl, qL, qL⟩
  have hi2 : i = lt51 hk + 1 := Nat.le_antisymm g1 hi
  subst hi2
  repeat' (first | (show Run _ _ _ _ _ _; first | apply zC | apply zA) | (show RunL _ _ _ _ _ _ _; first | apply zB | refine zF qS qR ?_ ?_) | exact True.intro | exact rfl | fail)
  (refine zE qS ?_ ?_ <;> intro hb <;> have hc := hb <;> (try simp only [bF] at hc) <;> (try (exfalso; simp at hc; done)))
  repeat' (first | (show Run _ _ _ _ _ _; first | apply zL | apply zA | refine zK qR ?_) | (show RunL _ _ _ _ _ _ _; first | apply zB | refine zF qS qR ?_ ?_) | exact True.intro | exact rfl | fail)
  repeat (first | refine zO 12 qS ?_ | refine zO 11 qS ?_ | refine zO 10 qS ?_ | refine zO 9 qS ?_ | refine zO 8 qS ?_ | refine zO 7 qS ?_ | refine zO 6 qS ?_ | refine zO 5 qS ?_ | refine zO 4 qS ?_ | refine zO 3 qS ?_ | refine zO 2 qS ?_)
  refine run_into (hn W g2) ⟨rfl, by simp only [go_sem]; repeat' (first | exact trivial | exact True.intro | exact SLe.refl _ | exact OLe.refl _ | exact ⟨_, rfl, OLe.refl _⟩ | refine ⟨_, rfl, ?_⟩ | refine OLe.var ?_ | (show SLeL _ _; refine ⟨?_, ?_⟩) | (show SLeL [] []; exact True.intro) | (refine SLe.int ?_; rw [w64]; omega) | refine SLe.int ?_ | refine SLe.bool ?_ | apply And.intro | exact rows_lit rfl (by repeat' (first | exact True.intro | refine ⟨rfl, ?_⟩))), by simp only [go_sem]; repeat' (first | exact trivial | exact True.intro | exact SLe.refl _ | exact OLe.refl _ | exact ⟨_, rfl, OLe.refl _⟩ | refine ⟨_, rfl, ?_⟩ | refine OLe.var ?_ | (show SLeL _ _; refine ⟨?_, ?_⟩) | (show SLeL [] []; exact True.intro) | (refine SLe.int ?_; rw [w64]; omega) | refine SLe.int ?_ | refine SLe.bool ?_ | apply And.intro | exact rows_lit rfl (by repeat' (first | exact True.intro | refine ⟨rfl, ?_⟩)))⟩
end Go.Sx
namespace Go.Sx
open Go.Proofs Go.RowKit
attribute [local irreducible] Run RunL RunD OpT SLe0 SLe OLe
set_option maxHeartbeats 2000000
set_option maxRecDepth 8000
set_option maxRecDepth 40000
set_option maxHeartbeats 400000000
theorem K51s (Pm : Need → Prop) (A : Scale → List Ach → Nat → Need → (Nat → Bool) → Nat → Bool) (hA0 : ∀ s l M m, l.length ≤ 10 → M = 2 ^ l.length → ∀ (S S' : Nat → Bool), (∀ z, z < M → S z = S' z) → ∀ z, z < M → A s l M m S z = A s l M m S' z)
  (ih : FnOK Tryz.prog 51 (fun ds v => ∃ (n : Need) (s : Scale) (l : List Ach) (M : Nat) (S : Nat → Bool), (Pm n ∧ l.length ≤ 10 ∧ M = 2 ^ l.length) ∧ ds = [eNeedU n, eScale s, eList 8 eAch l, eB M S] ∧ v = eB M (A s l M n S))) :
  FnOK Tryz.prog 51 (fun ds v => ∃ (n : Need) (s : Scale) (l : List Ach) (M : Nat) (S : Nat → Bool), (((∀ m ∈ n.L, Pm m) ∧ n.L.length ≤ 8 ∧ 0 ≤ n.N) ∧ l.length ≤ 10 ∧ M = 2 ^ l.length) ∧ ds = [eNeedU n, eScale s, eList 8 eAch l, eB M S] ∧ v = eB M (if n.Kind = 1 ∨ n.Kind = 2 then leafS n s l M S else someS (n.L.map (A s l M)) (if n.Kind = 3 then (n.L.length : Int) else n.N) S)) := by
 refine fn_intro Tryz.call51 Tryz.func51 rfl Tryz.ntmps51 ?_
 rintro ds d ⟨n, s, l, M, S, ⟨⟨hP, hl3, hN⟩, hl, hMe⟩, rfl, rfl⟩
 refine ⟨by simp, fun w0 => ?_⟩
 have hM : M ≤ 1024 := by rw [hMe]; exact Nat.pow_le_pow_right (n := 2) (by omega) hl
 by_cases hk : n.Kind = 1 ∨ n.Kind = 2
 ·have hk1 : ((n.Kind == 1) || (n.Kind == 2)) = true := by rw [Bool.or_eq_true, beq_iff_eq, beq_iff_eq]; exact hk
  rw [if_pos hk]
  repeat' (first | apply zC | apply zA | apply zB | refine zF (by simp only [go_sem, hk1]; rfl) qR ?_ ?_ | refine zM K112 (by simp only [go_sem, hk1]; first | done | rfl) ?_ ⟨n, s, l, M, S, ⟨hl, hMe⟩, rfl, rfl⟩ (by simp only [go_sem, hk1]; rfl) ?_ | (refine zE (by simp only [go_sem, hk1]; rfl) ?_ ?_ <;> intro hb <;> have hc := hb <;> (try simp only [bF] at hc) <;> (try (exfalso; simp at hc; done))) | refine zI qR ?_ | exact True.intro | exact rfl | exact SLe0.pure rfl | exact qP | fail)
  all_goals skip
 ·have hk1 : ((n.Kind == 1) || (n.Kind == 2)) = false := by
   rw [← Bool.not_eq_true, Bool.or_eq_true, beq_iff_eq, beq_iff_eq]; exact hk
  rw [if_neg hk]
  obtain ⟨least, hle⟩ : ∃ least : Int, least = if n.Kind = 3 then (n.L.length : Int) else n.N := ⟨_, rfl⟩
  have hl0 : 0 ≤ least := by rw [hle]; split <;> omega
  rw [← hle]
  repeat' (first | apply zC | apply zA | apply zB | refine zF (by simp only [go_sem, hk1]; rfl) qR ?_ ?_ | exact True.intro | exact rfl | exact qP | fail)
  (refine zE qS ?_ ?_ <;> intro hb <;> have hc := hb <;> (try simp only [bF] at hc) <;> (try (exfalso; simp at hc; done)))
  repeat' (first | apply zC | apply zG | apply zA | apply zB | refine zF qS qR ?_ ?_ | exact True.intro | exact rfl | fail)
  refine run_condJ [2, 3, 4, 5] [(9, .int .i64 least)] [] 2 qS qS (fun hb k' hk => ?_) (fun hb k' hk => ?_) ?_
  ·have h3 : n.Kind = 3 := by simpa using hb
   rw [if_pos h3] at hle
   subst hle
   repeat' (first | apply zA | apply zB | refine zF qS qR ?_ ?_ | exact True.intro | exact rfl | fail)
   refine run_into hk ⟨rfl, qL, qL⟩
  ·have h3 : ¬ n.Kind = 3 := by simpa using hb
   rw [if_neg h3] at hle
   subst hle
   repeat' (first | apply zG | fail)
   refine run_into hk ⟨rfl, qL, qL⟩
  clear hk1 hle
  repeat' (first | apply zC | apply zD | apply zA | apply zB | refine zF qS qR ?_ ?_ | exact True.intro | exact rfl | fail)
  refine zN [2, 3, 4, 5, 9] (fun x : Nat × (Nat → Nat → Bool) => [(11, .int .i64 x.1), (10, eRows M (x.1 + 1) x.2)]) (fun x : Nat × (Nat → Nat → Bool) => []) (fun x : Nat × (Nat → Nat → Bool) => (x.1 ≤ n.L.length ∧ (foldM ((n.L.take x.1).map (A s l M)) [S]).length = x.1 + 1) ∧ ∀ i z, z < M → i < x.1 + 1 → x.2 i z = (foldM ((n.L.take x.1).map (A s l M)) [S]).getD i noneS z) (fun x : Nat × (Nat → Nat → Bool) => n.L.length - x.1) (0, fun _ => S) (fun x => qS) ?_ (by simp only [go_sem]; repeat' (first | exact trivial | exact True.intro | exact SLe.refl _ | exact OLe.refl _ | exact ⟨_, rfl, OLe.refl _⟩ | refine ⟨_, rfl, ?_⟩ | refine OLe.var ?_ | (show SLeL _ _; refine ⟨?_, ?_⟩) | (show SLeL [] []; exact True.intro) | (refine SLe.int ?_; rw [w64]; omega) | refine SLe.int ?_ | refine SLe.bool ?_ | apply And.intro | (exact SLe.list rfl (fun i hi => by obtain rfl : i = 0 := (by omega); rfl)))) (by simp only [go_sem]; repeat' (first | exact trivial | exact True.intro | exact SLe.refl _ | exact OLe.refl _ | exact ⟨_, rfl, OLe.refl _⟩ | refine ⟨_, rfl, ?_⟩ | refine OLe.var ?_ | (show SLeL _ _; refine ⟨?_, ?_⟩) | (show SLeL [] []; exact True.intro) | (refine SLe.int ?_; rw [w64]; omega) | refine SLe.int ?_ | refine SLe.bool ?_ | apply And.intro | (exact SLe.list rfl (fun i hi => by obtain rfl : i = 0 := (by omega); rfl)))) ?_
  ·exact ⟨⟨Nat.zero_le _, rfl⟩, fun i z _ hi => by
    obtain rfl : i = 0 := by simp only at hi; omega
    rfl⟩
  rintro ⟨k, met⟩ ⟨⟨g1, g2⟩, g4⟩
  simp only at g1 g2 g4
  by_cases hk : k < n.L.length
  ·have hm := hP _ (getD_mem' hk)
   have hA := hA0 s l M (n.L.getD k default) hl hMe
   have hlp : ∀ mf' : Nat → Nat → Bool, (∀ j z, z < M → mf' j z = ((decide (j < k + 1) && met j z) || (decide (0 < j ∧ j ≤ k + 1) && A s l M (n.L.getD k default) (met (j - 1)) z))) → (((k + 1 ≤ n.L.length ∧ (foldM ((n.L.take (k + 1)).map (A s l M)) [S]).length = k + 1 + 1) ∧ ∀ i z, z < M → i < k + 1 + 1 → mf' i z = (foldM ((n.L.take (k + 1)).map (A s l M)) [S]).getD i noneS z) ∧ n.L.length - (k + 1) < n.L.length - k) := fun mf' h => by
    have htk : n.L.take (k + 1) = n.L.take k ++ [n.L.getD k default] := by
     rw [List.take_add_one, List.getElem?_eq_getElem hk, List.getD_eq_getElem?_getD, List.getElem?_eq_getElem hk]; rfl
    rw [htk, List.map_append, List.map_cons, List.map_nil, foldM_snoc, stepM_len, g2]
    refine ⟨⟨⟨hk, rfl⟩, fun i z hz hi => ?_⟩, by omega⟩
    rw [h i z hz, stepM_get _ _ _ (by rw [g2]; omega)]
    by_cases h0 : i = 0
    ·subst h0
     rw [if_pos rfl, ← g4 0 z hz (by omega)]
     simp
    ·rw [if_neg h0]
     simp only [orS]
     rw [← hA _ _ (fun z hz => g4 (i - 1) z hz (by omega)) z hz]
     have h1 : (0 < i ∧ i ≤ k + 1) := by omega
     rw [decide_eq_true h1, Bool.true_and]
     congr 1
     by_cases h2 : i < k + 1
     ·rw [decide_eq_true h2, Bool.true_and, g4 i z hz h2]
     ·rw [decide_eq_false h2, Bool.false_and, List.getD_eq_getElem?_getD, List.getElem?_eq_none (by rw [g2]; omega)]; rfl
   exact R51 ih (by omega) hm hk hl hMe hM fun mf' h => zS (k + 1, mf') (hlp mf' h).1 (hlp mf' h).2 ⟨rfl, qL, qL⟩
  clear hP ih hA0
  have hk' : k = n.L.length := by omega
  subst hk'
  have hdn : decide ((n.L.length : Int) < (n.L.length : Int)) = false := by rw [decide_eq_false_iff_not]; omega
  repeat' (first | apply zC | apply zA | apply zB | refine zF qS qR ?_ ?_ | exact True.intro | exact rfl | fail)
  (refine zE qS ?_ ?_ <;> intro hb <;> have hc := hb <;> (try simp only [bF] at hc) <;> (try (exfalso; simp at hc; done)))
  ·have htk : n.L.take n.L.length = n.L := List.take_of_length_le (Nat.le_refl _)
   rw [htk] at g2 g4
   clear htk
   obtain ⟨q, rfl⟩ : ∃ q : Nat, least = (q : Int) := ⟨least.toNat, by omega⟩
   have hfin : ∀ z, z < M → someS (n.L.map (A s l M)) q S z = acS met q (n.L.length + 1) z := fun z hz => some_acS' hz g2 g4
   generalize someS (n.L.map (A s l M)) q S = R at hfin ⊢
   clear g2 g4
   repeat' (first | apply zC | apply zD | apply zA | apply zB | refine zF qS qR ?_ ?_ | refine zK qR ?_ | exact True.intro | exact rfl | exact qP | fail)
   refine zN [2, 3, 4, 5, 9, 10, 17] (fun x : Nat × (Nat → Bool) => [(18, .int .i64 x.1)]) (fun x : Nat × (Nat → Bool) => [(2, aB M x.2)]) (fun x : Nat × (Nat → Bool) => (q ≤ x.1 ∧ (x.1 ≤ n.L.length + 1 ∨ x.1 = q)) ∧ ∀ z, z < M → x.2 z = acS met q x.1 z) (fun x : Nat × (Nat → Bool) => n.L.length + 1 - x.1) (q, fun _ => false) (fun x => qS) ?_ qL qL ?_
   ·exact ⟨⟨Nat.le_refl _, .inr rfl⟩, fun z _ => (acS_zero met q z).symm⟩
   rintro ⟨i, T⟩ ⟨⟨r1, r2⟩, r3⟩
   simp only at r1 r2 r3
   repeat' (first | apply zC | apply zA | apply zB | refine zF qS qR ?_ ?_ | exact True.intro | exact rfl | fail)
   (refine zE qS ?_ ?_ <;> intro hb <;> have hc := hb <;> (try simp only [bF] at hc) <;> (try (exfalso; simp at hc; done)))
   ·have hi : i < n.L.length + 1 := by assumption
    repeat' (first | apply zC | apply zG | apply zD | apply zA | apply zB | refine zF qS qR ?_ ?_ | exact True.intro | exact rfl | fail)
    refine zN [2, 3, 4, 5, 9, 10, 17, 18] (fun x : Nat × (Nat → Bool) => [(19, .int .i64 x.1)]) (fun x : Nat × (Nat → Bool) => [(2, aB M x.2)]) (fun x : Nat × (Nat → Bool) => x.1 ≤ M ∧ ∀ z, z < M → x.2 z = (T z || (decide (z < x.1) && met i z))) (fun x : Nat × (Nat → Bool) => M - x.1) (0, T) (fun x => qS) ?_ qL qL ?_
    ·exact ⟨Nat.zero_le _, fun z _ => by simp⟩
    rintro ⟨j, U⟩ ⟨p1, p2⟩
    simp only at p1 p2
    repeat' (first | apply zC | apply zA | apply zB | refine zF qS qR ?_ ?_ | exact True.intro | exact rfl | fail)
    (refine zE qS ?_ ?_ <;> intro hb <;> have hc := hb <;> (try simp only [bF] at hc) <;> (try (exfalso; simp at hc; done)))
    ·have hj : j < M := by assumption
     repeat' (first | apply zC | apply zG | apply zD | apply zL | apply zA | apply zB | refine zF qS qR ?_ ?_ | exact True.intro | exact rfl | exact qP | fail)
     refine zR (o' := aB M fun z => U z || (decide (z = j) && met i z)) 2 qR (ole_bool fun i hi => set_or _ _ _ _) ?_
     refine zS (j + 1, fun z => U z || (decide (z = j) && met i z)) ?_ ?_ ⟨rfl, qL, qL⟩
     ·exact ⟨by simp only; omega, fun z hz => by simp only; rw [p2 z hz, Bool.or_assoc, lt_succ_or]⟩
     ·simp only; omega
    ·have hU : ∀ z, z < M → U z = (T z || met i z) := fun z hz => by rw [p2 z hz, decide_eq_true (by omega), Bool.true_and]
     repeat' (first | apply zL | apply zA | apply zB | refine zF qS qR ?_ ?_ | refine zK qR ?_ | refine zS (i+1,U) ?_ ?_ ⟨rfl, qL, qL⟩ | exact True.intro | exact rfl | omega)
     exact ⟨⟨by simp only; omega, .inl (by simp only; omega)⟩, fun z hz => by simp only; rw [hU z hz, r3 z hz, acS_succ _ _ _ r1]⟩
   ·have hz : ∀ z, z < M → T z = R z := fun z hz => by
     rw [r3 z hz, hfin z hz]
     rcases r2 with r2 | r2
     ·rw [show i = n.L.length + 1 by omega]
     ·rw [r2, acS_zero, acS_le]; omega
    repeat' (first | refine zO 2 qS ?_ | apply zC | apply zA | apply zB | refine zF qS qR ?_ ?_ | refine zI qR ?_ | refine zK qR ?_ | exact True.intro | exact rfl | fail)
    (refine SLe0.le qZ ?_; repeat' (first | exact True.intro | exact SLe.refl _ | refine SLe.agg ?_ | refine SLe.tup ?_ | refine And.intro ?_ ?_ | exact SLe.nils | refine SLe.int ?_ | refine SLe.bool ?_ | refine SLe.str ?_))
    refine SLe.list rfl fun i hi => ?_
    rw [hz i hi]
end Go.Sx
