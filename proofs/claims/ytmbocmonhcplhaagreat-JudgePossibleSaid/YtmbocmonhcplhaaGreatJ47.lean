/- Part of the proof that the laws of the judge return true for every input: J47. -/
import Derived.Test.YtmbocmonhcplhaaGreatJ46
set_option linter.all false
namespace Go.Sx
open Go.Proofs Go.RowKit
attribute [local irreducible] Run RunL RunD OpT SLe0 SLe OLe
set_option maxHeartbeats 2000000
set_option maxRecDepth 8000
set_option maxHeartbeats 8000000
theorem K15 (d : Nat) (hd : 1 + d ≤ 100) (hcn : cntB d ≤ 10000) : FnOK Tryz.prog 15 (fun ds v => ∃ (p : Programme) (s : Scale) (l : List Ach) (day : Int), POk d p ∧ ds = [eProg p, eScale s, eList 8 eAch l, eInt day] ∧ v = .bool (derR d p s l day)) := by
 have K48x := K48 d hd hcn
 have K51x := K51 d
 refine fn_intro Tryz.call15 Tryz.func15 rfl Tryz.ntmps15 ?_
 rintro ds d ⟨p, s, l, day, hp, rfl, rfl⟩
 refine ⟨by simp, fun w0 => ?_⟩
 refine run_len 2 rfl fun hll => ?_
 by_cases hck : chkP d p = 0
 ·have hc1 : (chkP d p != 0) = false := by simpa using hck
  cases hs : okScale s
  ·have hv : derR d p s l day = false := by simp [derR, hs]
   rw [hv]
   repeat' (first | apply zC | apply zA | apply zB | refine zF (by simp only [go_sem, hc1, hs]; rfl) qR ?_ ?_ | refine zL K48x (by simp only [go_sem, hc1, hs]; first | done | rfl) ?_ ⟨p, hp, rfl, rfl⟩ (by simp only [go_sem, hc1, hs]; rfl) ?_ | refine zU 18 qR (by simp only [go_sem, hc1, hs]; rfl) K49 (by simp only [go_sem, hc1, hs]; first | done | rfl) (fun hg => ?_) (fun _ => ⟨_, rfl, rfl⟩) (by simp only [go_sem, hc1, hs]; rfl) ?_ | (refine zE (by simp only [go_sem, hc1, hs]; rfl) ?_ ?_ <;> intro hb <;> have hc := hb <;> (try simp only [bF] at hc) <;> (try (exfalso; simp at hc; done))) | refine zI qR ?_ | exact True.intro | exact rfl | exact SLe0.bool rfl | exact qP | fail)
   all_goals skip
  ·have hu : derR d p s l day = (decide ((l.filter fun a => keepR p day a).length ≤ 10) && (List.range (2 ^ (l.filter fun a => keepR p day a).length)).any fun set => wholeR p (l.filter fun a => keepR p day a) set && (List.range (set + 1)).any fun part => (part &&& set == part) && refA s (l.filter fun a => keepR p day a) (2 ^ (l.filter fun a => keepR p day a).length) d p.Need S0 part) := by
    rw [derR, hs, decide_eq_true hck, Bool.true_and, Bool.true_and]
   rw [hu]
   repeat' (first | apply zC | apply zA | apply zB | refine zF (by simp only [go_sem, hc1, hs]; rfl) qR ?_ ?_ | refine zL K48x (by simp only [go_sem, hc1, hs]; first | done | rfl) ?_ ⟨p, hp, rfl, rfl⟩ (by simp only [go_sem, hc1, hs]; rfl) ?_ | refine zU 18 qR (by simp only [go_sem, hc1, hs]; rfl) K49 (by simp only [go_sem, hc1, hs]; first | done | rfl) (fun hg => ?_) (fun _ => ⟨_, rfl, rfl⟩) (by simp only [go_sem, hc1, hs]; rfl) ?_ | exact True.intro | exact rfl | exact qP | fail)
   (refine zE qS ?_ ?_ <;> intro hb <;> have hc := hb <;> (try simp only [bF] at hc) <;> (try (exfalso; simp at hc; done)))
   repeat' (first | apply zC | apply zG | apply zD | apply zA | apply zB | refine zF qS qR ?_ ?_ | exact True.intro | exact rfl | fail)
   refine yE 9 65 8 (fun i => eAch (([] : List Ach).getD i default)) rfl rfl rfl ?_
   refine zM [2, 3, 4, 5, 9] (fun x : Nat × List Ach => [(10, .int .i64 x.1)]) (fun x : Nat × List Ach => [(2, aAch x.2)]) (fun x : Nat × List Ach => (x.1 ≤ l.length ∧ x.2.length ≤ x.1) ∧ x.2 = (l.take x.1).filter fun a => keepR p day a) (fun x : Nat × List Ach => l.length - x.1) (0, []) (fun x => qS) ?_ qL qL ?_
   ·exact ⟨⟨Nat.zero_le _, Nat.zero_le _⟩, rfl⟩
   rintro ⟨k, t⟩ ⟨⟨g1, g2⟩, g3⟩
   simp only at g1 g2 g3
   repeat' (first | apply zC | apply zA | apply zB | refine zF qS qR ?_ ?_ | exact True.intro | exact rfl | fail)
   (refine zE qS ?_ ?_ <;> intro hb <;> have hc := hb <;> (try simp only [bF] at hc) <;> (try (exfalso; simp at hc; done)))
   ·have hk : k < l.length := by assumption
    have htk : ((l.take (k + 1)).filter fun a => keepR p day a) = t ++ if keepR p day (l.getD k default) then [l.getD k default] else [] := by
     rw [List.take_add_one, List.filter_append, ← g3, List.getD_eq_getElem?_getD, List.getElem?_eq_getElem hk]
     congr 1
     simp only [Option.toList, Option.getD_some, List.filter_cons, List.filter_nil]
    repeat' (first | apply zC | apply zG | apply zD | apply zO | refine zT qS qR ?_ ?_ | refine zP qK qK ?_ | refine runDcallg 32 qR qS K50 qD (fun hg => ?_) (fun _ => ⟨_, rfl, rfl⟩) qS ?_ | exact qP | fail)
    (refine zE qS ?_ ?_ <;> intro hb <;> have hc := hb <;> (try simp only [bF] at hc) <;> (try (exfalso; simp at hc; done)))
    ·have hb2 : keepR p day (l.getD k default) = true := hb
     rw [hb2, if_pos rfl] at htk
     repeat' (first | apply zK | apply zA | apply zB | refine zF qS qR ?_ ?_ | exact True.intro | exact rfl | exact qP | fail)
     refine zQ (o' := aAch (t ++ [l.getD k default])) 2 qR (ole_snoc eAch t (l.getD k default) rfl) ?_
     refine zR (k + 1, t ++ [l.getD k default]) ?_ ?_ ⟨rfl, qL, qL⟩
     ·exact ⟨⟨by simp only; omega, by simp; omega⟩, htk.symm⟩
     ·simp only; omega
    ·have hb2 : keepR p day (l.getD k default) = false := hb
     rw [hb2, if_neg (by simp), List.append_nil] at htk
     repeat' (first | apply zG | apply zK | apply zA | apply zB | refine zF qS qR ?_ ?_ | refine zR (k+1,t) ?_ ?_ ⟨rfl, qL, qL⟩ | exact True.intro | exact rfl | omega)
     exact ⟨⟨by simp only; omega, by simp only; omega⟩, htk.symm⟩
   ·have hy : (l.filter fun a => keepR p day a) = t := by rw [g3, List.take_of_length_le (by omega)]
    rw [hy]
    clear hy g3 hu
    repeat' (first | apply zC | apply zA | apply zB | refine zF qS qR ?_ ?_ | refine zJ qR ?_ | exact True.intro | exact rfl | fail)
    (refine zE qS ?_ ?_ <;> intro hb <;> have hc := hb <;> (try simp only [bF] at hc) <;> (try (exfalso; simp at hc; done)))
    ·have h10 : ¬ t.length ≤ 10 := by have := of_decide_eq_true hb; omega
     rw [decide_eq_false h10]
     repeat' (first | apply zC | apply zA | apply zB | refine zF qS qR ?_ ?_ | refine zI qR ?_ | exact True.intro | exact rfl | exact SLe0.bool rfl | fail)
     all_goals skip
    have hl : t.length ≤ 10 := by have := of_decide_eq_false hb; omega
    rw [decide_eq_true hl, Bool.true_and]
    have h2k : (2 : Nat) ^ t.length ≤ 2 ^ 10 := Nat.pow_le_pow_right (by omega) hl
    have h2p : 0 < (2 : Nat) ^ t.length := Nat.two_pow_pos _
    have esh := bshl t.length (by omega)
    have hNN := chkP_NN hck
    refine zN 2 qS ?_
    generalize hM : 2 ^ t.length = M at esh h2k h2p ⊢
    repeat' (first | apply zC | apply zG | apply zA | apply zB | refine zF (by simp only [go_sem, esh]; rfl) qR ?_ ?_ | exact True.intro | exact rfl | exact qP | fail)
    refine runL_accLe (o' := aB M S0) 3 qR (ole_bool fun i hi => ?_) ?_
    ·simp only [setF, S0]
     by_cases h : i = 0
     ·subst h; rfl
     ·rw [if_neg h]; simp [h]
    refine runL_frz 3 qS ?_
    generalize hA : refA s t M d p.Need S0 = A
    repeat' (first | apply zC | apply zD | apply zA | apply zB | refine zF (by simp only [go_sem, hA]; rfl) qR ?_ ?_ | refine zL K51x (by simp only [go_sem, hA]; first | done | rfl) ?_ ⟨p.Need, s, t, M, S0, ⟨⟨hp.need, hNN⟩, hl, hM.symm⟩, rfl, rfl⟩ (by simp only [go_sem, hA]; rfl) ?_ | exact True.intro | exact rfl | fail)
    clear hA hNN hck hc1 K48x K51x
    refine zM [2, 3, 4, 5, 9, 11] (fun x : Nat × Unit => [(12, .int .i64 x.1)]) (fun x : Nat × Unit => []) (fun x : Nat × Unit => x.1 ≤ M ∧ ∀ j, j < x.1 → (wholeR p t j && (List.range (j + 1)).any fun part => (part &&& j == part) && A part) = false) (fun x : Nat × Unit => M - x.1) (0, ()) (fun x => qS) ?_ qL qL ?_
    ·exact ⟨Nat.zero_le _, fun j h => absurd h (Nat.not_lt_zero j)⟩
    rintro ⟨j, _⟩ ⟨q1, q2⟩
    simp only at q1 q2
    repeat' (first | apply zC | apply zA | apply zB | refine zF qS qR ?_ ?_ | exact True.intro | exact rfl | fail)
    (refine zE qS ?_ ?_ <;> intro hb <;> have hc := hb <;> (try simp only [bF] at hc) <;> (try (exfalso; simp at hc; done)))
    ·have hj : j < M := by assumption
     have hE : ∀ b : Bool, (wholeR p t j && (List.range (j + 1)).any fun part => (part &&& j == part) && A part) = b → b = false → ∀ i, i < j + 1 → (wholeR p t i && (List.range (i + 1)).any fun part => (part &&& i == part) && A part) = false := fun b h1 h2 i hi => by
      by_cases hij : i = j
      ·subst hij; rw [h1, h2]
      ·exact q2 i (by omega)
     cases hw : wholeR p t j
     ·repeat' (first | apply zC | apply zG | apply zD | apply zA | apply zB | refine zF (by simp only [go_sem, hw]; rfl) qR ?_ ?_ | refine zL K52 (by simp only [go_sem, hw]; first | done | rfl) ?_ ⟨p, t, j, hl, by omega, rfl, rfl⟩ (by simp only [go_sem, hw]; rfl) ?_ | exact True.intro | exact rfl | fail)
      refine zM [2, 3, 4, 5, 9, 11, 12, 13] (fun x : Nat × Unit => [(14, .int .i64 x.1)]) (fun x : Nat × Unit => []) (fun x : Nat × Unit => x.1 = 0) (fun x : Nat × Unit => 0) (0, ()) (fun x => qS) ?_ qL qL ?_
      ·rfl
      rintro ⟨i, _⟩ r1
      simp only at r1
      subst r1
      repeat' (first | apply zC | apply zA | apply zB | refine zF qS qR ?_ ?_ | exact rfl | exact qP | fail)
      (refine zE qS ?_ ?_ <;> intro hb <;> have hc := hb <;> (try simp only [bF] at hc) <;> (try (exfalso; simp at hc; done)))
      repeat' (first | apply zK | apply zA | apply zB | refine zF qS qR ?_ ?_ | refine zJ qR ?_ | refine zR (j+1,()) ?_ ?_ ⟨rfl, qL, qL⟩ | exact True.intro | exact rfl | omega)
      exact ⟨by simp only; omega, hE false (by rw [hw]; rfl) rfl⟩
     ·repeat' (first | apply zC | apply zG | apply zD | apply zA | apply zB | refine zF (by simp only [go_sem, hw]; rfl) qR ?_ ?_ | refine zL K52 (by simp only [go_sem, hw]; first | done | rfl) ?_ ⟨p, t, j, hl, by omega, rfl, rfl⟩ (by simp only [go_sem, hw]; rfl) ?_ | exact True.intro | exact rfl | fail)
      refine zM [2, 3, 4, 5, 9, 11, 12, 13] (fun x : Nat × Unit => [(14, .int .i64 x.1)]) (fun x : Nat × Unit => []) (fun x : Nat × Unit => x.1 ≤ j + 1 ∧ ∀ i, i < x.1 → ((i &&& j == i) && A i) = false) (fun x : Nat × Unit => j + 1 - x.1) (0, ()) (fun x => qS) ?_ qL qL ?_
      ·exact ⟨Nat.zero_le _, fun i h => absurd h (Nat.not_lt_zero i)⟩
      rintro ⟨i, _⟩ ⟨r1, r2⟩
      simp only at r1 r2
      repeat' (first | apply zC | apply zA | apply zB | refine zF qS qR ?_ ?_ | exact rfl | exact qP | fail)
      (refine zE qS ?_ ?_ <;> intro hb <;> have hc := hb <;> (try simp only [bF] at hc) <;> (try (exfalso; simp at hc; done)))
      ·have hi : i ≤ j := by simp at hb; omega
       have e1 := band i j (by omega) (by omega)
       have e2 : (((i &&& j : Nat) : Int) == (i : Int)) = (i &&& j == i) := by
        rw [Bool.eq_iff_iff, beq_iff_eq, beq_iff_eq]; omega
       cases h3 : (i &&& j == i)
       ·repeat' (first | apply zC | apply zG | apply zD | apply zK | apply zA | apply zB | refine zF (by simp only [go_sem, e1, e2, h3]; rfl) qR ?_ ?_ | (refine zE (by simp only [go_sem, e1, e2, h3]; rfl) ?_ ?_ <;> intro hb <;> have hc := hb <;> (try simp only [bF] at hc) <;> (try (exfalso; simp at hc; done))) | refine zR (i+1,()) ?_ ?_ ⟨rfl, qL, qL⟩ | exact True.intro | exact rfl | omega | exact qP | fail)
        refine ⟨by simp only; omega, fun z hz => ?_⟩
        by_cases hzi : z = i
        ·subst hzi; rw [h3]; rfl
        ·exact r2 z (by simp only at hz; omega)
       ·cases h4 : A i
        ·repeat' (first | apply zC | apply zG | apply zD | apply zK | apply zA | apply zB | refine zF (by simp only [go_sem, e1, e2, h3, h4]; rfl) qR ?_ ?_ | (refine zE (by simp only [go_sem, e1, e2, h3, h4]; rfl) ?_ ?_ <;> intro hb <;> have hc := hb <;> (try simp only [bF] at hc) <;> (try (exfalso; simp at hc; done))) | refine zR (i+1,()) ?_ ?_ ⟨rfl, qL, qL⟩ | exact True.intro | exact rfl | omega | exact qP | fail)
         refine ⟨by simp only; omega, fun z hz => ?_⟩
         by_cases hzi : z = i
         ·subst hzi; rw [h4]; simp
         ·exact r2 z (by simp only at hz; omega)
        ·have hyes : ((List.range M).any fun set => wholeR p t set && (List.range (set + 1)).any fun part => (part &&& set == part) && A part) = true := by
          rw [List.any_eq_true]
          refine ⟨j, List.mem_range.2 hj, ?_⟩
          rw [hw, Bool.true_and, List.any_eq_true]
          exact ⟨i, List.mem_range.2 (by omega), by rw [h3, h4]; rfl⟩
         rw [hyes]
         repeat' (first | apply zC | apply zG | apply zD | apply zA | apply zB | refine zF (by simp only [go_sem, e1, e2, h3, h4]; rfl) qR ?_ ?_ | (refine zE (by simp only [go_sem, e1, e2, h3, h4]; rfl) ?_ ?_ <;> intro hb <;> have hc := hb <;> (try simp only [bF] at hc) <;> (try (exfalso; simp at hc; done))) | refine zI qR ?_ | exact True.intro | exact rfl | exact SLe0.bool rfl | exact qP | fail)
         all_goals skip
      ·have hij : i = j + 1 := by simp at hb; omega
       have hno : ((List.range (j + 1)).any fun part => (part &&& j == part) && A part) = false := (any_lt _).2 fun z hz => r2 z (by omega)
       repeat' (first | apply zK | apply zA | apply zB | refine zF qS qR ?_ ?_ | refine zJ qR ?_ | refine zR (j+1,()) ?_ ?_ ⟨rfl, qL, qL⟩ | exact True.intro | exact rfl | omega)
       exact ⟨by simp only; omega, hE false (by rw [hw, hno]; rfl) rfl⟩
    ·have hall : ((List.range M).any fun set => wholeR p t set && (List.range (set + 1)).any fun part => (part &&& set == part) && A part) = false := (any_lt _).2 fun z hz => q2 z (by omega)
     rw [hall]
     repeat' (first | apply zC | apply zA | apply zB | refine zF qS qR ?_ ?_ | refine zI qR ?_ | refine zJ qR ?_ | exact True.intro | exact rfl | exact SLe0.bool rfl | fail)
     all_goals skip
 ·have hc1 : (chkP d p != 0) = true := by simpa using hck
  have hv : derR d p s l day = false := by simp [derR, hck]
  rw [hv]
  repeat' (first | apply zC | apply zA | apply zB | refine zF (by simp only [go_sem, hc1]; rfl) qR ?_ ?_ | refine zL K48x (by simp only [go_sem, hc1]; first | done | rfl) ?_ ⟨p, hp, rfl, rfl⟩ (by simp only [go_sem, hc1]; rfl) ?_ | refine runL_gF 18 (by simp only [go_sem, hc1]; rfl) qR (by simp only [go_sem, hc1]; first | done | rfl) (by simp only [go_sem, hc1]; rfl) ?_ | (refine zE (by simp only [go_sem, hc1]; rfl) ?_ ?_ <;> intro hb <;> have hc := hb <;> (try simp only [bF] at hc) <;> (try (exfalso; simp at hc; done))) | refine zI qR ?_ | exact True.intro | exact rfl | exact SLe0.bool rfl | exact qP | fail)
  all_goals skip
end Go.Sx
