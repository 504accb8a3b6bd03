/- Part of the proof that the laws of the judge return true for every input: J44, J46, J47. -/
import Derived.Test.YtmbocmonhcplhaaGreatJ42
import Derived.Test.YtmbocmonhcplhaaGreatJ45
set_option linter.all false
namespace Go.Sx
open Go.Proofs Go.RowKit
def cutS (M : Nat) (S : Nat → Bool) : Nat → Bool := fun z => decide (z < M) && S z
theorem cutS_Rl (M : Nat) {S S' : Nat → Bool} (h : ∀ z, z < M → S z = S' z) : Rl M (cutS M S) S' :=
 ⟨fun z hz => by simp only [cutS]; rw [decide_eq_true hz, Bool.true_and, h z hz], fun z hz => by simp only [cutS, Bool.and_eq_true, decide_eq_true_eq] at hz; exact hz.1⟩
theorem refA_congr (s : Scale) (l : List Ach) (hl : l.length ≤ 10) (d : Nat) (n : Need) {M : Nat} (hM : M = 2 ^ l.length) (S S' : Nat → Bool) (h : ∀ z, z < M → S z = S' z) (z : Nat) (hz : z < M) : refA s l M d n S z = refA s l M d n S' z := by
 subst hM
 have h1 := aft_refA s l hl d n _ _ (cutS_Rl (2 ^ l.length) (S := S) (S' := S) fun _ _ => rfl)
 have h2 := aft_refA s l hl d n _ _ (cutS_Rl (2 ^ l.length) h)
 rw [← h1.1 z hz, h2.1 z hz]
theorem K51_none : FnOK Tryz.prog 51 (fun ds v => ∃ (n : Need) (s : Scale) (l : List Ach) (M : Nat) (S : Nat → Bool), (False ∧ l.length ≤ 10 ∧ M = 2 ^ l.length) ∧ ds = [eNeedU n, eScale s, eList 8 eAch l, eB M S] ∧ v = eB M S) := by
 refine fn_intro Tryz.call51 Tryz.func51 rfl Tryz.ntmps51 ?_
 rintro ds d ⟨_, _, _, _, _, ⟨h, _⟩, _⟩
 exact h.elim
theorem K51 : ∀ d : Nat, FnOK Tryz.prog 51 (fun ds v => ∃ (n : Need) (s : Scale) (l : List Ach) (M : Nat) (S : Nat → Bool), ((MOk d n ∧ NN d n) ∧ l.length ≤ 10 ∧ M = 2 ^ l.length) ∧ ds = [eNeedU n, eScale s, eList 8 eAch l, eB M S] ∧ v = eB M (refA s l M d n S))
 | 0 => by
  refine (K51s (fun _ => False) (fun _ _ _ _ S => S) (fun _ _ _ _ _ _ S S' h z hz => h z hz) K51_none).weaken ?_
  rintro ds v ⟨n, s, l, M, S, ⟨⟨hn, hN⟩, hl, hM⟩, rfl, rfl⟩
  have hL : n.L = [] := hn
  refine ⟨n, s, l, M, S, ⟨⟨fun m hm => (by rw [hL] at hm; cases hm), by rw [hL]; simp, hN⟩, hl, hM⟩, rfl, ?_⟩
  simp only [refA, hL, List.map_nil, List.length_nil]
  rfl
 | d + 1 => by
  refine (K51s (fun n => MOk d n ∧ NN d n) (fun s l M n S => refA s l M d n S) (fun s l M m hl hM S S' h z hz => refA_congr s l hl d m hM S S' h z hz) (K51 d)).weaken ?_
  rintro ds v ⟨n, s, l, M, S, ⟨⟨hn, hN⟩, hl, hM⟩, rfl, rfl⟩
  refine ⟨n, s, l, M, S, ⟨⟨fun m hm => ⟨hn.2.2 m hm, hN.2 m hm⟩, hn.1, hN.1⟩, hl, hM⟩, rfl, rfl⟩
end Go.Sx
namespace Go.Sx
section
variable {P : Program} {F : List Nat} {w0 : Base} {s : St} {ops : Array Oper} {Q : Exit → Act → World → Prop} {rest : List Oper}
theorem stepinvW {t : Nat} {name : String} {x : Operand} {dI : SD} {args : Array Operand} {tys : Array Nat} {ty : Nat} {pos : String} {af : Array Edge} {ds : List SD} {d : SD} {s' : St} (hI : InvOK P dI name ds d)
  (hx : ev s x = dI) (ha : args.toList.map (unG s) = ds) (hg : allP (gCs s args.toList [])) (hs : cstep s t d = some s')
  (hn : RunL P F w0 ops Q rest s') : RunL P F w0 ops Q (⟨some t, .call ⟨.invoke x name, args, tys⟩, ty, pos, af, none⟩ :: rest) s := by
 obtain ⟨tx, l0, f, R, rfl, hm, hf, hR⟩ := hI
 subst ha
 exact stepinvV hm hf hx rfl hg hR hs hn
end
open Go.Proofs Go.RowKit
attribute [local irreducible] Run RunL RunD OpT SLe0 SLe OLe
set_option maxHeartbeats 2000000
set_option maxRecDepth 8000
set_option maxHeartbeats 8000000
attribute [local irreducible] cM dM
theorem S0_ins : insS 0 (fun _ => false) = S0 := by funext z; simp [insS, S0]
theorem mapS0 : (.mp ⟨some .i64, 1, addK (MK.i 0) (fun _ => false), fT, none⟩ [] : OB) = oSet S0 := by
 have h := noneE
 simp only [oSet, OB.mp.injEq, MD.mk.injEq] at h
 have hc : (0 : Nat) = cM fun _ => false := h.1.2.1
 have hd : (fun _ => false) = dM fun _ => false := h.1.2.2.1
 have a1 := add_dM (fun _ => false) 0 (by decide)
 have a2 := add_cM (fun _ => false) 0 (by decide)
 rw [← hd] at a1 a2
 rw [← hc] at a2
 simp only [oSet, ← S0_ins]
 rw [← a2, ← a1]
 rfl
theorem any_lt {g : Nat → Bool} (m : Nat) : ((List.range m).any g = false) ↔ ∀ j, j < m → g j = false := by
 simp [List.any_eq_false]
theorem K14 (d : Nat) (hd : 1 + d ≤ 100) (hcn : cntB d ≤ 10000) : FnOK Tryz.prog 14 (fun ds v => ∃ (p : Programme) (s : Scale) (l : List Ach) (day : Int), POk d p ∧ ds = [eProg p, eScale s, eList 8 eAch l, eInt day] ∧ v = .bool (derF d p s l day)) := by
 have K40x := K40 d hd
 have K46x := K46 d hcn
 have K45x := K45 d
 refine fn_intro Tryz.call14 Tryz.func14 rfl Tryz.ntmps14 ?_
 rintro ds d ⟨p, s, l, day, hp, rfl, rfl⟩
 refine ⟨by simp, fun w0 => ?_⟩
 by_cases hck : chkP d p = 0
 ·have hc1 : (chkP d p != 0) = false := by simpa using hck
  cases hs : okScale s
  ·have hv : derF d p s l day = false := by simp [derF, hs]
   rw [hv]
   repeat' (first | apply zC | apply zA | apply zB | refine zF (by simp only [go_sem, hc1, hs]; rfl) qR ?_ ?_ | refine zM K40x (by simp only [go_sem, hc1, hs]; first | done | rfl) ?_ ⟨p, hp, rfl, rfl⟩ (by simp only [go_sem, hc1, hs]; rfl) ?_ | refine zV 17 qR (by simp only [go_sem, hc1, hs]; rfl) K41 (by simp only [go_sem, hc1, hs]; first | done | rfl) (fun hg => ?_) (fun _ => ⟨_, rfl, rfl⟩) (by simp only [go_sem, hc1, hs]; rfl) ?_ | (refine zE (by simp only [go_sem, hc1, hs]; rfl) ?_ ?_ <;> intro hb <;> have hc := hb <;> (try simp only [bF] at hc) <;> (try (exfalso; simp at hc; done))) | refine zI qR ?_ | exact True.intro | exact rfl | exact SLe0.bool rfl | exact qP | fail)
   all_goals skip
  ·have hu : derF d p s l day = (decide ((l.filter fun a => !tooOld p day a).length ≤ 10) && (List.range (2 ^ (l.filter fun a => !tooOld p day a).length)).any fun set => wholeR p (l.filter fun a => !tooOld p day a) set && (List.range 1024).any fun part => aft s (l.filter fun a => !tooOld p day a) d p.Need S0 part && (part &&& set == part)) := by
    rw [derF, hs, decide_eq_true hck, Bool.true_and, Bool.true_and]
   rw [hu]
   obtain ⟨y, hy⟩ : ∃ y, (l.filter fun a => !tooOld p day a) = y := ⟨_, rfl⟩
   rw [hy]
   have hv : ∀ a, FnV Tryz.prog 43 [.fp (pCells p), .fp [.int .i64 day]] [eAch a] (.bool (tooOld p day a)) := fun a => ⟨_, K43, p, day, a, rfl, rfl⟩
   repeat' (first | apply zC | apply zA | apply zB | refine zF (by simp only [go_sem, hc1, hs]; rfl) qR ?_ ?_ | refine zM K40x (by simp only [go_sem, hc1, hs]; first | done | rfl) ?_ ⟨p, hp, rfl, rfl⟩ (by simp only [go_sem, hc1, hs]; rfl) ?_ | refine zV 17 qR (by simp only [go_sem, hc1, hs]; rfl) K41 (by simp only [go_sem, hc1, hs]; first | done | rfl) (fun hg => ?_) (fun _ => ⟨_, rfl, rfl⟩) (by simp only [go_sem, hc1, hs]; rfl) ?_ | exact True.intro | exact rfl | exact qP | fail)
   (refine zE qS ?_ ?_ <;> intro hb <;> have hc := hb <;> (try simp only [bF] at hc) <;> (try (exfalso; simp at hc; done)))
   refine zO 0 qS ?_
   refine zO 2 qS ?_
   repeat' (first | apply zC | apply zG | apply zA | refine zF qS qR ?_ ?_ | exact True.intro | exact rfl | fail)
   refine stepcallA A27 qD ?_ ⟨l, rfl, rfl, rfl, rfl, rfl⟩ qS ?_
   ·repeat' (first | exact True.intro | fail)
   repeat' (first | apply zC | apply zA | apply zB | refine zF (by simp only [go_sem, hy]; rfl) qR ?_ ?_ | refine zW [3] K42 qR (by simp only [go_sem, hy]; first | done | rfl) (by simp only [go_sem, hy]) (by first | (simp only [go_sem, hy]; done) | (simp only [go_sem, hy]; rfl)) ?_ ⟨l, 43, [.fp (pCells p), .fp [.int .i64 day]], tooOld p day, ⟨hv, fun _ _ _ _ => rfl, fun _ => rfl⟩, rfl, rfl, rfl, rfl⟩ (by simp only [go_sem, hy]; rfl) ?_ | exact True.intro | exact rfl | fail)
   (refine zE qS ?_ ?_ <;> intro hb <;> have hc := hb <;> (try simp only [bF] at hc) <;> (try (exfalso; simp at hc; done)))
   ·have h10 : ¬ y.length ≤ 10 := by have := of_decide_eq_true hb; omega
    rw [decide_eq_false h10]
    repeat' (first | apply zC | apply zA | apply zB | refine zF qS qR ?_ ?_ | refine zI qR ?_ | exact True.intro | exact rfl | exact SLe0.bool rfl | fail)
    all_goals skip
   have hl : y.length ≤ 10 := by have := of_decide_eq_false hb; omega
   rw [decide_eq_true hl, Bool.true_and]
   have hcnt := chkP_cnt hp hck
   have hM := chkP_M hp hck
   have hI := afterI s y hl d p.Need S0 ⟨chkP_M hp hck, chkP_NN hck⟩
   generalize hA : aft s y d p.Need S0 = A at hI ⊢
   have hc2 : decide ((cntW d p.Need : Int) < 1) = false := decide_eq_false (by omega)
   have h2k : (2 : Nat) ^ y.length ≤ 2 ^ 10 := Nat.pow_le_pow_right (by omega) hl
   have esh := bshl y.length (by omega)
   clear hv hy hu hcnt hck hA
   refine zO 3 qS ?_
   repeat' (first | apply zC | apply zG | apply zA | apply zB | refine zF (by simp only [go_sem, hc2, esh]; rfl) qR ?_ ?_ | refine zM K45x (by simp only [go_sem, hc2, esh]; first | done | rfl) ?_ ⟨p.Need, s, y, ⟨hM, hl⟩, rfl, rfl⟩ (by simp only [go_sem, hc2, esh]; rfl) ?_ | refine zM K46x (by simp only [go_sem, hc2, esh]; first | done | rfl) ?_ ⟨p.Need, s, y, hM, rfl, rfl⟩ (by simp only [go_sem, hc2, esh]; rfl) ?_ | refine stepmk (fT) (by simp only [go_sem, hc2, esh]; rfl) (by simp only [go_sem, hc2, esh]; rfl) ?_ | refine stepmi (by simp only [go_sem, hc2, esh]; rfl) ?_ ?_ ?_ | (refine zE (by simp only [go_sem, hc2, esh]; rfl) ?_ ?_ <;> intro hb <;> have hc := hb <;> (try simp only [bF] at hc) <;> (try (exfalso; simp at hc; done))) | exact True.intro | exact rfl | fail)
   ·exact ⟨by decide, trivial⟩
   refine runL_accLe (o' := oSet S0) 4 qR (ole_eq mapS0) ?_
   refine runL_frz 4 qS ?_
   repeat' (first | (show Run _ _ _ _ _ _; first | apply zC | apply zG | apply zD | apply zL | apply zA | apply zP | refine zI qR ?_ | refine run_retA qR qR qR ?_ ?_ | refine run_retA0 qR qR ?_ | refine yA qR qS ?_ | refine yC qR qS ?_ ?_ | refine run_endM qR ?_ ?_ | refine run_retMX qR qS ?_ ?_ | refine zK qR ?_) | (show RunL _ _ _ _ _ _ _; first | apply zB | refine zF qS qR ?_ ?_ | refine runL_gT 17 qR qD ?_ | refine runL_gF 17 qS qR qD qS ?_ | refine runL_gF0 17 qR qD qS ?_ | refine yG qS qZ qZ (fun bn hbn => ?_) | refine stepnif qF qR qS ?_) | (show RunD _ _ _ _ _ _ _ _ _ _; first | refine zU qS qR ?_ ?_ | refine zQ qK qK ?_) | exact True.intro | exact rfl | exact SLe.refl _ | omega | exact SLe0.bool rfl | refine SLe0.bool ?_ | refine SLe0.int ?_ | refine SLe0.str ?_ | exact SLe0.pure rfl | (show SLe _ _; simp only [go_sem]; repeat' (first | exact trivial | exact True.intro | exact SLe.refl _ | exact OLe.refl _ | exact ⟨_, rfl, OLe.refl _⟩ | refine ⟨_, rfl, ?_⟩ | refine OLe.var ?_ | (show SLeL _ _; refine ⟨?_, ?_⟩) | (show SLeL [] []; exact True.intro) | (refine SLe.int ?_; rw [w64]; omega) | refine SLe.int ?_ | refine SLe.bool ?_ | apply And.intro)) | (show subO _ _; simp only [go_sem]; repeat' (first | exact trivial | exact True.intro | exact SLe.refl _ | exact OLe.refl _ | exact ⟨_, rfl, OLe.refl _⟩ | refine ⟨_, rfl, ?_⟩ | refine OLe.var ?_ | (show SLeL _ _; refine ⟨?_, ?_⟩) | (show SLeL [] []; exact True.intro) | (refine SLe.int ?_; rw [w64]; omega) | refine SLe.int ?_ | refine SLe.bool ?_ | apply And.intro)) | exact qP | fail)
   refine stepinvW hI qD qD ?_ qS ?_
   ·repeat' (first | exact True.intro | fail)
   repeat' (first | apply zC | apply zD | apply zA | apply zB | refine zF (by simp only [go_sem, esh]; rfl) qR ?_ ?_ | exact True.intro | exact rfl | exact qP | fail)
   refine zN [4, 9, 11, 43] (fun x : Nat × Unit => [(44, .int .i64 x.1)]) (fun x : Nat × Unit => []) (fun x : Nat × Unit => x.1 ≤ 2 ^ y.length ∧ ∀ j, j < x.1 → (wholeR p y j && (List.range 1024).any fun part => A part && (part &&& j == part)) = false) (fun x : Nat × Unit => 2 ^ y.length - x.1) (0, ()) (fun x => qS) ?_ qL qL ?_
   ·exact ⟨Nat.zero_le _, fun j h => absurd h (Nat.not_lt_zero j)⟩
   rintro ⟨k, _⟩ ⟨g1, g2⟩
   simp only at g1 g2
   repeat' (first | apply zC | apply zA | apply zB | refine zF qS qR ?_ ?_ | exact True.intro | exact rfl | fail)
   (refine zE qS ?_ ?_ <;> intro hb <;> have hc := hb <;> (try simp only [bF] at hc) <;> (try (exfalso; simp at hc; done)))
   ·have hk : k < 2 ^ y.length := by assumption
    repeat' (first | apply zC | apply zG | apply zD | apply zA | apply zB | refine zF qS qR ?_ ?_ | refine zM K47 qD ?_ ⟨p, y, k, hl, by omega, rfl, rfl⟩ qS ?_ | exact True.intro | exact rfl | fail)
    (refine zE qS ?_ ?_ <;> intro hb <;> have hc := hb <;> (try simp only [bF] at hc) <;> (try (exfalso; simp at hc; done)))
    ·have hw : wholeR p y k = false := by simpa using hb
     repeat' (first | apply zA | apply zB | refine zF qS qR ?_ ?_ | refine zK qR ?_ | refine zS (k+1,()) ?_ ?_ ⟨rfl, qL, qL⟩ | exact True.intro | exact rfl | omega)
     refine ⟨by simp only; omega, fun j hj => ?_⟩
     by_cases hjk : j = k
     ·subst hjk; rw [hw]; rfl
     ·exact g2 j (by simp only at hj; omega)
    ·have hw : wholeR p y k = true := by simpa using hb
     repeat' (first | apply zC | apply zG | apply zD | apply zA | apply zB | refine zF qS qR ?_ ?_ | refine steprng qS qS qS ?_ | exact True.intro | exact rfl | fail)
     have h1024 : k < 1024 := by omega
     refine zN [4, 9, 11, 12, 43, 44, 53] (fun x : (MK → Bool) × Option MK × Nat => []) (fun x : (MK → Bool) × Option MK × Nat => [(5, .mp ⟨some .i64, cM A, dM A, fT, some (.iter x.2.2 x.1 x.2.1)⟩ [])]) (fun x : (MK → Bool) × Option MK × Nat => ∀ z, z < 1024 → x.1 (.i ((z : Nat) : Int)) = true → A z = true → (z &&& k == z) = false) (fun x : (MK → Bool) × Option MK × Nat => x.2.2) ((fun _ => false), none, cM A) (fun x => qS) ?_ qL qL ?_
     ·intro z _ h; cases h
     rintro ⟨V, cur, c⟩ r1
     simp only at r1
     repeat' (first | apply zC | apply zA | exact rfl | fail)
     refine stepnxt qS qS qR (fun hdone => ?_) (fun q c' hlt hdom hV => ?_)
     ·have hno : (wholeR p y k && (List.range 1024).any fun part => A part && (part &&& k == part)) = false := by
       rw [hw, Bool.true_and]
       refine (any_lt _).2 fun z hz => ?_
       cases hA : A z
       ·rfl
       ·rw [r1 z hz (hdone _ (by rw [dM_nat _ _ hz]; exact hA)) hA]; rfl
      repeat' (first | apply zC | apply zB | refine zF qS qR ?_ ?_ | exact True.intro | fail)
      (refine zE qS ?_ ?_ <;> intro hb <;> have hc := hb <;> (try simp only [bF] at hc) <;> (try (exfalso; simp at hc; done)))
      repeat' (first | apply zL | apply zA | apply zB | refine zF qS qR ?_ ?_ | refine zK qR ?_ | exact True.intro | exact rfl | fail)
      refine zS (k + 1, ()) ?_ ?_ ⟨rfl, qL, qL⟩
      ·refine ⟨by simp only; omega, fun j hj => ?_⟩
       by_cases hjk : j = k
       ·subst hjk; exact hno
       ·exact g2 j (by simp only at hj; omega)
      ·simp only; omega
     ·obtain ⟨y0, hy0, hy, hS0⟩ := dM_inv hdom
      obtain rfl : q = (y0 : Int) := by simpa using hy
      have e1 := band y0 k (by omega) (by omega)
      have e2 : (((y0 &&& k : Nat) : Int) == (y0 : Int)) = (y0 &&& k == y0) := by
       rw [Bool.eq_iff_iff, beq_iff_eq, beq_iff_eq]; omega
      repeat' (first | apply zC | apply zB | refine zF qS qR ?_ ?_ | exact True.intro | fail)
      (refine zE qS ?_ ?_ <;> intro hb <;> have hc := hb <;> (try simp only [bF] at hc) <;> (try (exfalso; simp at hc; done)))
      repeat' (first | apply zC | apply zG | apply zD | apply zA | apply zB | refine zF (by simp only [go_sem, e1, e2]; rfl) qR ?_ ?_ | refine stepent (by simp only [go_sem, e1, e2]; rfl) (by simp only [go_sem, e1, e2]; rfl) (by simp only [go_sem, e1, e2]; rfl) ?_ | exact True.intro | exact rfl | fail)
      (refine zE qS ?_ ?_ <;> intro hb <;> have hc := hb <;> (try simp only [bF] at hc) <;> (try (exfalso; simp at hc; done)))
      ·have hyes : ((List.range (2 ^ y.length)).any fun set => wholeR p y set && (List.range 1024).any fun part => A part && (part &&& set == part)) = true := by
        rw [List.any_eq_true]
        refine ⟨k, List.mem_range.2 hk, ?_⟩
        rw [hw, Bool.true_and, List.any_eq_true]
        exact ⟨y0, List.mem_range.2 hy0, by rw [hS0, hb]; rfl⟩
       rw [hyes]
       repeat' (first | apply zC | apply zA | apply zB | refine zF qS qR ?_ ?_ | refine zI qR ?_ | exact True.intro | exact rfl | exact SLe0.bool rfl | fail)
       all_goals skip
      ·repeat' (first | apply zG | apply zL | fail)
       refine zS (addK (.i (y0 : Int)) V, some (.i (y0 : Int)), c') ?_ ?_ ⟨rfl, qL, qL⟩
       ·intro z hz hVz hAz
        simp only [addK, Bool.or_eq_true, decide_eq_true_eq, MKi] at hVz
        rcases hVz with h | h
        ·have : z = y0 := by omega
         rw [this]; exact hb
        ·exact r1 z hz h hAz
       ·exact hlt
   ·have hall : ((List.range (2 ^ y.length)).any fun set => wholeR p y set && (List.range 1024).any fun part => A part && (part &&& set == part)) = false := (any_lt _).2 fun j hj => g2 j (by omega)
    rw [hall]
    repeat' (first | apply zC | apply zA | apply zB | refine zF qS qR ?_ ?_ | refine zI qR ?_ | refine zK qR ?_ | exact True.intro | exact rfl | exact SLe0.bool rfl | fail)
    all_goals skip
 ·have hc1 : (chkP d p != 0) = true := by simpa using hck
  have hv : derF d p s l day = false := by simp [derF, hck]
  rw [hv]
  repeat' (first | apply zC | apply zA | apply zB | refine zF (by simp only [go_sem, hc1]; rfl) qR ?_ ?_ | refine zM K40x (by simp only [go_sem, hc1]; first | done | rfl) ?_ ⟨p, hp, rfl, rfl⟩ (by simp only [go_sem, hc1]; rfl) ?_ | refine runL_gF 17 (by simp only [go_sem, hc1]; rfl) qR (by simp only [go_sem, hc1]; first | done | rfl) (by simp only [go_sem, hc1]; rfl) ?_ | (refine zE (by simp only [go_sem, hc1]; rfl) ?_ ?_ <;> intro hb <;> have hc := hb <;> (try simp only [bF] at hc) <;> (try (exfalso; simp at hc; done))) | refine zI qR ?_ | exact True.intro | exact rfl | exact SLe0.bool rfl | exact qP | fail)
  all_goals skip
end Go.Sx
namespace Go.Sx
open Go.Proofs Go.RowKit
attribute [local irreducible] Run RunL RunD OpT SLe0 SLe OLe
set_option maxHeartbeats 2000000
set_option maxRecDepth 8000
set_option maxHeartbeats 8000000
theorem K15 (d : Nat) (hd : 1 + d ≤ 100) (hcn : cntB d ≤ 10000) : FnOK Tryz.prog 15 (fun ds v => ∃ (p : Programme) (s : Scale) (l : List Ach) (day : Int), POk d p ∧ ds = [eProg p, eScale s, eList 8 eAch l, eInt day] ∧ v = .bool (derR d p s l day)) := by
 have K48x := K48 d hd
 have K51x := K51 d
 refine fn_intro Tryz.call15 Tryz.func15 rfl Tryz.ntmps15 ?_
 rintro ds d ⟨p, s, l, day, hp, rfl, rfl⟩
 refine ⟨by simp, fun w0 => ?_⟩
 refine run_len 2 rfl fun hll => ?_
 by_cases hck : chkP d p = 0
 ·have hc1 : (chkP d p != 0) = false := by simpa using hck
  cases hs : okScale s
  ·have hv : derR d p s l day = false := by simp [derR, hs]
   rw [hv]
   repeat' (first | apply zC | apply zA | apply zB | refine zF (by simp only [go_sem, hc1, hs]; rfl) qR ?_ ?_ | refine zM K48x (by simp only [go_sem, hc1, hs]; first | done | rfl) ?_ ⟨p, hp, rfl, rfl⟩ (by simp only [go_sem, hc1, hs]; rfl) ?_ | refine zV 18 qR (by simp only [go_sem, hc1, hs]; rfl) K49 (by simp only [go_sem, hc1, hs]; first | done | rfl) (fun hg => ?_) (fun _ => ⟨_, rfl, rfl⟩) (by simp only [go_sem, hc1, hs]; rfl) ?_ | (refine zE (by simp only [go_sem, hc1, hs]; rfl) ?_ ?_ <;> intro hb <;> have hc := hb <;> (try simp only [bF] at hc) <;> (try (exfalso; simp at hc; done))) | refine zI qR ?_ | exact True.intro | exact rfl | exact SLe0.bool rfl | exact qP | fail)
   all_goals skip
  ·have hu : derR d p s l day = (decide ((l.filter fun a => keepR p day a).length ≤ 10) && (List.range (2 ^ (l.filter fun a => keepR p day a).length)).any fun set => wholeR p (l.filter fun a => keepR p day a) set && (List.range (set + 1)).any fun part => (part &&& set == part) && refA s (l.filter fun a => keepR p day a) (2 ^ (l.filter fun a => keepR p day a).length) d p.Need S0 part) := by
    rw [derR, hs, decide_eq_true hck, Bool.true_and, Bool.true_and]
   rw [hu]
   repeat' (first | apply zC | apply zA | apply zB | refine zF (by simp only [go_sem, hc1, hs]; rfl) qR ?_ ?_ | refine zM K48x (by simp only [go_sem, hc1, hs]; first | done | rfl) ?_ ⟨p, hp, rfl, rfl⟩ (by simp only [go_sem, hc1, hs]; rfl) ?_ | refine zV 18 qR (by simp only [go_sem, hc1, hs]; rfl) K49 (by simp only [go_sem, hc1, hs]; first | done | rfl) (fun hg => ?_) (fun _ => ⟨_, rfl, rfl⟩) (by simp only [go_sem, hc1, hs]; rfl) ?_ | exact True.intro | exact rfl | exact qP | fail)
   (refine zE qS ?_ ?_ <;> intro hb <;> have hc := hb <;> (try simp only [bF] at hc) <;> (try (exfalso; simp at hc; done)))
   repeat' (first | apply zC | apply zG | apply zD | apply zA | apply zB | refine zF qS qR ?_ ?_ | exact True.intro | exact rfl | fail)
   refine yF 9 65 8 (fun i => eAch (([] : List Ach).getD i default)) rfl rfl rfl ?_
   refine zN [2, 3, 4, 5, 9] (fun x : Nat × List Ach => [(10, .int .i64 x.1)]) (fun x : Nat × List Ach => [(2, aAch x.2)]) (fun x : Nat × List Ach => (x.1 ≤ l.length ∧ x.2.length ≤ x.1) ∧ x.2 = (l.take x.1).filter fun a => keepR p day a) (fun x : Nat × List Ach => l.length - x.1) (0, []) (fun x => qS) ?_ qL qL ?_
   ·exact ⟨⟨Nat.zero_le _, Nat.zero_le _⟩, rfl⟩
   rintro ⟨k, t⟩ ⟨⟨g1, g2⟩, g3⟩
   simp only at g1 g2 g3
   repeat' (first | apply zC | apply zA | apply zB | refine zF qS qR ?_ ?_ | exact True.intro | exact rfl | fail)
   (refine zE qS ?_ ?_ <;> intro hb <;> have hc := hb <;> (try simp only [bF] at hc) <;> (try (exfalso; simp at hc; done)))
   ·have hk : k < l.length := by assumption
    have htk : ((l.take (k + 1)).filter fun a => keepR p day a) = t ++ if keepR p day (l.getD k default) then [l.getD k default] else [] := by
     rw [List.take_add_one, List.filter_append, ← g3, List.getD_eq_getElem?_getD, List.getElem?_eq_getElem hk]
     congr 1
     simp only [Option.toList, Option.getD_some, List.filter_cons, List.filter_nil]
    repeat' (first | apply zC | apply zG | apply zD | apply zP | refine zU qS qR ?_ ?_ | refine zQ qK qK ?_ | refine runDcallg 32 qR qS K50 qD (fun hg => ?_) (fun _ => ⟨_, rfl, rfl⟩) qS ?_ | exact qP | fail)
    (refine zE qS ?_ ?_ <;> intro hb <;> have hc := hb <;> (try simp only [bF] at hc) <;> (try (exfalso; simp at hc; done)))
    ·have hb2 : keepR p day (l.getD k default) = true := hb
     rw [hb2, if_pos rfl] at htk
     repeat' (first | apply zL | apply zA | apply zB | refine zF qS qR ?_ ?_ | exact True.intro | exact rfl | exact qP | fail)
     refine zR (o' := aAch (t ++ [l.getD k default])) 2 qR (ole_snoc eAch t (l.getD k default) rfl) ?_
     refine zS (k + 1, t ++ [l.getD k default]) ?_ ?_ ⟨rfl, qL, qL⟩
     ·exact ⟨⟨by simp only; omega, by simp; omega⟩, htk.symm⟩
     ·simp only; omega
    ·have hb2 : keepR p day (l.getD k default) = false := hb
     rw [hb2, if_neg (by simp), List.append_nil] at htk
     repeat' (first | apply zG | apply zL | apply zA | apply zB | refine zF qS qR ?_ ?_ | refine zS (k+1,t) ?_ ?_ ⟨rfl, qL, qL⟩ | exact True.intro | exact rfl | omega)
     exact ⟨⟨by simp only; omega, by simp only; omega⟩, htk.symm⟩
   ·have hy : (l.filter fun a => keepR p day a) = t := by rw [g3, List.take_of_length_le (by omega)]
    rw [hy]
    clear hy g3 hu
    repeat' (first | apply zC | apply zA | apply zB | refine zF qS qR ?_ ?_ | refine zK qR ?_ | exact True.intro | exact rfl | fail)
    (refine zE qS ?_ ?_ <;> intro hb <;> have hc := hb <;> (try simp only [bF] at hc) <;> (try (exfalso; simp at hc; done)))
    ·have h10 : ¬ t.length ≤ 10 := by have := of_decide_eq_true hb; omega
     rw [decide_eq_false h10]
     repeat' (first | apply zC | apply zA | apply zB | refine zF qS qR ?_ ?_ | refine zI qR ?_ | exact True.intro | exact rfl | exact SLe0.bool rfl | fail)
     all_goals skip
    have hl : t.length ≤ 10 := by have := of_decide_eq_false hb; omega
    rw [decide_eq_true hl, Bool.true_and]
    have h2k : (2 : Nat) ^ t.length ≤ 2 ^ 10 := Nat.pow_le_pow_right (by omega) hl
    have h2p : 0 < (2 : Nat) ^ t.length := Nat.two_pow_pos _
    have esh := bshl t.length (by omega)
    have hNN := chkP_NN hck
    refine zO 2 qS ?_
    generalize hM : 2 ^ t.length = M at esh h2k h2p ⊢
    repeat' (first | apply zC | apply zG | apply zA | apply zB | refine zF (by simp only [go_sem, esh]; rfl) qR ?_ ?_ | exact True.intro | exact rfl | exact qP | fail)
    refine runL_accLe (o' := aB M S0) 3 qR (ole_bool fun i hi => ?_) ?_
    ·simp only [setF, S0]
     by_cases h : i = 0
     ·subst h; rfl
     ·rw [if_neg h]; simp [h]
    refine runL_frz 3 qS ?_
    generalize hA : refA s t M d p.Need S0 = A
    repeat' (first | apply zC | apply zD | apply zA | apply zB | refine zF (by simp only [go_sem, hA]; rfl) qR ?_ ?_ | refine zM K51x (by simp only [go_sem, hA]; first | done | rfl) ?_ ⟨p.Need, s, t, M, S0, ⟨⟨chkP_M hp hck, hNN⟩, hl, hM.symm⟩, rfl, rfl⟩ (by simp only [go_sem, hA]; rfl) ?_ | exact True.intro | exact rfl | fail)
    clear hA hNN hck hc1 K48x K51x
    refine zN [2, 3, 4, 5, 9, 11] (fun x : Nat × Unit => [(12, .int .i64 x.1)]) (fun x : Nat × Unit => []) (fun x : Nat × Unit => x.1 ≤ M ∧ ∀ j, j < x.1 → (wholeR p t j && (List.range (j + 1)).any fun part => (part &&& j == part) && A part) = false) (fun x : Nat × Unit => M - x.1) (0, ()) (fun x => qS) ?_ qL qL ?_
    ·exact ⟨Nat.zero_le _, fun j h => absurd h (Nat.not_lt_zero j)⟩
    rintro ⟨j, _⟩ ⟨q1, q2⟩
    simp only at q1 q2
    repeat' (first | apply zC | apply zA | apply zB | refine zF qS qR ?_ ?_ | exact True.intro | exact rfl | fail)
    (refine zE qS ?_ ?_ <;> intro hb <;> have hc := hb <;> (try simp only [bF] at hc) <;> (try (exfalso; simp at hc; done)))
    ·have hj : j < M := by assumption
     have hE : ∀ b : Bool, (wholeR p t j && (List.range (j + 1)).any fun part => (part &&& j == part) && A part) = b → b = false → ∀ i, i < j + 1 → (wholeR p t i && (List.range (i + 1)).any fun part => (part &&& i == part) && A part) = false := fun b h1 h2 i hi => by
      by_cases hij : i = j
      ·subst hij; rw [h1, h2]
      ·exact q2 i (by omega)
     cases hw : wholeR p t j
     ·repeat' (first | apply zC | apply zG | apply zD | apply zA | apply zB | refine zF (by simp only [go_sem, hw]; rfl) qR ?_ ?_ | refine zM K52 (by simp only [go_sem, hw]; first | done | rfl) ?_ ⟨p, t, j, hl, by omega, rfl, rfl⟩ (by simp only [go_sem, hw]; rfl) ?_ | exact True.intro | exact rfl | fail)
      refine zN [2, 3, 4, 5, 9, 11, 12, 13] (fun x : Nat × Unit => [(14, .int .i64 x.1)]) (fun x : Nat × Unit => []) (fun x : Nat × Unit => x.1 = 0) (fun x : Nat × Unit => 0) (0, ()) (fun x => qS) ?_ qL qL ?_
      ·rfl
      rintro ⟨i, _⟩ r1
      simp only at r1
      subst r1
      repeat' (first | apply zC | apply zA | apply zB | refine zF qS qR ?_ ?_ | exact rfl | exact qP | fail)
      (refine zE qS ?_ ?_ <;> intro hb <;> have hc := hb <;> (try simp only [bF] at hc) <;> (try (exfalso; simp at hc; done)))
      repeat' (first | apply zL | apply zA | apply zB | refine zF qS qR ?_ ?_ | refine zK qR ?_ | refine zS (j+1,()) ?_ ?_ ⟨rfl, qL, qL⟩ | exact True.intro | exact rfl | omega)
      exact ⟨by simp only; omega, hE false (by rw [hw]; rfl) rfl⟩
     ·repeat' (first | apply zC | apply zG | apply zD | apply zA | apply zB | refine zF (by simp only [go_sem, hw]; rfl) qR ?_ ?_ | refine zM K52 (by simp only [go_sem, hw]; first | done | rfl) ?_ ⟨p, t, j, hl, by omega, rfl, rfl⟩ (by simp only [go_sem, hw]; rfl) ?_ | exact True.intro | exact rfl | fail)
      refine zN [2, 3, 4, 5, 9, 11, 12, 13] (fun x : Nat × Unit => [(14, .int .i64 x.1)]) (fun x : Nat × Unit => []) (fun x : Nat × Unit => x.1 ≤ j + 1 ∧ ∀ i, i < x.1 → ((i &&& j == i) && A i) = false) (fun x : Nat × Unit => j + 1 - x.1) (0, ()) (fun x => qS) ?_ qL qL ?_
      ·exact ⟨Nat.zero_le _, fun i h => absurd h (Nat.not_lt_zero i)⟩
      rintro ⟨i, _⟩ ⟨r1, r2⟩
      simp only at r1 r2
      repeat' (first | apply zC | apply zA | apply zB | refine zF qS qR ?_ ?_ | exact rfl | exact qP | fail)
      (refine zE qS ?_ ?_ <;> intro hb <;> have hc := hb <;> (try simp only [bF] at hc) <;> (try (exfalso; simp at hc; done)))
      ·have hi : i ≤ j := by simp at hb; omega
       have e1 := band i j (by omega) (by omega)
       have e2 : (((i &&& j : Nat) : Int) == (i : Int)) = (i &&& j == i) := by
        rw [Bool.eq_iff_iff, beq_iff_eq, beq_iff_eq]; omega
       cases h3 : (i &&& j == i)
       ·repeat' (first | apply zC | apply zG | apply zD | apply zL | apply zA | apply zB | refine zF (by simp only [go_sem, e1, e2, h3]; rfl) qR ?_ ?_ | (refine zE (by simp only [go_sem, e1, e2, h3]; rfl) ?_ ?_ <;> intro hb <;> have hc := hb <;> (try simp only [bF] at hc) <;> (try (exfalso; simp at hc; done))) | refine zS (i+1,()) ?_ ?_ ⟨rfl, qL, qL⟩ | exact True.intro | exact rfl | omega | exact qP | fail)
        refine ⟨by simp only; omega, fun z hz => ?_⟩
        by_cases hzi : z = i
        ·subst hzi; rw [h3]; rfl
        ·exact r2 z (by simp only at hz; omega)
       ·cases h4 : A i
        ·repeat' (first | apply zC | apply zG | apply zD | apply zL | apply zA | apply zB | refine zF (by simp only [go_sem, e1, e2, h3, h4]; rfl) qR ?_ ?_ | (refine zE (by simp only [go_sem, e1, e2, h3, h4]; rfl) ?_ ?_ <;> intro hb <;> have hc := hb <;> (try simp only [bF] at hc) <;> (try (exfalso; simp at hc; done))) | refine zS (i+1,()) ?_ ?_ ⟨rfl, qL, qL⟩ | exact True.intro | exact rfl | omega | exact qP | fail)
         refine ⟨by simp only; omega, fun z hz => ?_⟩
         by_cases hzi : z = i
         ·subst hzi; rw [h4]; simp
         ·exact r2 z (by simp only at hz; omega)
        ·have hyes : ((List.range M).any fun set => wholeR p t set && (List.range (set + 1)).any fun part => (part &&& set == part) && A part) = true := by
          rw [List.any_eq_true]
          refine ⟨j, List.mem_range.2 hj, ?_⟩
          rw [hw, Bool.true_and, List.any_eq_true]
          exact ⟨i, List.mem_range.2 (by omega), by rw [h3, h4]; rfl⟩
         rw [hyes]
         repeat' (first | apply zC | apply zG | apply zD | apply zA | apply zB | refine zF (by simp only [go_sem, e1, e2, h3, h4]; rfl) qR ?_ ?_ | (refine zE (by simp only [go_sem, e1, e2, h3, h4]; rfl) ?_ ?_ <;> intro hb <;> have hc := hb <;> (try simp only [bF] at hc) <;> (try (exfalso; simp at hc; done))) | refine zI qR ?_ | exact True.intro | exact rfl | exact SLe0.bool rfl | exact qP | fail)
         all_goals skip
      ·have hij : i = j + 1 := by simp at hb; omega
       have hno : ((List.range (j + 1)).any fun part => (part &&& j == part) && A part) = false := (any_lt _).2 fun z hz => r2 z (by omega)
       repeat' (first | apply zL | apply zA | apply zB | refine zF qS qR ?_ ?_ | refine zK qR ?_ | refine zS (j+1,()) ?_ ?_ ⟨rfl, qL, qL⟩ | exact True.intro | exact rfl | omega)
       exact ⟨by simp only; omega, hE false (by rw [hw, hno]; rfl) rfl⟩
    ·have hall : ((List.range M).any fun set => wholeR p t set && (List.range (set + 1)).any fun part => (part &&& set == part) && A part) = false := (any_lt _).2 fun z hz => q2 z (by omega)
     rw [hall]
     repeat' (first | apply zC | apply zA | apply zB | refine zF qS qR ?_ ?_ | refine zI qR ?_ | refine zK qR ?_ | exact True.intro | exact rfl | exact SLe0.bool rfl | fail)
     all_goals skip
 ·have hc1 : (chkP d p != 0) = true := by simpa using hck
  have hv : derR d p s l day = false := by simp [derR, hck]
  rw [hv]
  repeat' (first | apply zC | apply zA | apply zB | refine zF (by simp only [go_sem, hc1]; rfl) qR ?_ ?_ | refine zM K48x (by simp only [go_sem, hc1]; first | done | rfl) ?_ ⟨p, hp, rfl, rfl⟩ (by simp only [go_sem, hc1]; rfl) ?_ | refine runL_gF 18 (by simp only [go_sem, hc1]; rfl) qR (by simp only [go_sem, hc1]; first | done | rfl) (by simp only [go_sem, hc1]; rfl) ?_ | (refine zE (by simp only [go_sem, hc1]; rfl) ?_ ?_ <;> intro hb <;> have hc := hb <;> (try simp only [bF] at hc) <;> (try (exfalso; simp at hc; done))) | refine zI qR ?_ | exact True.intro | exact rfl | exact SLe0.bool rfl | exact qP | fail)
  all_goals skip
end Go.Sx
