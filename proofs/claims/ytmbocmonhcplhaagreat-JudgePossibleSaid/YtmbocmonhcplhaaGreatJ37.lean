/- Part of the proof that the laws of the judge return true for every input: J36, J37. -/
import Derived.Test.YtmbocmonhcplhaaGreatJ35
import Derived.Test.YtmbocmonhcplhaaGreatJ33
set_option linter.all false
namespace Go.Sx
open Go.Proofs Go.RowKit
attribute [local irreducible] Run RunL RunD OpT SLe0 SLe OLe
set_option maxHeartbeats 2000000
set_option maxRecDepth 8000
set_option maxHeartbeats 4000000
attribute [local irreducible] cM dM
@[go_sem] theorem fT_eq (q : MK) : fT q = .bool true := rfl
theorem K271 : FnOK Tryz.prog 271 (fun ds v => ∃ (fs cr : List Int) (N : Int) (S : Nat → Bool), ((∀ x ∈ fs, 0 ≤ x ∧ x < 10 ∧ x < cr.length) ∧ fs.length ≤ 10) ∧ ds = [.agg [ints fs, ints cr, .int .i64 N], eSet S] ∧ v = eSet (stepS S fun y z => chs cr N y fs y 0 z)) := by
 refine fn_intro Tryz.call271 Tryz.func271 rfl Tryz.ntmps271 ?_
 rintro ds d ⟨fs, cr, N, S, ⟨hf, hfl⟩, rfl, rfl⟩
 refine ⟨by simp, fun w0 => ?_⟩
 have e0 : (.mp ⟨some .i64, 0, fun _ => false, fT, none⟩ [] : OB) = oSet (fun _ => false) := by
  simp only [oSet]
  congr 2
  all_goals first | (funext q; cases q <;> simp [dM]; done) | (simp [cM]; done)
 repeat' (first | apply zC | apply zD | apply zA | apply zB | refine zF qS qR ?_ ?_ | refine stepmk (fT) qS qS ?_ | refine steprng qS qS qS ?_ | exact True.intro | exact rfl | fail)
 refine zQ (o' := oSet (fun _ => false)) 1 qR (ole_eq e0) ?_
 refine zM [0, 1, 2, 4, 5, 10] (fun x : (MK → Bool) × Option MK × Nat × (Nat → Bool) => []) (fun x : (MK → Bool) × Option MK × Nat × (Nat → Bool) => [(1, oSet x.2.2.2), (3, .mp ⟨some .i64, cM S, dM S, fT, some (.iter x.2.2.1 x.1 x.2.1)⟩ [])]) (fun x : (MK → Bool) × Option MK × Nat × (Nat → Bool) => ∀ z, z < 1024 → x.2.2.2 z = unV x.1 S (fun y z => chs cr N y fs y 0 z) z) (fun x : (MK → Bool) × Option MK × Nat × (Nat → Bool) => x.2.2.1) ((fun _ => false), none, cM S, fun _ => false) (fun x => qS) ?_ qL qL ?_
 ·intro z _; exact (unV_none _ _ _).symm
 rintro ⟨V, cur, c, T⟩ g1
 simp only at g1
 repeat' (first | apply zC | apply zA | exact rfl | fail)
 refine stepnxt qS qS qR (fun hdone => ?_) (fun y c' hlt hdom hV => ?_)
 ·have hT : ∀ z, z < 1024 → T z = stepS S (fun y z => chs cr N y fs y 0 z) z := fun z hz => by rw [g1 z hz, unV_done _ hdone]
  rw [← eSet_ext hT]
  repeat' (first | refine zN 1 qS ?_ | apply zC | apply zA | apply zB | refine zF qS qR ?_ ?_ | (refine zE qS ?_ ?_ <;> intro hb <;> have hc := hb <;> (try simp only [bF] at hc) <;> (try (exfalso; simp at hc; done))) | refine zI qR ?_ | refine zJ qR ?_ | exact True.intro | exact rfl | exact SLe0.pure rfl | fail)
  all_goals skip
 ·obtain ⟨n, hn, hy, hS⟩ := dM_inv hdom
  obtain rfl : y = (n : Int) := by simpa using hy
  repeat' (first | apply zC | apply zB | refine zF qS qR ?_ ?_ | exact True.intro | fail)
  (refine zE qS ?_ ?_ <;> intro hb <;> have hc := hb <;> (try simp only [bF] at hc) <;> (try (exfalso; simp at hc; done)))
  obtain ⟨T1, hT1⟩ : ∃ T1 : Nat → Bool, (fun z => T z || chs cr N n (fs) n 0 z) = T1 := ⟨_, rfl⟩
  have ihx := K272 fs.length
  clear e0 hdom hV
  repeat' (first | apply zC | apply zG | apply zD | apply zK | apply zA | apply zB | refine zF (by simp only [go_sem, hT1]; rfl) qR ?_ ?_ | refine stepent (by simp only [go_sem, hT1]; rfl) (by simp only [go_sem, hT1]; rfl) (by simp only [go_sem, hT1]; rfl) ?_ | refine stepcallvM [0, 4, 2, 5, 1] ihx (by first | (simp only [go_sem, hT1]; done) | (simp only [go_sem, hT1]; rfl)) qR (by simp only [go_sem, hT1]; first | done | rfl) (by first | (simp only [go_sem, hT1]; done) | rfl) (by first | (simp only [go_sem, hT1]; done) | (simp only [go_sem, hT1]; rfl)) ?_ ⟨fs, cr, N, n, T, 0, n, 0, ⟨hf, hfl, by omega, hn, hn⟩, rfl, rfl, rfl, rfl⟩ (by simp only [go_sem, hT1]; rfl) ?_ | exact True.intro | exact rfl | fail)
  refine zR (addK (.i (n : Int)) V, some (.i (n : Int)), c', T1) ?_ ?_ ⟨rfl, qL, qL⟩
  ·intro z hz
   simp only
   rw [← hT1]
   simp only
   rw [g1 z hz, unV_add _ hn hS]
  ·exact hlt
end Go.Sx
namespace Go.Sx
open Go.Proofs Go.RowKit
attribute [local irreducible] Run RunL RunD OpT SLe0 SLe OLe
set_option maxHeartbeats 2000000
set_option maxRecDepth 8000
set_option maxHeartbeats 4000000
attribute [local irreducible] cM dM
@[go_sem] def eSets (l : List (Nat → Bool)) : SD := .list 1 l.length fun i => eSet (l.getD i fun _ => false)
theorem K274 : FnAcc Tryz.prog 274 (fun ds T es n g => ∃ l : List (Nat → Bool), (0 < l.length ∧ l.length ≤ 100) ∧ ds = [eSets l] ∧ T = 103 ∧ es = 1 ∧ n = l.length ∧ g = fun i => eSet (l.getD i fun _ => false)) := by
 refine fn_introA Tryz.call274 Tryz.func274 rfl Tryz.ntmps274 ?_
 rintro ds T es n g ⟨l, hl, rfl, rfl, rfl, rfl, rfl⟩
 refine ⟨by simp, fun w0 => ?_⟩
 rcases l with _ | ⟨x, r⟩
 ·exact absurd hl.1 (by simp)
 ·have hl' : r.length + 1 ≤ 100 := by simpa using hl.2
  repeat' (first | apply zC | apply zG | apply zA | apply zB | refine zF qS qR ?_ ?_ | (refine zE qS ?_ ?_ <;> intro hb <;> have hc := hb <;> (try simp only [bF] at hc) <;> (try (exfalso; simp at hc; done))) | refine run_retA qR qR qR ?_ ?_ | exact True.intro | exact rfl | exact qP | fail)
  all_goals first | (show allP _; simp only [allP]; omega) | (simp only [List.length_cons]; omega) | (intro i _; simp only [joinF, Nat.not_lt_zero, if_false, Nat.sub_zero]; rfl) | skip
end Go.Sx
