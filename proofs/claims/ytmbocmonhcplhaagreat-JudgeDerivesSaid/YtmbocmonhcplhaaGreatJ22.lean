/- Part of the proof that the laws of the judge return true for every input: J22. -/
import Derived.Test.YtmbocmonhcplhaaGreatJ21
set_option linter.all false
namespace Go.Sx
open Go.Proofs Go.RowKit
attribute [local irreducible] Run RunL RunD SLe0 SLe OLe
set_option maxHeartbeats 2000000
set_option maxRecDepth 8000
def bareR (n : Need) : Bool := n.Min == 0 && (n.Set.length : Int) == 0 && decide (0 < (n.L.length : Int))
def oneR (n : Need) : Int :=
 if n.Kind = 1 then (if n.N != 0 || decide (0 < (n.L.length : Int)) then 13 else coursesR n)
 else if n.Kind = 2 then (if decide (0 < (n.L.length : Int)) then 13 else if !(decide (1 ≤ n.N) && decide (n.N ≤ 600)) then 3 else coursesR n)
 else if n.Kind = 3 then (if !bareR n || n.N != 0 then 13 else 0)
 else if n.Kind = 4 then (if !bareR n then 13 else if !(decide (1 ≤ n.N) && decide (n.N ≤ (n.L.length : Int))) then 3 else 0)
 else 13
theorem oneR_1 {n : Need} (h : n.Kind = 1) : oneR n = if n.N != 0 || decide (0 < (n.L.length : Int)) then 13 else coursesR n := by rw [oneR, if_pos h]
theorem oneR_2 {n : Need} (h : n.Kind = 2) : oneR n = if decide (0 < (n.L.length : Int)) then 13 else if !(decide (1 ≤ n.N) && decide (n.N ≤ 600)) then 3 else coursesR n := by rw [oneR, if_neg (by omega), if_pos h]
theorem oneR_3 {n : Need} (h : n.Kind = 3) : oneR n = if !bareR n || n.N != 0 then 13 else 0 := by rw [oneR, if_neg (by omega), if_neg (by omega), if_pos h]
theorem oneR_4 {n : Need} (h : n.Kind = 4) : oneR n = if !bareR n then 13 else if !(decide (1 ≤ n.N) && decide (n.N ≤ (n.L.length : Int))) then 3 else 0 := by rw [oneR, if_neg (by omega), if_neg (by omega), if_neg (by omega), if_pos h]
theorem bare_eq (n : Need) : (n.Min != 0 || decide (0 < (n.Set.length : Int)) || (n.L.length : Int) == 0) = !bareR n := by
 unfold bareR
 generalize n.Set.length = a
 generalize n.L.length = b
 rcases a with _ | a <;> rcases b with _ | b <;> by_cases hm : n.Min = 0 <;> simp [hm, bne] <;> omega
theorem bne_false' {a : Bool} (h : a = false) : ¬ a = true := by rw [h]; simp
def leafR (n : Need) : Bool := (n.Kind != 3) && (n.Kind != 4)
theorem K152 : FnOK Tryz.prog 152 (fun ds d => ∃ n : Need, ds = [eNeed n] ∧ d = .bool (leafR n)) := by
 refine fn_intro Tryz.call152 Tryz.func152 rfl Tryz.ntmps152 ?_
 rintro ds d ⟨n, rfl, rfl⟩
 refine ⟨by simp, fun w0 => ?_⟩
 repeat' (first | apply zC | apply zA | apply zB | refine zF qS qR ?_ ?_ | refine zI qR ?_ | exact True.intro | exact rfl | exact SLe0.bool rfl | exact qP | fail)
theorem K186 : FnOK Tryz.prog 186 (fun ds d => ∃ n : Need, ds = [eNeed n] ∧ d = .bool (leafR n)) := by
 refine fn_intro Tryz.call186 Tryz.func186 rfl Tryz.ntmps186 ?_
 rintro ds d ⟨n, rfl, rfl⟩
 refine ⟨by simp, fun w0 => ?_⟩
 repeat' (first | apply zC | apply zA | apply zB | refine zF qS qR ?_ ?_ | refine zI qR ?_ | exact True.intro | exact rfl | exact SLe0.bool rfl | exact qP | fail)
theorem K188 : FnOK Tryz.prog 188 (fun ds d => ∃ n : Need, ds = [eNeed n] ∧ d = .bool (bareR n)) := by
 refine fn_intro Tryz.call188 Tryz.func188 rfl Tryz.ntmps188 ?_
 rintro ds d ⟨n, rfl, rfl⟩
 refine ⟨by simp, fun w0 => ?_⟩
 repeat' (first | apply zC | apply zA | apply zB | refine zF qS qR ?_ ?_ | refine zI qR ?_ | exact True.intro | exact rfl | exact SLe0.bool rfl | exact qP | fail)
 all_goals rfl
theorem K189 : FnOK Tryz.prog 189 (fun ds d => ∃ n : Need, (SetOk n ∧ n.Kind = 1) ∧ ds = [eNeed n] ∧ d = eInt (oneR n)) := by
 refine fn_intro Tryz.call189 Tryz.func189 rfl Tryz.ntmps189 ?_
 rintro ds d ⟨n, ⟨hn, hk⟩, rfl, rfl⟩
 refine ⟨by simp, fun w0 => ?_⟩
 rw [oneR_1 hk]
 repeat' (first | apply zC | apply zG | apply zA | apply zB | refine zF qS qR ?_ ?_ | refine zM K190 qD ?_ ⟨n, hn, rfl, rfl⟩ qS ?_ | (refine zE qS ?_ ?_ <;> intro hb <;> have hc := hb <;> (try simp only [bF] at hc) <;> (try (exfalso; simp at hc; done))) | refine zI qR ?_ | exact True.intro | exact rfl | refine SLe0.int ?_ | exact qP | fail)
 ·rw [if_pos hb]
 ·rw [if_neg (bne_false' hb)]
theorem K191 : FnOK Tryz.prog 191 (fun ds d => ∃ n : Need, (SetOk n ∧ n.Kind = 2) ∧ ds = [eNeed n] ∧ d = eInt (oneR n)) := by
 refine fn_intro Tryz.call191 Tryz.func191 rfl Tryz.ntmps191 ?_
 rintro ds d ⟨n, ⟨hn, hk⟩, rfl, rfl⟩
 refine ⟨by simp, fun w0 => ?_⟩
 rw [oneR_2 hk]
 repeat' (first | apply zC | apply zG | apply zA | apply zB | refine zF qS qR ?_ ?_ | refine zM K190 qD ?_ ⟨n, hn, rfl, rfl⟩ qS ?_ | refine zM K94 qD ?_ ⟨_, _, _, rfl, rfl⟩ qS ?_ | (refine zE qS ?_ ?_ <;> intro hb <;> have hc := hb <;> (try simp only [bF] at hc) <;> (try (exfalso; simp at hc; done))) | refine zI qR ?_ | exact True.intro | exact rfl | refine SLe0.int ?_ | fail)
 ·rw [if_pos hb]
 ·rename_i h1 _; rw [if_neg (bne_false' h1), if_pos hb]
 ·rename_i h1 _; rw [if_neg (bne_false' h1), if_neg (bne_false' hb)]
theorem K192 : FnOK Tryz.prog 192 (fun ds d => ∃ n : Need, (SetOk n ∧ n.Kind = 3) ∧ ds = [eNeed n, .fp [.fn 188 []]] ∧ d = eInt (oneR n)) := by
 refine fn_intro Tryz.call192 Tryz.func192 rfl Tryz.ntmps192 ?_
 rintro ds d ⟨n, ⟨hn, hk⟩, rfl, rfl⟩
 refine ⟨by simp, fun w0 => ?_⟩
 rw [oneR_3 hk]
 have hv : FnV Tryz.prog 188 [] [eNeed n] (.bool (bareR n)) := ⟨_, K188, n, rfl, rfl⟩
 repeat' (first | apply zC | apply zG | apply zA | apply zB | refine zF qS qR ?_ ?_ | refine yD (hv) qZ qZ ?_ qS ?_ | (refine zE qS ?_ ?_ <;> intro hb <;> have hc := hb <;> (try simp only [bF] at hc) <;> (try (exfalso; simp at hc; done))) | refine zI qR ?_ | exact True.intro | exact rfl | refine SLe0.int ?_ | exact qP | fail)
 ·rw [if_pos hb]
 ·rw [if_neg (bne_false' hb)]
theorem K193 : FnOK Tryz.prog 193 (fun ds d => ∃ n : Need, (SetOk n ∧ n.Kind = 4) ∧ ds = [eNeed n, .fp [.fn 188 []]] ∧ d = eInt (oneR n)) := by
 refine fn_intro Tryz.call193 Tryz.func193 rfl Tryz.ntmps193 ?_
 rintro ds d ⟨n, ⟨hn, hk⟩, rfl, rfl⟩
 refine ⟨by simp, fun w0 => ?_⟩
 rw [oneR_4 hk]
 have hv : FnV Tryz.prog 188 [] [eNeed n] (.bool (bareR n)) := ⟨_, K188, n, rfl, rfl⟩
 repeat' (first | apply zC | apply zG | apply zA | apply zB | refine zF qS qR ?_ ?_ | refine zM K94 qD ?_ ⟨_, _, _, rfl, rfl⟩ qS ?_ | refine yD (hv) qZ qZ ?_ qS ?_ | (refine zE qS ?_ ?_ <;> intro hb <;> have hc := hb <;> (try simp only [bF] at hc) <;> (try (exfalso; simp at hc; done))) | refine zI qR ?_ | exact True.intro | exact rfl | refine SLe0.int ?_ | fail)
 ·rw [if_pos hb]
 ·rename_i h1 _; rw [if_neg (bne_false' h1), if_pos hb]
 ·rename_i h1 _; rw [if_neg (bne_false' h1), if_neg (bne_false' hb)]
theorem K153 : FnOK Tryz.prog 153 (fun ds d => ∃ n : Need, SetOk n ∧ ds = [eNeed n] ∧ d = eInt (oneR n)) := by
 refine fn_intro Tryz.call153 Tryz.func153 rfl Tryz.ntmps153 ?_
 rintro ds d ⟨n, hn, rfl, rfl⟩
 refine ⟨by simp, fun w0 => ?_⟩
 refine yE 0 3 rfl (by rw [nCells_eq]; rfl) fun hl => ?_
 refine yE 0 4 rfl (by rw [nCells_eq]; rfl) fun hl2 => ?_
 by_cases h1 : n.Kind = 1
 ·have k1 : (n.Kind == 1) = true := by simp [h1]
  rw [oneR_1 h1]
  by_cases c1 : (n.N != 0 || decide (0 < (n.L.length : Int))) = true
  ·rw [if_pos c1]
   repeat' (first | apply zC | apply zD | apply zA | apply zB | refine zF (by simp only [go_sem, k1, c1]; rfl) qR ?_ ?_ | (refine zE (by simp only [go_sem, k1, c1]; rfl) ?_ ?_ <;> intro hb <;> have hc := hb <;> (try simp only [bF] at hc) <;> (try (exfalso; simp at hc; done))) | refine zI qR ?_ | exact True.intro | exact rfl | refine SLe0.int ?_ | exact qP | fail)
  ·have c2 := Bool.eq_false_iff.2 c1
   rw [if_neg c1]
   have hp : ∀ i, i < n.Set.length → Asc (n.Set.getD i default).Code := fun i hi => hn.get hi
   by_cases m1 : (decide (-1000 ≤ n.Min) && decide (n.Min ≤ 1000)) = true
   ·have hco2 : coursesR n = if !(decide (1 ≤ (n.Set.length : Int)) && decide ((n.Set.length : Int) ≤ 12)) then 2 else if n.Set.any (fun c => !rightR c) then 1 else if incB n.Set then 0 else 7 := by rw [coursesR, m1]; rfl
    rw [hco2]
    by_cases m2 : (decide (1 ≤ (n.Set.length : Int)) && decide ((n.Set.length : Int) ≤ 12)) = true
    ·rw [m2]
     simp only [Bool.not_true, Bool.false_eq_true, if_false]
     simp only [Bool.and_eq_true, decide_eq_true_eq] at m2
     have m3 : ((n.Set.length : Int) == 0) = false := by simp; intro h; rw [h] at m2; simp at m2
     have m4 : decide (12 < (n.Set.length : Int)) = false := decide_eq_false (by omega)
     repeat' (first | apply zC | apply zG | apply zD | apply zL | apply zA | apply zB | refine zF (by simp only [go_sem, m1, m3, m4, k1, c2]; rfl) qR ?_ ?_ | refine zM K106 (by simp only [go_sem, m1, m3, m4, k1, c2]; first | done | rfl) ?_ ⟨_, _, _, rfl, rfl⟩ (by simp only [go_sem, m1, m3, m4, k1, c2]; rfl) ?_ | (refine zE (by simp only [go_sem, m1, m3, m4, k1, c2]; rfl) ?_ ?_ <;> intro hb <;> have hc := hb <;> (try simp only [bF] at hc) <;> (try (exfalso; simp at hc; done))) | exact True.intro | exact rfl | exact qP | fail)
     refine zN [0, 1] (fun x : Nat × Unit => [(3, .int .i64 x.1)]) (fun x : Nat × Unit => []) (fun x : Nat × Unit => x.1 ≤ n.Set.length ∧ (n.Set.any fun c => !rightR c) = (n.Set.drop x.1).any fun c => !rightR c) (fun x : Nat × Unit => n.Set.length - x.1) (0, ()) (fun x => qS) ?_ qL qL ?_
     ·exact ⟨Nat.zero_le _, rfl⟩
     rintro ⟨k, _⟩ ⟨g1, g2⟩
     simp only at g1 g2
     repeat' (first | apply zC | apply zA | apply zB | refine zF qS qR ?_ ?_ | exact True.intro | exact rfl | fail)
     (refine zE qS ?_ ?_ <;> intro hb <;> have hc := hb <;> (try simp only [bF] at hc) <;> (try (exfalso; simp at hc; done)))
     ·repeat' (first | apply zC | apply zG | apply zD | apply zL | apply zA | apply zB | refine zF qS qR ?_ ?_ | refine zM K109 qD ?_ ⟨_, hp k ‹_›, rfl, rfl⟩ qS ?_ | (refine zE qS ?_ ?_ <;> intro hb <;> have hc := hb <;> (try simp only [bF] at hc) <;> (try (exfalso; simp at hc; done))) | refine zI qR ?_ | refine zS (k+1,()) ?_ ?_ ⟨rfl, qL, qL⟩ | exact True.intro | exact rfl | omega | refine SLe0.int ?_ | exact qP | fail)
      ·rw [g2, drop_get _ _ ‹k < _›, List.any_cons, hb, Bool.true_or]; rfl
      ·refine ⟨by simp only; omega, ?_⟩
       rw [g2, drop_get _ _ ‹k < _›, List.any_cons, hb, Bool.false_or]
     ·have h3 : (n.Set.any fun c => !rightR c) = false := by rw [g2, List.drop_of_length_le (by omega), List.any_nil]
      rw [h3]
      simp only [Bool.false_eq_true, if_false]
      repeat' (first | apply zC | apply zD | apply zA | apply zB | refine zF qS qR ?_ ?_ | refine zK qR ?_ | exact True.intro | exact rfl | fail)
      refine zN [0, 1] (fun x : Nat × Unit => [(4, .int .i64 x.1)]) (fun x : Nat × Unit => []) (fun x : Nat × Unit => (1 ≤ x.1 ∧ x.1 ≤ n.Set.length) ∧ ∀ j, 1 ≤ j → j < x.1 → precR (n.Set.getD (j - 1) default) (n.Set.getD j default) = true) (fun x : Nat × Unit => n.Set.length - x.1) (1, ()) (fun x => qS) ?_ qL qL ?_
      ·exact ⟨⟨Nat.le_refl _, by simp only; omega⟩, fun j h1 h2 => absurd h2 (by simp only; omega)⟩
      rintro ⟨k, _⟩ ⟨⟨g0, g1⟩, g2⟩
      simp only at g0 g1 g2
      have e1 : IntKind.i64.wrap ((k : Int) - 1) = ((k - 1 : Nat) : Int) := by rw [w64]; omega
      have hpr : ∀ a b : Course, (decide (a.School < b.School) || (a.School == b.School && Op.bytesLess a.Code.toList b.Code.toList)) = precR a b := fun _ _ => rfl
      repeat' (first | apply zC | apply zA | apply zB | refine zF qS qR ?_ ?_ | exact True.intro | exact rfl | fail)
      (refine zE qS ?_ ?_ <;> intro hb <;> have hc := hb <;> (try simp only [bF] at hc) <;> (try (exfalso; simp at hc; done)))
      ·have hk : k < n.Set.length := by assumption
       repeat' (first | apply zC | apply zG | apply zD | apply zL | apply zA | apply zP | apply zB | refine zF (by simp only [go_sem, e1, hpr]; rfl) qR ?_ ?_ | refine zU (by simp only [go_sem, e1, hpr]; rfl) qR ?_ ?_ | refine zQ qK qK ?_ | refine zX K92 (by simp only [go_sem, e1, hpr]; first | done | rfl) ?_ ⟨_, _, rfl, rfl⟩ (by simp only [go_sem, e1, hpr]; rfl) ?_ | (refine zE (by simp only [go_sem, e1, hpr]; rfl) ?_ ?_ <;> intro hb <;> have hc := hb <;> (try simp only [bF] at hc) <;> (try (exfalso; simp at hc; done))) | refine zI qR ?_ | refine zS (k+1,()) ?_ ?_ ⟨rfl, qL, qL⟩ | exact True.intro | exact rfl | omega | refine SLe0.int ?_ | exact qP | fail)
       ·rw [incB_no (j := k) (by omega) hk (by simpa using hb)]; rfl
       ·refine ⟨⟨by simp only; omega, by simp only; omega⟩, fun j h1 h2 => ?_⟩
        simp only at h2
        by_cases hj : j = k
        ·subst hj; simpa using hb
        ·exact g2 j h1 (by omega)
      ·repeat' (first | apply zC | apply zA | apply zB | refine zF qS qR ?_ ?_ | refine zI qR ?_ | refine zK qR ?_ | exact True.intro | exact rfl | refine SLe0.int ?_ | fail)
       rw [(incB_iff n.Set).2 fun j j1 j2 => g2 j j1 (by omega)]; rfl
    ·have m2' := Bool.eq_false_iff.2 m2
     rw [m2']
     have m3 : ((n.Set.length : Int) == 0 || decide (12 < (n.Set.length : Int))) = true := by
      simp only [Bool.and_eq_true, decide_eq_true_eq] at m2
      simp only [Bool.or_eq_true, beq_iff_eq, decide_eq_true_eq]
      omega
     repeat' (first | apply zC | apply zG | apply zD | apply zL | apply zA | apply zB | refine zF (by simp only [go_sem, m1, m3, k1, c2]; rfl) qR ?_ ?_ | refine zM K106 (by simp only [go_sem, m1, m3, k1, c2]; first | done | rfl) ?_ ⟨_, _, _, rfl, rfl⟩ (by simp only [go_sem, m1, m3, k1, c2]; rfl) ?_ | (refine zE (by simp only [go_sem, m1, m3, k1, c2]; rfl) ?_ ?_ <;> intro hb <;> have hc := hb <;> (try simp only [bF] at hc) <;> (try (exfalso; simp at hc; done))) | refine zI qR ?_ | exact True.intro | exact rfl | refine SLe0.int ?_ | exact qP | fail)
     all_goals first | rfl | (exfalso; rw [m3] at hb; cases hb) | (exfalso; rw [c2] at hb; cases hb) | (exfalso; simp_all; done)
   ·have m1' := Bool.eq_false_iff.2 m1
    rw [coursesR, m1']
    repeat' (first | apply zC | apply zG | apply zD | apply zL | apply zA | apply zB | refine zF (by simp only [go_sem, m1', k1, c2]; rfl) qR ?_ ?_ | refine zM K106 (by simp only [go_sem, m1', k1, c2]; first | done | rfl) ?_ ⟨_, _, _, rfl, rfl⟩ (by simp only [go_sem, m1', k1, c2]; rfl) ?_ | (refine zE (by simp only [go_sem, m1', k1, c2]; rfl) ?_ ?_ <;> intro hb <;> have hc := hb <;> (try simp only [bF] at hc) <;> (try (exfalso; simp at hc; done))) | refine zI qR ?_ | exact True.intro | exact rfl | refine SLe0.int ?_ | exact qP | fail)
    all_goals rfl
 by_cases h2 : n.Kind = 2
 ·have k1 : (n.Kind == 1) = false := by simp [h2]
  have k2 : (n.Kind == 2) = true := by simp [h2]
  rw [oneR_2 h2]
  by_cases c1 : decide (0 < (n.L.length : Int)) = true
  ·rw [if_pos c1]
   repeat' (first | apply zC | apply zD | apply zA | apply zB | refine zF (by simp only [go_sem, k1, k2, c1]; rfl) qR ?_ ?_ | (refine zE (by simp only [go_sem, k1, k2, c1]; rfl) ?_ ?_ <;> intro hb <;> have hc := hb <;> (try simp only [bF] at hc) <;> (try (exfalso; simp at hc; done))) | refine zI qR ?_ | exact True.intro | exact rfl | refine SLe0.int ?_ | fail)
  ·have c2 := Bool.eq_false_iff.2 c1
   rw [if_neg c1]
   by_cases c3 : (decide (1 ≤ n.N) && decide (n.N ≤ 600)) = true
   ·rw [c3]
    simp only [Bool.not_true, Bool.false_eq_true, if_false]
    have hp : ∀ i, i < n.Set.length → Asc (n.Set.getD i default).Code := fun i hi => hn.get hi
    by_cases m1 : (decide (-1000 ≤ n.Min) && decide (n.Min ≤ 1000)) = true
    ·have hco2 : coursesR n = if !(decide (1 ≤ (n.Set.length : Int)) && decide ((n.Set.length : Int) ≤ 12)) then 2 else if n.Set.any (fun c => !rightR c) then 1 else if incB n.Set then 0 else 7 := by rw [coursesR, m1]; rfl
     rw [hco2]
     by_cases m2 : (decide (1 ≤ (n.Set.length : Int)) && decide ((n.Set.length : Int) ≤ 12)) = true
     ·rw [m2]
      simp only [Bool.not_true, Bool.false_eq_true, if_false]
      simp only [Bool.and_eq_true, decide_eq_true_eq] at m2
      have m3 : ((n.Set.length : Int) == 0) = false := by simp; intro h; rw [h] at m2; simp at m2
      have m4 : decide (12 < (n.Set.length : Int)) = false := decide_eq_false (by omega)
      repeat' (first | apply zC | apply zG | apply zD | apply zL | apply zA | apply zB | refine zF (by simp only [go_sem, m1, m3, m4, k1, k2, c2, c3]; rfl) qR ?_ ?_ | refine zM K106 (by simp only [go_sem, m1, m3, m4, k1, k2, c2, c3]; first | done | rfl) ?_ ⟨_, _, _, rfl, rfl⟩ (by simp only [go_sem, m1, m3, m4, k1, k2, c2, c3]; rfl) ?_ | (refine zE (by simp only [go_sem, m1, m3, m4, k1, k2, c2, c3]; rfl) ?_ ?_ <;> intro hb <;> have hc := hb <;> (try simp only [bF] at hc) <;> (try (exfalso; simp at hc; done))) | exact True.intro | exact rfl | exact qP | fail)
      refine zN [0, 1] (fun x : Nat × Unit => [(3, .int .i64 x.1)]) (fun x : Nat × Unit => []) (fun x : Nat × Unit => x.1 ≤ n.Set.length ∧ (n.Set.any fun c => !rightR c) = (n.Set.drop x.1).any fun c => !rightR c) (fun x : Nat × Unit => n.Set.length - x.1) (0, ()) (fun x => qS) ?_ qL qL ?_
      ·exact ⟨Nat.zero_le _, rfl⟩
      rintro ⟨k, _⟩ ⟨g1, g2⟩
      simp only at g1 g2
      repeat' (first | apply zC | apply zA | apply zB | refine zF qS qR ?_ ?_ | exact True.intro | exact rfl | fail)
      (refine zE qS ?_ ?_ <;> intro hb <;> have hc := hb <;> (try simp only [bF] at hc) <;> (try (exfalso; simp at hc; done)))
      ·repeat' (first | apply zC | apply zG | apply zD | apply zL | apply zA | apply zB | refine zF qS qR ?_ ?_ | refine zM K109 qD ?_ ⟨_, hp k ‹_›, rfl, rfl⟩ qS ?_ | (refine zE qS ?_ ?_ <;> intro hb <;> have hc := hb <;> (try simp only [bF] at hc) <;> (try (exfalso; simp at hc; done))) | refine zI qR ?_ | refine zS (k+1,()) ?_ ?_ ⟨rfl, qL, qL⟩ | exact True.intro | exact rfl | omega | refine SLe0.int ?_ | exact qP | fail)
       ·rw [g2, drop_get _ _ ‹k < _›, List.any_cons, hb, Bool.true_or]; rfl
       ·refine ⟨by simp only; omega, ?_⟩
        rw [g2, drop_get _ _ ‹k < _›, List.any_cons, hb, Bool.false_or]
      ·have h3 : (n.Set.any fun c => !rightR c) = false := by rw [g2, List.drop_of_length_le (by omega), List.any_nil]
       rw [h3]
       simp only [Bool.false_eq_true, if_false]
       repeat' (first | apply zC | apply zD | apply zA | apply zB | refine zF qS qR ?_ ?_ | refine zK qR ?_ | exact True.intro | exact rfl | fail)
       refine zN [0, 1] (fun x : Nat × Unit => [(4, .int .i64 x.1)]) (fun x : Nat × Unit => []) (fun x : Nat × Unit => (1 ≤ x.1 ∧ x.1 ≤ n.Set.length) ∧ ∀ j, 1 ≤ j → j < x.1 → precR (n.Set.getD (j - 1) default) (n.Set.getD j default) = true) (fun x : Nat × Unit => n.Set.length - x.1) (1, ()) (fun x => qS) ?_ qL qL ?_
       ·exact ⟨⟨Nat.le_refl _, by simp only; omega⟩, fun j h1 h2 => absurd h2 (by simp only; omega)⟩
       rintro ⟨k, _⟩ ⟨⟨g0, g1⟩, g2⟩
       simp only at g0 g1 g2
       have e1 : IntKind.i64.wrap ((k : Int) - 1) = ((k - 1 : Nat) : Int) := by rw [w64]; omega
       have hpr : ∀ a b : Course, (decide (a.School < b.School) || (a.School == b.School && Op.bytesLess a.Code.toList b.Code.toList)) = precR a b := fun _ _ => rfl
       repeat' (first | apply zC | apply zA | apply zB | refine zF qS qR ?_ ?_ | exact True.intro | exact rfl | fail)
       (refine zE qS ?_ ?_ <;> intro hb <;> have hc := hb <;> (try simp only [bF] at hc) <;> (try (exfalso; simp at hc; done)))
       ·have hk : k < n.Set.length := by assumption
        repeat' (first | apply zC | apply zG | apply zD | apply zL | apply zA | apply zP | apply zB | refine zF (by simp only [go_sem, e1, hpr]; rfl) qR ?_ ?_ | refine zU (by simp only [go_sem, e1, hpr]; rfl) qR ?_ ?_ | refine zQ qK qK ?_ | refine zX K92 (by simp only [go_sem, e1, hpr]; first | done | rfl) ?_ ⟨_, _, rfl, rfl⟩ (by simp only [go_sem, e1, hpr]; rfl) ?_ | (refine zE (by simp only [go_sem, e1, hpr]; rfl) ?_ ?_ <;> intro hb <;> have hc := hb <;> (try simp only [bF] at hc) <;> (try (exfalso; simp at hc; done))) | refine zI qR ?_ | refine zS (k+1,()) ?_ ?_ ⟨rfl, qL, qL⟩ | exact True.intro | exact rfl | omega | refine SLe0.int ?_ | exact qP | fail)
        ·rw [incB_no (j := k) (by omega) hk (by simpa using hb)]; rfl
        ·refine ⟨⟨by simp only; omega, by simp only; omega⟩, fun j h1 h2 => ?_⟩
         simp only at h2
         by_cases hj : j = k
         ·subst hj; simpa using hb
         ·exact g2 j h1 (by omega)
       ·repeat' (first | apply zC | apply zA | apply zB | refine zF qS qR ?_ ?_ | refine zI qR ?_ | refine zK qR ?_ | exact True.intro | exact rfl | refine SLe0.int ?_ | fail)
        rw [(incB_iff n.Set).2 fun j j1 j2 => g2 j j1 (by omega)]; rfl
     ·have m2' := Bool.eq_false_iff.2 m2
      rw [m2']
      have m3 : ((n.Set.length : Int) == 0 || decide (12 < (n.Set.length : Int))) = true := by
       simp only [Bool.and_eq_true, decide_eq_true_eq] at m2
       simp only [Bool.or_eq_true, beq_iff_eq, decide_eq_true_eq]
       omega
      repeat' (first | apply zC | apply zG | apply zD | apply zL | apply zA | apply zB | refine zF (by simp only [go_sem, m1, m3, k1, k2, c2, c3]; rfl) qR ?_ ?_ | refine zM K106 (by simp only [go_sem, m1, m3, k1, k2, c2, c3]; first | done | rfl) ?_ ⟨_, _, _, rfl, rfl⟩ (by simp only [go_sem, m1, m3, k1, k2, c2, c3]; rfl) ?_ | (refine zE (by simp only [go_sem, m1, m3, k1, k2, c2, c3]; rfl) ?_ ?_ <;> intro hb <;> have hc := hb <;> (try simp only [bF] at hc) <;> (try (exfalso; simp at hc; done))) | refine zI qR ?_ | exact True.intro | exact rfl | refine SLe0.int ?_ | exact qP | fail)
      all_goals first | rfl | (exfalso; rw [m3] at hb; cases hb) | (exfalso; rw [c2] at hb; cases hb) | (exfalso; simp_all; done)
    ·have m1' := Bool.eq_false_iff.2 m1
     rw [coursesR, m1']
     repeat' (first | apply zC | apply zG | apply zD | apply zL | apply zA | apply zB | refine zF (by simp only [go_sem, m1', k1, k2, c2, c3]; rfl) qR ?_ ?_ | refine zM K106 (by simp only [go_sem, m1', k1, k2, c2, c3]; first | done | rfl) ?_ ⟨_, _, _, rfl, rfl⟩ (by simp only [go_sem, m1', k1, k2, c2, c3]; rfl) ?_ | (refine zE (by simp only [go_sem, m1', k1, k2, c2, c3]; rfl) ?_ ?_ <;> intro hb <;> have hc := hb <;> (try simp only [bF] at hc) <;> (try (exfalso; simp at hc; done))) | refine zI qR ?_ | exact True.intro | exact rfl | refine SLe0.int ?_ | fail)
     all_goals rfl
   ·have c4 := Bool.eq_false_iff.2 c3
    rw [c4]
    repeat' (first | apply zC | apply zG | apply zD | apply zA | apply zB | refine zF (by simp only [go_sem, k1, k2, c2, c4]; rfl) qR ?_ ?_ | refine zM K106 (by simp only [go_sem, k1, k2, c2, c4]; first | done | rfl) ?_ ⟨_, _, _, rfl, rfl⟩ (by simp only [go_sem, k1, k2, c2, c4]; rfl) ?_ | (refine zE (by simp only [go_sem, k1, k2, c2, c4]; rfl) ?_ ?_ <;> intro hb <;> have hc := hb <;> (try simp only [bF] at hc) <;> (try (exfalso; simp at hc; done))) | refine zI qR ?_ | exact True.intro | exact rfl | refine SLe0.int ?_ | fail)
    all_goals rfl
 have k1 : (n.Kind == 1) = false := by simp [h1]
 have k2 : (n.Kind == 2) = false := by simp [h2]
 by_cases h3 : n.Kind = 3
 ·have k3 : (n.Kind == 3) = true := by simp [h3]
  have k4 : (n.Kind == 4) = false := by simp [h3]
  rw [oneR_3 h3]
  repeat' (first | apply zC | apply zG | apply zD | apply zA | apply zB | refine zF (by simp only [go_sem, k1, k2, k3, k4, bare_eq]; rfl) qR ?_ ?_ | refine zV 59 qR (by simp only [go_sem, k1, k2, k3, k4, bare_eq]; rfl) K106 (by simp only [go_sem, k1, k2, k3, k4, bare_eq]; first | done | rfl) (fun hg => ?_) (fun _ => ⟨_, _, _, rfl, rfl⟩) (by simp only [go_sem, k1, k2, k3, k4, bare_eq]; rfl) ?_ | (refine zE (by simp only [go_sem, k1, k2, k3, k4, bare_eq]; rfl) ?_ ?_ <;> intro hb <;> have hc := hb <;> (try simp only [bF] at hc) <;> (try (exfalso; simp at hc; done))) | refine zI qR ?_ | exact True.intro | exact rfl | refine SLe0.int ?_ | exact qP | fail)
  ·rw [if_pos hb]
  ·rename_i q _; rw [if_neg (bne_false' q)]
 by_cases h4 : n.Kind = 4
 ·have k3 : (n.Kind == 3) = false := by simp [h3]
  have k4 : (n.Kind == 4) = true := by simp [h4]
  rw [oneR_4 h4]
  repeat' (first | apply zC | apply zG | apply zD | apply zA | apply zB | refine zF (by simp only [go_sem, k1, k2, k3, k4, bare_eq]; rfl) qR ?_ ?_ | refine zV 59 qR (by simp only [go_sem, k1, k2, k3, k4, bare_eq]; rfl) K106 (by simp only [go_sem, k1, k2, k3, k4, bare_eq]; first | done | rfl) (fun hg => ?_) (fun _ => ⟨_, _, _, rfl, rfl⟩) (by simp only [go_sem, k1, k2, k3, k4, bare_eq]; rfl) ?_ | (refine zE (by simp only [go_sem, k1, k2, k3, k4, bare_eq]; rfl) ?_ ?_ <;> intro hb <;> have hc := hb <;> (try simp only [bF] at hc) <;> (try (exfalso; simp at hc; done))) | refine zI qR ?_ | exact True.intro | exact rfl | refine SLe0.int ?_ | exact qP | fail)
  ·rw [if_pos hb]
  ·rename_i q _; rw [if_neg (bne_false' q), if_pos hb]
  ·rename_i q _; rw [if_neg (bne_false' q), if_neg (bne_false' hb)]
 ·have k3 : (n.Kind == 3) = false := by simp [h3]
  have k4 : (n.Kind == 4) = false := by simp [h4]
  have ho : oneR n = 13 := by rw [oneR, if_neg h1, if_neg h2, if_neg h3, if_neg h4]
  rw [ho]
  repeat' (first | apply zC | apply zD | apply zA | apply zB | refine zF (by simp only [go_sem, k1, k2, k3, k4]; rfl) qR ?_ ?_ | (refine zE (by simp only [go_sem, k1, k2, k3, k4]; rfl) ?_ ?_ <;> intro hb <;> have hc := hb <;> (try simp only [bF] at hc) <;> (try (exfalso; simp at hc; done))) | refine zI qR ?_ | exact True.intro | exact rfl | refine SLe0.int ?_ | fail)
end Go.Sx
