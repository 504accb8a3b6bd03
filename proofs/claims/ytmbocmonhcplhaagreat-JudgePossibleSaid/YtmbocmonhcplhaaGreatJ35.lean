/- Part of the proof that the laws of the judge return true for every input: J35. -/
import Derived.Test.YtmbocmonhcplhaaGreatJ34
set_option linter.all false
namespace Go.Sx
open Go.Proofs Go.RowKit
attribute [local irreducible] Run RunL RunD OpT SLe0 SLe OLe
set_option maxHeartbeats 2000000
set_option maxRecDepth 8000
set_option maxHeartbeats 20000000
attribute [go_sem] menM
def chs (cr : List Int) (N : Int) (set : Nat) : List Int → Nat → Int → Nat → Bool
 | [], next, c, z => (next != set && decide (N ≤ c)) && (z == next)
 | i :: r, next, c, z => chs cr N set r next c z || (!set.testBit i.toNat && chs cr N set r (next ||| 2 ^ i.toNat) (IntKind.i64.wrap (c + cr.getD i.toNat default)) z)
@[go_sem] def oW (fs cr : List Int) (N : Int) : OB := .var [ints fs, ints cr, .int .i64 N]
@[go_sem] def oCh : OB := .var [.fn 272 [.loc 1000 0, .loc 1001 0, .loc 1002 0, .loc 1003 0]]
theorem oSet_ext {S S' : Nat → Bool} (h : ∀ z, z < 1024 → S z = S' z) : oSet S = oSet S' := by simp only [oSet]; rw [dM_ext h, cM_ext h]
theorem eSet_ext {S S' : Nat → Bool} (h : ∀ z, z < 1024 → S z = S' z) : eSet S = eSet S' := by simp only [eSet]; rw [dM_ext h, cM_ext h]
theorem K272 (m : Nat) : FnM Tryz.prog 272 (fun ds os v os' => ∃ (fs cr : List Int) (N : Int) (set : Nat) (T : Nat → Bool) (k next : Nat) (c : Int), ((∀ x ∈ fs, 0 ≤ x ∧ x < 10 ∧ x < cr.length) ∧ fs.length ≤ 10 ∧ k + m = fs.length ∧ next < 1024 ∧ set < 1024) ∧ ds = [eInt (k : Nat), eInt (next : Nat), eInt c, .loc 1000 0, .loc 1001 0, .loc 1002 0, .loc 1003 0] ∧ os = [oW fs cr N, .var [.int .i64 (set : Nat)], .var [.omap 1004], oCh, oSet T] ∧ v = .tup [] ∧ os' = enumO 1000 [oW fs cr N, .var [.int .i64 (set : Nat)], .var [.omap 1004], oCh, oSet fun z => T z || chs cr N set (fs.drop k) next c z]) := by
 induction m with
 | zero =>
  refine fn_introM Tryz.call272 Tryz.func272 rfl Tryz.ntmps272 ?_
  rintro ds os d os' ⟨fs, cr, N, set, T, k, next, c, ⟨hf, hfl, hk, hn, hs⟩, rfl, rfl, rfl, rfl⟩
  refine ⟨by simp, fun F w0 => ?_⟩
  have hkf : k = fs.length := by omega
  have b1 : (((k : Nat) : Int) == ((fs.length : Nat) : Int)) = true := by rw [hkf]; simp
  have hd : fs.drop k = [] := by rw [hkf]; simp
  have u1 := add_dM T next hn
  have u2 := add_cM T next hn
  rw [hd]
  have bne : (((next : Nat) : Int) != ((set : Nat) : Int)) = (next != set) := by
   rw [bne, bne]; congr 1; rw [Bool.eq_iff_iff, beq_iff_eq, beq_iff_eq]; omega
  cases hcd : (next != set && decide (N ≤ c))
  ·repeat' (first | apply zC | apply zG | apply zA | apply zB | refine zF (by simp only [go_sem, b1, bne, hcd]; rfl) qR ?_ ?_ | (refine zE (by simp only [go_sem, b1, bne, hcd]; rfl) ?_ ?_ <;> intro hb <;> have hc := hb <;> (try simp only [bF] at hc) <;> (try (exfalso; simp at hc; done))) | exact True.intro | exact rfl | exact qP | fail)
   refine zQ (o' := oSet fun z => T z || chs cr N set [] next c z) 1004 qR (ole_eq (oSet_ext fun z _ => ?_)) ?_
   ·simp only [chs, hcd]; simp
   refine yB qR qS ?_ ?_
   ·exact SLe.refl _
   ·(show subO _ _; simp only [go_sem]; repeat' (first | exact SLe.any1 | exact trivial | exact True.intro | exact SLe.refl _ | exact OLe.refl _ | exact ⟨_, rfl, OLe.refl _⟩ | refine ⟨_, rfl, ?_⟩ | refine OLe.var ?_ | (show SLeL _ _; refine ⟨?_, ?_⟩) | (show SLeL [] []; exact True.intro) | (refine SLe.int ?_; rw [w64]; omega) | refine SLe.int ?_ | refine SLe.bool ?_ | apply And.intro))
  ·repeat' (first | apply zC | apply zA | apply zB | refine zF (by simp only [go_sem, b1, bne, hcd, u1, u2]; rfl) qR ?_ ?_ | refine stepmu (by simp only [go_sem, b1, bne, hcd, u1, u2]; rfl) ?_ ?_ ?_ | (refine zE (by simp only [go_sem, b1, bne, hcd, u1, u2]; rfl) ?_ ?_ <;> intro hb <;> have hc := hb <;> (try simp only [bF] at hc) <;> (try (exfalso; simp at hc; done))) | exact True.intro | exact rfl | exact qP | fail)
   ·exact ⟨Nat.lt_of_le_of_lt (cM_le T) (by decide), trivial⟩
   refine zQ (o' := oSet fun z => T z || chs cr N set [] next c z) 1004 qR (ole_eq (oSet_ext (S := insS next T) fun z _ => ?_)) ?_
   ·simp only [chs, hcd, insS]; rw [Bool.true_and, Bool.or_comm]
   refine yB qR qS ?_ ?_
   ·exact SLe.refl _
   ·(show subO _ _; simp only [go_sem]; repeat' (first | exact SLe.any1 | exact trivial | exact True.intro | exact SLe.refl _ | exact OLe.refl _ | exact ⟨_, rfl, OLe.refl _⟩ | refine ⟨_, rfl, ?_⟩ | refine OLe.var ?_ | (show SLeL _ _; refine ⟨?_, ?_⟩) | (show SLeL [] []; exact True.intro) | (refine SLe.int ?_; rw [w64]; omega) | refine SLe.int ?_ | refine SLe.bool ?_ | apply And.intro))
 | succ m ih =>
  refine fn_introM Tryz.call272 Tryz.func272 rfl Tryz.ntmps272 ?_
  rintro ds os d os' ⟨fs, cr, N, set, T, k, next, c, ⟨hf, hfl, hk, hn, hs⟩, rfl, rfl, rfl, rfl⟩
  refine ⟨by simp, fun F w0 => ?_⟩
  have b1 : (((k : Nat) : Int) == ((fs.length : Nat) : Int)) = false := by rw [beq_eq_false_iff_ne]; omega
  have e1 : IntKind.i64.wrap ((k : Int) + 1) = ((k + 1 : Nat) : Int) := by rw [w64]; omega
  obtain ⟨i, hi⟩ : ∃ i : Nat, fs.getD k default = (i : Int) := ⟨(fs.getD k default).toNat, by have := hf _ (getD_mem' (show k < fs.length by omega)); omega⟩
  have hi10 : i < 10 ∧ i < cr.length := by have := hf _ (getD_mem' (show k < fs.length by omega)); omega
  have hdr : fs.drop k = (i : Int) :: fs.drop (k + 1) := by rw [drop_get _ _ (show k < fs.length by omega), hi]
  have ek := bitT set i (by omega) (by omega)
  have h2k : (2 : Nat) ^ i ≤ 2 ^ 9 := Nat.pow_le_pow_right (by omega) (by omega)
  have e2 := bshl i (by omega)
  have e3 := bor next (2 ^ i) (by omega) (by omega)
  have hzz : next ||| 2 ^ i < 1024 := Nat.or_lt_two_pow (n := 10) (by omega) (by omega)
  obtain ⟨T1, hT1⟩ : ∃ T1 : Nat → Bool, (fun z => T z || chs cr N set (fs.drop (k + 1)) next c z) = T1 := ⟨_, rfl⟩
  cases hbit : set.testBit i
  ·rw [hbit] at ek
   have hfin : ∀ z, z < 1024 → (T1 z || chs cr N set (fs.drop (k + 1)) (next ||| 2 ^ i) (IntKind.i64.wrap (c + cr.getD i default)) z) = (T z || chs cr N set (fs.drop k) next c z) := fun z _ => by
    rw [← hT1, hdr]; simp only [chs, Int.toNat_natCast, hbit, Bool.not_false, Bool.true_and, Bool.or_assoc]
   repeat' (first | apply zC | apply zG | apply zA | apply zO | apply zB | refine zF (by simp only [go_sem, b1, e1, hi, ek, hT1, e2, e3]; rfl) qR ?_ ?_ | refine zT (by simp only [go_sem, b1, e1, hi, ek, hT1, e2, e3]; rfl) qR ?_ ?_ | refine stepcallvM [1000, 1001, 1002, 1003, 1004] ih (by first | (simp only [go_sem, b1, e1, hi, ek, hT1, e2, e3]; done) | (simp only [go_sem, b1, e1, hi, ek, hT1, e2, e3]; rfl)) qR (by simp only [go_sem, b1, e1, hi, ek, hT1, e2, e3]; first | done | rfl) (by first | (simp only [go_sem, b1, e1, hi, ek, hT1, e2, e3]; done) | rfl) (by first | (simp only [go_sem, b1, e1, hi, ek, hT1, e2, e3]; done) | (simp only [go_sem, b1, e1, hi, ek, hT1, e2, e3]; rfl)) ?_ ⟨fs, cr, N, set, T, k+1, next, c, ⟨hf, hfl, by omega, hn, hs⟩, rfl, rfl, rfl, rfl⟩ (by simp only [go_sem, b1, e1, hi, ek, hT1, e2, e3]; rfl) ?_ | refine runDbar qK qR (opT_callvM [1000, 1001, 1002, 1003, 1004] ih (by first | (simp only [go_sem, b1, e1, hi, ek, hT1, e2, e3]; done) | (simp only [go_sem, b1, e1, hi, ek, hT1, e2, e3]; rfl)) qR (by simp only [go_sem, b1, e1, hi, ek, hT1, e2, e3]; first | done | rfl) (by first | (simp only [go_sem, b1, e1, hi, ek, hT1, e2, e3]; done) | rfl) (by first | (simp only [go_sem, b1, e1, hi, ek, hT1, e2, e3]; done) | (simp only [go_sem, b1, e1, hi, ek, hT1, e2, e3]; rfl)) ?_ ⟨fs, cr, N, set, T1, k+1, next ||| 2^i, IntKind.i64.wrap (c+cr.getD i default), ⟨hf, hfl, by omega, hzz, hs⟩, rfl, rfl, rfl, rfl⟩ (by simp only [go_sem, b1, e1, hi, ek, hT1, e2, e3]; rfl)) (by simp only [go_sem, b1, e1, hi, ek, hT1, e2, e3]; rfl) ?_ qK qR ?_ | (refine zE (by simp only [go_sem, b1, e1, hi, ek, hT1, e2, e3]; rfl) ?_ ?_ <;> intro hb <;> have hc := hb <;> (try simp only [bF] at hc) <;> (try (exfalso; simp at hc; done))) | exact True.intro | exact rfl | exact qP | fail)
   refine zQ (o' := oSet fun z => T z || chs cr N set (fs.drop k) next c z) 1004 qR (ole_eq (oSet_ext hfin)) ?_
   refine run_endM qR ?_ ?_
   ·exact SLe.refl _
   ·(show subO _ _; simp only [go_sem]; repeat' (first | exact SLe.any1 | exact trivial | exact True.intro | exact SLe.refl _ | exact OLe.refl _ | exact ⟨_, rfl, OLe.refl _⟩ | refine ⟨_, rfl, ?_⟩ | refine OLe.var ?_ | (show SLeL _ _; refine ⟨?_, ?_⟩) | (show SLeL [] []; exact True.intro) | (refine SLe.int ?_; rw [w64]; omega) | refine SLe.int ?_ | refine SLe.bool ?_ | apply And.intro))
  ·rw [hbit] at ek
   have hfin : ∀ z, z < 1024 → T1 z = (T z || chs cr N set (fs.drop k) next c z) := fun z _ => by
    rw [← hT1, hdr]; simp only [chs, Int.toNat_natCast, hbit, Bool.not_true, Bool.false_and, Bool.or_false]
   repeat' (first | apply zC | apply zG | apply zA | apply zB | refine zF (by simp only [go_sem, b1, e1, hi, ek, hT1]; rfl) qR ?_ ?_ | refine stepcallvM [1000, 1001, 1002, 1003, 1004] ih (by first | (simp only [go_sem, b1, e1, hi, ek, hT1]; done) | (simp only [go_sem, b1, e1, hi, ek, hT1]; rfl)) qR (by simp only [go_sem, b1, e1, hi, ek, hT1]; first | done | rfl) (by first | (simp only [go_sem, b1, e1, hi, ek, hT1]; done) | rfl) (by first | (simp only [go_sem, b1, e1, hi, ek, hT1]; done) | (simp only [go_sem, b1, e1, hi, ek, hT1]; rfl)) ?_ ⟨fs, cr, N, set, T, k+1, next, c, ⟨hf, hfl, by omega, hn, hs⟩, rfl, rfl, rfl, rfl⟩ (by simp only [go_sem, b1, e1, hi, ek, hT1]; rfl) ?_ | (refine zE (by simp only [go_sem, b1, e1, hi, ek, hT1]; rfl) ?_ ?_ <;> intro hb <;> have hc := hb <;> (try simp only [bF] at hc) <;> (try (exfalso; simp at hc; done))) | exact True.intro | exact rfl | exact qP | fail)
   refine zQ (o' := oSet fun z => T z || chs cr N set (fs.drop k) next c z) 1004 qR (ole_eq (oSet_ext hfin)) ?_
   refine run_endM qR ?_ ?_
   ·exact SLe.refl _
   ·(show subO _ _; simp only [go_sem]; repeat' (first | exact SLe.any1 | exact trivial | exact True.intro | exact SLe.refl _ | exact OLe.refl _ | exact ⟨_, rfl, OLe.refl _⟩ | refine ⟨_, rfl, ?_⟩ | refine OLe.var ?_ | (show SLeL _ _; refine ⟨?_, ?_⟩) | (show SLeL [] []; exact True.intro) | (refine SLe.int ?_; rw [w64]; omega) | refine SLe.int ?_ | refine SLe.bool ?_ | apply And.intro))
end Go.Sx
