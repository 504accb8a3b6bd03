/- Part of the proofs that the laws of the journal return true for every input: L9a, L9. -/
import Derived.Test.YtiddnjgnjmdobaaGreatDoorL8
set_option linter.unusedVariables false
set_option linter.unusedSimpArgs false
set_option linter.all false
/-! L9a: the table of replacements: 256 places, and one more. -/
namespace Go.Sx
open Go.Proofs Go.RowKit
set_option maxRecDepth 20000
def zer : List SD := List.replicate 256 .nils
/-- All nil but for the places 10 and 92; and what lies behind. -/
def tabZ (a b x : SD) : List SD := (zer.set 10 a).set 92 b ++ [x]
theorem tabZ_len (a b x : SD) : (tabZ a b x).length = 257 := by simp [tabZ, zer]
theorem zcT147 : zcT Tryz.prog 147 = some (.agg (tabZ .nils .nils .nils)) := by kernel_rfl
theorem bdT147 : bdT Tryz.prog 147 = some (tabZ .nils .nils .nils) := by kernel_rfl
theorem tz3 (a b x : SD) : (tabZ a b x).drop 92 = b :: (tabZ a b x).drop 93 := by kernel_rfl
theorem tz4 (a b x : SD) : (tabZ a b x).drop 10 = a :: (tabZ a b x).drop 11 := by kernel_rfl
theorem tz5 (a b x : SD) : (tabZ a b x).drop 256 = [x] := by kernel_rfl
theorem tz6 (a b x y : SD) : (tabZ a b x).take 92 ++ [y] ++ (tabZ a b x).drop 93 = tabZ a y x := by kernel_rfl
theorem tz7 (a b x y : SD) : (tabZ a b x).take 10 ++ [y] ++ (tabZ a b x).drop 11 = tabZ y b x := by kernel_rfl
theorem tz8 (k : Nat) (a b x : SD) : menL k (tabZ a b x) = (men k a || (men k b || (men k x || false))) := by kernel_rfl
theorem tz9 (a b x : SD) : pureL (tabZ a b x) = (pureD a && (pureD b && (pureD x && true))) := by kernel_rfl
theorem tz10 (k : Nat) (d0 : SD) (F : Nat → SD) (dm : SD) (a b x : SD) : frzL k d0 F dm (tabZ a b x) = tabZ (frz k d0 F dm a) (frz k d0 F dm b) (frz k d0 F dm x) := by kernel_rfl
theorem tz11 (k : Nat) (a b x : SD) : purgeL k (tabZ a b x) = tabZ (bif men k a then .any else a) (bif men k b then .any else b) (bif men k x then .any else x) := by kernel_rfl
theorem tz12 (a b x : SD) : (tabZ a b x).drop 257 = [] := by kernel_rfl
theorem tz13 (a b x y : SD) : (tabZ a b x).take 256 ++ [y] = tabZ a b y := by kernel_rfl
theorem tz0 (a b x : SD) : (tabZ a b x).drop 0 = tabZ a b x := rfl
attribute [irreducible] tabZ
attribute [go_sem] tabZ_len zcT147 bdT147 tz3 tz4 tz5 tz6 tz7 tz8 tz9 tz10 tz11 tz12 tz13 tz0
end Go.Sx

/-! L9: replacers. -/
namespace Go.Sx
open Go.Proofs Go.RowKit
attribute [local irreducible] Run RunL RunD SLe0 SLe OLe
set_option maxHeartbeats 2000000
set_option maxRecDepth 8000
set_option linter.unusedSimpArgs false
set_option linter.unusedVariables false
/-- A replacer that has not been used: 'lk' is its lock's state. -/
@[go_sem] def eRp (lk : Int) (l : List ByteArray) : OB := .var [.int .u32 0, .int .i32 lk, .int .u32 0, .nilif, .list 1 l.length fun i => .str (l.getD i ByteArray.empty)]
theorem K63 : FnM Tryz.prog 63 (fun ds os d os' => ∃ (l : List ByteArray), (l.length = 4) ∧ ds = [.list 1 4 fun i => .str (l.getD i ByteArray.empty)] ∧ os = [] ∧ d = .loc 1 0 ∧ os' = [(1, eRp 0 l)]) := by
  refine fn_introM Tryz.call63 Tryz.func63 rfl Tryz.ntmps63 ?_
  rintro ds os d os' ⟨l, hl, rfl, rfl, rfl, rfl⟩
  refine ⟨by simp, fun F w0 => ?_⟩
  repeat' (first | refine run_frz 0 (by simp only [go_sem]; rfl) ?_ | apply run_seq | apply run_skip | apply run_region | apply runL_nil | refine runxP (by simp only [go_sem, hl]; rfl) (by rfl) ?_ ?_ | (refine run_cond (by simp only [go_sem, hl]; rfl) ?_ ?_ <;> intro hb <;> have hc := hb <;> (try simp only [decide_eq_true_eq, decide_eq_false_iff_not, Int.not_lt, Int.not_le, Int.ofNat_lt, Int.ofNat_le, Bool.and_eq_true, Bool.or_eq_true, Bool.or_eq_false_iff, Bool.not_eq_true', Bool.not_eq_false', beq_iff_eq, beq_eq_false_iff_ne, bne_iff_ne, bne_eq_false_iff_eq] at hc) <;> (try (exfalso; simp at hc; done))) | refine run_retM (by rfl) (by simp only [go_sem, hl]; rfl) ?_ ?_ | exact True.intro | exact rfl | exact SLe.refl _ | (show subO _ _; simp only [go_sem, hl]; repeat' (first | exact trivial | exact True.intro | exact SLe.refl _ | exact OLe.refl _ | exact ⟨_, rfl, OLe.refl _⟩ | refine ⟨_, rfl, ?_⟩ | refine OLe.var ?_ | (show SLeL _ _; refine ⟨?_, ?_⟩) | (show SLeL [] []; exact True.intro) | (refine SLe.int ?_; rw [w64]; omega) | refine SLe.int ?_ | refine SLe.bool ?_ | apply And.intro)) | (show allP _; first | exact True.intro | (simp only [allP, go_sem, Bool.not_eq_true', Bool.not_eq_false', implies_true, true_and, and_true, and_self, imp_self]; done) | (simp [allP, go_sem]; done) | (simp [allP, go_sem] at *; first | done | assumption | omega | (simp_all; done)) | (simp only [allP, go_sem]; intros; simp_all; done) | (simp only [allP, go_sem, ByteArray.size_append, size_mk, List.size_toArray, List.length_append, List.length_cons, List.length_nil, and_true, true_and]; (repeat' apply And.intro) <;> omega)))
  all_goals skip
/-- The table of replacements of 'hide'. -/
def byS (l : List UInt8) : SD := .list 1 l.length (byF l)
def tabH : List SD := tabZ (byS [92, 110]) (byS [92, 92]) (.list 1 2 fun i => .str ([B [10], B [92]].getD i ByteArray.empty))
def hideA : List ByteArray := [B [92], B [92, 92], B [10], B [92, 110]]
theorem hAl : hideA.length = 4 := rfl
theorem hAc : ((hideA.length : Nat) : Int) = 4 := rfl
theorem hA0 : hideA.getD 0 ByteArray.empty = B [92] := rfl
theorem hA1 : hideA.getD 1 ByteArray.empty = B [92, 92] := rfl
theorem hA2 : hideA.getD 2 ByteArray.empty = B [10] := rfl
theorem hA3 : hideA.getD 3 ByteArray.empty = B [92, 110] := rfl
theorem sz1 (a : UInt8) : (((B [a]).size : Nat) : Int) = 1 := rfl
theorem sz2 (a b : UInt8) : (((B [a, b]).size : Nat) : Int) = 2 := rfl
theorem bt92 : (((B [92]).data.toList.getD 0 0).toNat : Int) = 92 := rfl
theorem bt10 : (((B [10]).data.toList.getD 0 0).toNat : Int) = 10 := rfl
theorem cst0 : ((0 : Nat) : Int) = 0 := rfl
theorem cst1 : ((1 : Nat) : Int) = 1 := rfl
theorem cst2 : ((2 : Nat) : Int) = 2 := rfl
theorem cst3 : ((3 : Nat) : Int) = 3 := rfl
theorem cst4 : ((4 : Nat) : Int) = 4 := rfl
theorem u10 : UInt8.toNat 10 = 10 := rfl
theorem u92 : UInt8.toNat 92 = 92 := rfl
theorem u110 : UInt8.toNat 110 = 110 := rfl
theorem cst10 : ((10 : Nat) : Int) = 10 := rfl
theorem cst92 : ((92 : Nat) : Int) = 92 := rfl
theorem cst110 : ((110 : Nat) : Int) = 110 := rfl
attribute [go_sem] u10 u92 u110 cst10 cst92 cst110 cst0 cst1 cst2 cst3 cst4 hAl hAc hA0 hA1 hA2 hA3 sz1 sz2 bt92 bt10 Int.reduceBEq Int.reduceBNe Int.reduceTDiv Int.reduceTMod
theorem plT145_92 : plT Tryz.prog 145 92 = some (92, 1) := by kernel_rfl
theorem plT145_10' : plT Tryz.prog 145 10 = some (10, 1) := by kernel_rfl
attribute [go_sem] plT145_92 plT145_10'
theorem K83h : FnM Tryz.prog 83 (fun ds os d os' => ∃ (lk : Int), True ∧ ds = [.loc 1000 0] ∧ os = [eRp lk hideA] ∧ d = .iface 148 (.fp tabH) ∧ os' = [(1000, eRp lk hideA)]) := by
  refine fn_introM Tryz.call83 Tryz.func83 rfl Tryz.ntmps83 ?_
  rintro ds os d os' ⟨lk, -, rfl, rfl, rfl, rfl⟩
  refine ⟨by simp, fun F w0 => ?_⟩
  repeat' (first | apply run_seq | apply run_skip | apply run_block | apply run_blk | apply run_region | apply runL_nil | refine runxP (by simp only [go_sem]; rfl) (by rfl) ?_ ?_ | refine stepcvL [10] (by simp only [go_sem]; rfl) ?_ (by rfl) (by intro i hi; have hi0 : i = 0 := (by omega); subst hi0; rfl) (by first | exact tU57 | exact tU201 | exact tU9 | exact tU5) (by first | exact tU57 | exact tU201 | exact tU9 | exact tU5) (by first | exact tU57 | exact tU201 | exact tU9 | exact tU5) (by simp only [go_sem]; rfl) ?_ | refine stepcvL [92] (by simp only [go_sem]; rfl) ?_ (by rfl) (by intro i hi; have hi0 : i = 0 := (by omega); subst hi0; rfl) (by first | exact tU57 | exact tU201 | exact tU9 | exact tU5) (by first | exact tU57 | exact tU201 | exact tU9 | exact tU5) (by first | exact tU57 | exact tU201 | exact tU9 | exact tU5) (by simp only [go_sem]; rfl) ?_ | refine stepcvB (by simp only [go_sem]; rfl) ?_ (by rfl) (by first | exact tU57 | exact tU201 | exact tU9 | exact tU5) (by first | exact tU57 | exact tU201 | exact tU9 | exact tU5) ?_ (by simp only [go_sem]; rfl) ?_ | (refine run_cond (by simp only [go_sem]; rfl) ?_ ?_ <;> intro hb <;> have hc := hb <;> (try simp only [decide_eq_true_eq, decide_eq_false_iff_not, Int.not_lt, Int.not_le, Int.ofNat_lt, Int.ofNat_le, Bool.and_eq_true, Bool.or_eq_true, Bool.or_eq_false_iff, Bool.not_eq_true', Bool.not_eq_false', beq_iff_eq, beq_eq_false_iff_ne, bne_iff_ne, bne_eq_false_iff_eq] at hc) <;> (try (exfalso; simp at hc; done))) | refine run_exit (by rfl) ?_ | refine run_rounds 2 ?_ | refine run_round ?_ | exact True.intro | exact rfl | (show allP _; first | exact True.intro | (simp only [allP, go_sem, Bool.not_eq_true', Bool.not_eq_false', implies_true, true_and, and_true, and_self, imp_self]; done) | (simp [allP, go_sem]; done) | (simp [allP, go_sem] at *; first | done | assumption | omega | (simp_all; done)) | (simp only [allP, go_sem]; intros; simp_all; done) | (simp only [allP, go_sem, ByteArray.size_append, size_mk, List.size_toArray, List.length_append, List.length_cons, List.length_nil, and_true, true_and]; (repeat' apply And.intro) <;> omega)))
  · decide
  · decide
  refine run_accLe (o' := .acc 9 1 2 fun i => .str ([B [10], B [92]].getD i ByteArray.empty)) 0 (by rfl) (OLe.accS rfl fun i hi => by
    have h2 : i = 0 ∨ i = 1 := by omega
    rcases h2 with rfl | rfl <;> rfl) ?_
  refine run_frz 0 (by simp only [go_sem]; rfl) ?_
  refine run_frz 1 (by simp only [go_sem]; rfl) ?_
  repeat' (first | refine run_retM (by rfl) (by simp only [go_sem]; rfl) ?_ ?_ | exact SLe.refl _ | (show subO _ _; simp only [go_sem]; repeat' (first | exact trivial | exact True.intro | exact SLe.refl _ | exact OLe.refl _ | exact ⟨_, rfl, OLe.refl _⟩ | refine ⟨_, rfl, ?_⟩ | refine OLe.var ?_ | (show SLeL _ _; refine ⟨?_, ?_⟩) | (show SLeL [] []; exact True.intro) | (refine SLe.int ?_; rw [w64]; omega) | refine SLe.int ?_ | refine SLe.bool ?_ | apply And.intro)))
end Go.Sx
