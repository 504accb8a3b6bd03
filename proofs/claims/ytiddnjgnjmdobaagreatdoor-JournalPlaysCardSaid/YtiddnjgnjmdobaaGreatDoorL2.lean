/- Part of the proofs that the laws of the journal return true for every input: L2. -/
import Derived.Test.YtiddnjgnjmdobaaGreatDoorL1
set_option linter.unusedVariables false
set_option linter.unusedSimpArgs false
set_option linter.all false
/-! L2: digests. -/
namespace Go.Sx
open Go.Proofs Go.RowKit
attribute [local irreducible] Run RunL RunD SLe0 SLe OLe
set_option maxHeartbeats 2000000
set_option maxRecDepth 8000
set_option linter.unusedSimpArgs false
set_option linter.unusedVariables false
theorem wu8 (x : Int) : IntKind.u8.wrap x = x % 256 := by
  have e1 : (2 : Int) ^ IntKind.u8.bits = 256 := by decide
  have e3 : IntKind.u8.signed = false := rfl
  simp only [IntKind.wrap, e1, e3, Bool.false_and, Bool.false_eq_true, if_false]
/-- One byte of a number. -/
def byN (n : Int) (i : Nat) : UInt8 := UInt8.ofNat (shrI .i64 n (56 - 8 * (i : Int)) % 256).toNat
/-- Eight bytes of a number. -/
def numB (n : Int) : List UInt8 := (List.range 8).map (byN n)
theorem byN_val (n : Int) (i : Nat) : ((byN n i).toNat : Int) = IntKind.u8.wrap (shrI .i64 n (56 - 8 * (i : Int))) := by
  rw [wu8, byN, UInt8.toNat_ofNat']
  have := Int.emod_nonneg (shrI .i64 n (56 - 8 * (i : Int))) (show (256 : Int) ≠ 0 by decide)
  have := Int.emod_lt_of_pos (shrI .i64 n (56 - 8 * (i : Int))) (show (0 : Int) < 256 by decide)
  omega
theorem numB_get (n : Int) (i : Nat) (h : i < 8) : (numB n).getD i 0 = byN n i := by
  simp [numB, List.getD_eq_getElem?_getD, List.getElem?_map, List.getElem?_range h]
theorem K59 : FnOK Tryz.prog 59 (fun ds d => ∃ n, ds = [eInt n] ∧ d = .str ⟨(numB n).toArray⟩) := by
  refine fn_intro Tryz.call59 Tryz.func59 rfl Tryz.ntmps59 ?_
  rintro ds d ⟨n, rfl, rfl⟩
  refine ⟨by simp, fun w0 => ?_⟩
  repeat' (first | apply run_seq | apply run_block | apply run_region | apply runL_nil | refine runxP (by simp only [go_sem]; rfl) (by rfl) ?_ ?_ | exact True.intro | exact rfl | (show allP _; first | exact True.intro | (simp only [allP, go_sem, Bool.not_eq_true', Bool.not_eq_false', implies_true, true_and, and_true, and_self, imp_self]; done) | (simp [allP, go_sem]; done) | (simp [allP, go_sem] at *; first | done | assumption | omega | (simp_all; done)) | (simp only [allP, go_sem]; intros; simp_all; done) | (simp only [allP, go_sem, ByteArray.size_append, size_mk, List.size_toArray, List.length_append, List.length_cons, List.length_nil, and_true, true_and]; (repeat' apply And.intro) <;> omega)))
  refine run_loopK [0, 3, 6, 7] (fun k : Nat => [(8, .int .i64 k)]) (fun k : Nat => [(0, .acc 5 1 8 fun i => .int .u8 (if i < k then ((byN n i).toNat : Int) else 0))]) (fun k : Nat => k ≤ 8) (fun k : Nat => 8 - k) 0 (fun x => by simp only [go_sem]; rfl) ?_ (by simp only [go_sem]; repeat' (first | exact trivial | exact True.intro | exact SLe.refl _ | exact OLe.refl _ | exact ⟨_, rfl, OLe.refl _⟩ | refine ⟨_, rfl, ?_⟩ | refine OLe.var ?_ | (show SLeL _ _; refine ⟨?_, ?_⟩) | (show SLeL [] []; exact True.intro) | (refine SLe.int ?_; rw [w64]; omega) | refine SLe.int ?_ | refine SLe.bool ?_ | apply And.intro)) (by simp only [go_sem]; repeat' (first | exact trivial | exact True.intro | exact SLe.refl _ | exact OLe.refl _ | exact ⟨_, rfl, OLe.refl _⟩ | refine ⟨_, rfl, ?_⟩ | refine OLe.var ?_ | (show SLeL _ _; refine ⟨?_, ?_⟩) | (show SLeL [] []; exact True.intro) | (refine SLe.int ?_; rw [w64]; omega) | refine SLe.int ?_ | refine SLe.bool ?_ | apply And.intro)) ?_
  · exact Nat.zero_le _
  intro k hk
  have e1 : IntKind.i64.wrap (56 - IntKind.i64.wrap (8 * (k : Int))) = 56 - 8 * (k : Int) := by rw [w64, w64]; omega
  repeat' (first | apply run_seq | apply run_skip | apply run_block | apply run_blk | apply run_region | apply runL_nil | refine runxP (by simp only [go_sem, e1]; rfl) (by rfl) ?_ ?_ | refine stepcvA ((numB n)) (by simp only [go_sem, e1]; rfl) (by simp only [go_sem, e1]; rfl) ?_ ?_ (by first | exact tU57 | exact tU201 | exact tU9 | exact tU5) (by first | exact tU57 | exact tU201 | exact tU9 | exact tU5) (by first | exact tU57 | exact tU201 | exact tU9 | exact tU5) (by simp only [go_sem, e1]; rfl) ?_ | (refine run_cond (by simp only [go_sem, e1]; rfl) ?_ ?_ <;> intro hb <;> have hc := hb <;> (try simp only [decide_eq_true_eq, decide_eq_false_iff_not, Int.not_lt, Int.not_le, Int.ofNat_lt, Int.ofNat_le, Bool.and_eq_true, Bool.or_eq_true, Bool.or_eq_false_iff, Bool.not_eq_true', Bool.not_eq_false', beq_iff_eq, beq_eq_false_iff_ne, bne_iff_ne, bne_eq_false_iff_eq] at hc) <;> (try (exfalso; simp at hc; done))) | refine run_ret (by rfl) ?_ | refine run_exit (by rfl) ?_ | refine run_lp (k+1) ?_ ?_ ⟨rfl, by simp only [go_sem]; repeat' (first | exact trivial | exact True.intro | exact SLe.refl _ | exact OLe.refl _ | exact ⟨_, rfl, OLe.refl _⟩ | refine ⟨_, rfl, ?_⟩ | refine OLe.var ?_ | (show SLeL _ _; refine ⟨?_, ?_⟩) | (show SLeL [] []; exact True.intro) | (refine SLe.int ?_; rw [w64]; omega) | refine SLe.int ?_ | refine SLe.bool ?_ | apply And.intro | (refine OLe.accS rfl fun i hi => ?_; by_cases h : i = k; (subst h; simp [setF, byN_val]); (simp [setF, h, show (i < k + 1) = (i < k) from propext (by omega)]))), by simp only [go_sem]; repeat' (first | exact trivial | exact True.intro | exact SLe.refl _ | exact OLe.refl _ | exact ⟨_, rfl, OLe.refl _⟩ | refine ⟨_, rfl, ?_⟩ | refine OLe.var ?_ | (show SLeL _ _; refine ⟨?_, ?_⟩) | (show SLeL [] []; exact True.intro) | (refine SLe.int ?_; rw [w64]; omega) | refine SLe.int ?_ | refine SLe.bool ?_ | apply And.intro | (refine OLe.accS rfl fun i hi => ?_; by_cases h : i = k; (subst h; simp [setF, byN_val]); (simp [setF, h, show (i < k + 1) = (i < k) from propext (by omega)])))⟩ | exact True.intro | exact rfl | omega | refine SLe0.str ?_ | (show allP _; first | exact True.intro | (simp only [allP, go_sem, Bool.not_eq_true', Bool.not_eq_false', implies_true, true_and, and_true, and_self, imp_self]; done) | (simp [allP, go_sem]; done) | (simp [allP, go_sem] at *; first | done | assumption | omega | (simp_all; done)) | (simp only [allP, go_sem]; intros; simp_all; done) | (simp only [allP, go_sem, ByteArray.size_append, size_mk, List.size_toArray, List.length_append, List.length_cons, List.length_nil, and_true, true_and]; (repeat' apply And.intro) <;> omega)))
  · intro i hi
    have h8 : i < 8 := by simpa using hi
    have : k = 8 := by omega
    subst this
    simp only [byF, numB_get n i h8, h8, if_true]
end Go.Sx
