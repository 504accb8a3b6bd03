/- Part of the proof that the laws of the judge return true for every input: J28, J29. -/
import Derived.Test.YtmbocmonhcplhaaGreatJ22
set_option linter.all false
namespace Go.Sx
open Go.Proofs Go.RowKit
attribute [local irreducible] Run RunL RunD OpT SLe0 SLe OLe
set_option maxHeartbeats 2000000
set_option maxRecDepth 8000
set_option maxHeartbeats 20000000
theorem tU140 : Tryz.prog.underlying 140 = some (.slice 5) := by kernel_rfl
theorem tU5 : Tryz.prog.underlying 5 = some (.int .u8) := by kernel_rfl
def okN (b : UInt8) : Bool := !(decide ((b.toNat : Int) < 32) || decide (126 < (b.toNat : Int)) || ((b.toNat : Int) == 34))
def nameB (s : ByteArray) : Bool := (decide (1 ≤ (s.size : Int)) && decide ((s.size : Int) ≤ 40)) && s.data.toList.all okN
theorem all_drop {p : UInt8 → Bool} {l : List UInt8} {k : Nat} (hk : k < l.length) : (l.drop k).all p = (p (l.getD k 0) && (l.drop (k + 1)).all p) := by
 rw [List.drop_eq_getElem_cons hk, List.all_cons, List.getD_eq_getElem?_getD, List.getElem?_eq_getElem hk]; rfl
theorem K107 : FnOK Tryz.prog 107 (fun ds d => ∃ s : ByteArray, s.size ≤ 100000 ∧ ds = [.str s] ∧ d = .bool (nameB s)) := by
 refine fn_intro Tryz.call107 Tryz.func107 rfl Tryz.ntmps107 ?_
 rintro ds d ⟨s, hs, rfl, rfl⟩
 refine ⟨by simp, fun w0 => ?_⟩
 have hl : s.data.toList.length = s.size := by simp
 by_cases m : (decide (1 ≤ (s.size : Int)) && decide ((s.size : Int) ≤ 40)) = true
 ·have m1 := m
  simp only [Bool.and_eq_true, decide_eq_true_eq] at m1
  have e1 : ((s.size : Int) == 0) = false := by rw [beq_eq_false_iff_ne]; omega
  have e2 : decide (40 < (s.size : Int)) = false := decide_eq_false (by omega)
  rw [nameB, m]
  repeat' (first | apply zC | apply zG | apply zD | apply zA | apply zB | refine zF (by simp only [go_sem, e1, e2]; rfl) qR ?_ ?_ | (refine zE (by simp only [go_sem, e1, e2]; rfl) ?_ ?_ <;> intro hb <;> have hc := hb <;> (try simp only [bF] at hc) <;> (try (exfalso; simp at hc; done))) | exact True.intro | exact rfl | exact qP | fail)
  refine zN [0] (fun x : Nat × Unit => [(3, .int .i64 x.1)]) (fun x : Nat × Unit => []) (fun x : Nat × Unit => x.1 ≤ s.size ∧ s.data.toList.all okN = (s.data.toList.drop x.1).all okN) (fun x : Nat × Unit => s.size - x.1) (0, ()) (fun x => qS) ?_ qL qL ?_
  ·exact ⟨Nat.zero_le _, rfl⟩
  rintro ⟨k, _⟩ ⟨g1, g2⟩
  simp only at g1 g2
  repeat' (first | apply zC | apply zA | apply zB | refine zF qS qR ?_ ?_ | exact True.intro | exact rfl | fail)
  (refine zE qS ?_ ?_ <;> intro hb <;> have hc := hb <;> (try simp only [bF] at hc) <;> (try (exfalso; simp at hc; done)))
  ·have hk : k < s.size := by assumption
   rw [all_drop (by omega)] at g2
   repeat' (first | apply zC | apply zG | apply zD | apply zL | apply zA | apply zB | refine zF qS qR ?_ ?_ | (refine zE qS ?_ ?_ <;> intro hb <;> have hc := hb <;> (try simp only [bF] at hc) <;> (try (exfalso; simp at hc; done))) | refine zI qR ?_ | refine zS (k+1,()) ?_ ?_ ⟨rfl, qL, qL⟩ | exact True.intro | exact rfl | omega | refine SLe0.bool ?_ | exact qP | fail)
   ·have : okN (s.data.toList.getD k 0) = false := by rw [okN, hb]; rfl
    rw [g2, this]; rfl
   ·have : okN (s.data.toList.getD k 0) = true := by rw [okN, hb]; rfl
    exact ⟨by simp only; omega, by rw [g2, this, Bool.true_and]⟩
  ·repeat' (first | apply zC | apply zA | apply zB | refine zF qS qR ?_ ?_ | refine zI qR ?_ | refine zK qR ?_ | exact True.intro | exact rfl | refine SLe0.bool ?_ | fail)
   rw [g2, List.drop_of_length_le (by omega)]; rfl
 ·have m' := Bool.eq_false_iff.2 m
  rw [nameB, m']
  repeat' (first | apply zC | apply zG | apply zD | apply zA | apply zB | refine zF qS qR ?_ ?_ | (refine zE qS ?_ ?_ <;> intro hb <;> have hc := hb <;> (try simp only [bF] at hc) <;> (try (exfalso; simp at hc; done))) | refine zI qR ?_ | exact True.intro | exact rfl | exact SLe0.bool rfl | exact qP | fail)
  all_goals (exfalso; simp only [Bool.and_eq_true, decide_eq_true_eq] at m; omega)
theorem K95 : FnOK Tryz.prog 95 (fun ds d => ∃ s : ByteArray, s.size ≤ 100000 ∧ ds = [.str s] ∧ d = .bool (nameB s)) := by
 refine fn_intro Tryz.call95 Tryz.func95 rfl Tryz.ntmps95 ?_
 rintro ds d ⟨s, hs, rfl, rfl⟩
 refine ⟨by simp, fun w0 => ?_⟩
 have hl : s.data.toList.length = s.size := by simp
 have hm : s.size ≤ maxN := by unfold maxN; omega
 repeat' (first | apply zC | apply zD | apply zA | apply zB | refine zF qS qR ?_ ?_ | refine stepcvB qS ?_ qR (by first | exact tU140 | exact tU9s | exact tU5) (by first | exact tU140 | exact tU9s | exact tU5) ?_ qS ?_ | exact True.intro | exact rfl | omega)
 refine zN [0, 6, 7] (fun x : Nat × Unit => [(8, .int .i64 x.1)]) (fun x : Nat × Unit => []) (fun x : Nat × Unit => x.1 ≤ s.size ∧ s.data.toList.all okN = (s.data.toList.drop x.1).all okN) (fun x : Nat × Unit => s.size - x.1) (0, ()) (fun x => qS) ?_ qL qL ?_
 ·exact ⟨Nat.zero_le _, rfl⟩
 rintro ⟨k, _⟩ ⟨g1, g2⟩
 simp only at g1 g2
 repeat' (first | apply zC | apply zA | apply zB | refine zF qS qR ?_ ?_ | exact True.intro | exact rfl | fail)
 (refine zE qS ?_ ?_ <;> intro hb <;> have hc := hb <;> (try simp only [bF] at hc) <;> (try (exfalso; simp at hc; done)))
 ·have hk : k < s.size := by assumption
  rw [all_drop (by omega)] at g2
  have eb : byF s.data.toList k = .int .u8 ((s.data.toList.getD k 0).toNat : Int) := rfl
  repeat' (first | apply zC | apply zG | apply zD | apply zL | apply zA | apply zB | refine zF (by simp only [go_sem, eb]; rfl) qR ?_ ?_ | (refine zE (by simp only [go_sem, eb]; rfl) ?_ ?_ <;> intro hb <;> have hc := hb <;> (try simp only [bF] at hc) <;> (try (exfalso; simp at hc; done))) | refine zI qR ?_ | refine zS (k+1,()) ?_ ?_ ⟨rfl, qL, qL⟩ | exact True.intro | exact rfl | omega | refine SLe0.bool ?_ | exact qP | fail)
  ·have : okN (s.data.toList.getD k 0) = false := by rw [okN, hb]; rfl
   rw [nameB, g2, this, Bool.false_and, Bool.and_false]
  ·have : okN (s.data.toList.getD k 0) = true := by rw [okN, hb]; rfl
   exact ⟨by simp only; omega, by rw [g2, this, Bool.true_and]⟩
 ·repeat' (first | apply zC | apply zA | apply zB | refine zF qS qR ?_ ?_ | refine zM K94 qD ?_ ⟨_, _, _, rfl, rfl⟩ qS ?_ | refine zI qR ?_ | refine zK qR ?_ | exact True.intro | exact rfl | refine SLe0.bool ?_ | fail)
  rw [nameB, g2, List.drop_of_length_le (by omega), List.all_nil, Bool.and_true]
end Go.Sx
namespace Go.Sx
open Go.Proofs Go.RowKit
attribute [local irreducible] Run RunL RunD OpT SLe0 SLe OLe
set_option maxHeartbeats 2000000
set_option maxRecDepth 8000
set_option maxHeartbeats 20000000
theorem MKi (a b : Int) : (MK.i a = MK.i b) = (a = b) := by simp
def kDom : MK → Bool := addK (.i 4) (addK (.i 3) (addK (.i 2) (addK (.i 1) fun _ => false)))
def kF : MK → SD := setD (.i 4) (.agg [.fn 193 [.fp [.fn 188 []]]]) (setD (.i 3) (.agg [.fn 192 [.fp [.fn 188 []]]]) (setD (.i 2) (.agg [.fn 191 []]) (setD (.i 1) (.agg [.fn 189 []]) fun _ => .any)))
theorem K145 : FnOK Tryz.prog 145 (fun ds d => ds = [] ∧ d = .fmap (some .i64) 4 kDom kF) := by
 refine fn_intro Tryz.call145 Tryz.func145 rfl Tryz.ntmps145 ?_
 rintro ds d ⟨rfl, rfl⟩
 refine ⟨by simp, fun w0 => ?_⟩
 repeat' (first | apply zC | apply zA | apply zB | refine zF qS qR ?_ ?_ | exact True.intro | exact rfl | fail)
 refine runL_frz 0 qS ?_
 repeat' (first | refine zO 1 qS ?_ | apply zB | refine zF (by simp only [go_sem, MKi]; rfl) qR ?_ ?_ | refine stepmk (fun _ => .any) (by simp only [go_sem, MKi]; rfl) (by simp only [go_sem, MKi]; rfl) ?_ | refine stepmi (by simp only [go_sem, MKi]; rfl) ?_ ?_ ?_ | refine zI qR ?_ | exact True.intro | exact SLe0.pure rfl | fail)
 all_goals first | (simp [allP, maxN]; done) | skip
end Go.Sx
