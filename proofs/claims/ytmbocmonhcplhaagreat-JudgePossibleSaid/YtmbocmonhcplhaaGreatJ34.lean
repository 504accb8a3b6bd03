/- Part of the proof that the laws of the judge return true for every input: J34. -/
import Derived.Test.YtmbocmonhcplhaaGreatJ32
import Derived.Test.YtmbocmonhcplhaaGreatJ29
set_option linter.all false
namespace Go.Sx
open Go.Proofs Go.RowKit
attribute [local irreducible] Run RunL RunD OpT SLe0 SLe OLe
set_option maxHeartbeats 2000000
set_option maxRecDepth 8000
set_option maxHeartbeats 20000000
def dM (S : Nat → Bool) : MK → Bool
 | .i z => decide (0 ≤ z) && decide (z < 1024) && S z.toNat
 | .s _ => false
def cM (S : Nat → Bool) : Nat := (List.range 1024).countP S
def fT : MK → SD := fun _ => .bool true
def eSet (S : Nat → Bool) : SD := .fmap (some .i64) (cM S) (dM S) fT
def oSet (S : Nat → Bool) : OB := .mp ⟨some .i64, cM S, dM S, fT, none⟩ []
def insS (z : Nat) (S : Nat → Bool) : Nat → Bool := fun y => y == z || S y
attribute [go_sem] eSet oSet
theorem dM_nat (S : Nat → Bool) (z : Nat) (hz : z < 1024) : dM S (.i (z : Int)) = S z := by
 simp only [dM, Int.toNat_natCast]
 rw [decide_eq_true (by omega), decide_eq_true (by omega)]; rfl
theorem dM_ext {S S' : Nat → Bool} (h : ∀ z, z < 1024 → S z = S' z) : dM S = dM S' := by
 funext q
 cases q with
 | s b => rfl
 | i z =>
  simp only [dM]
  by_cases h1 : 0 ≤ z ∧ z < 1024
  ·rw [h z.toNat (by omega)]
  ·have : (decide (0 ≤ z) && decide (z < 1024)) = false := by
    rw [← Bool.not_eq_true, Bool.and_eq_true, decide_eq_true_eq, decide_eq_true_eq]; exact h1
   rw [this]; rfl
theorem cM_ext {S S' : Nat → Bool} (h : ∀ z, z < 1024 → S z = S' z) : cM S = cM S' := List.countP_congr fun z hz => by rw [h z (List.mem_range.1 hz)]
theorem dM_inv {S : Nat → Bool} {q : MK} (h : dM S q = true) : ∃ z : Nat, z < 1024 ∧ q = .i (z : Int) ∧ S z = true := by
 cases q with
 | s b => cases h
 | i z =>
  simp only [dM, Bool.and_eq_true, decide_eq_true_eq] at h
  exact ⟨z.toNat, by omega, by congr 1; omega, h.2⟩
theorem add_dM (S : Nat → Bool) (z : Nat) (hz : z < 1024) : addK (.i (z : Int)) (dM S) = dM (insS z S) := by
 funext q
 simp only [addK]
 cases q with
 | s b => simp [dM]
 | i y =>
  by_cases h : y = (z : Int)
  ·subst h
   have hI : dM (insS z S) (.i (z : Int)) = true := by rw [dM_nat _ _ hz]; simp [insS]
   rw [hI]; simp
  ·have h2 : decide (MK.i y = MK.i (z : Int)) = false := decide_eq_false (by simpa using h)
   rw [h2, Bool.false_or]
   simp only [dM, insS]
   by_cases h1 : 0 ≤ y ∧ y < 1024
   ·have : (y.toNat == z) = false := by rw [beq_eq_false_iff_ne]; omega
    rw [this, Bool.false_or]
   ·have : (decide (0 ≤ y) && decide (y < 1024)) = false := by
     rw [← Bool.not_eq_true, Bool.and_eq_true, decide_eq_true_eq, decide_eq_true_eq]; exact h1
    rw [this]; rfl
theorem countP_ins (S : Nat → Bool) (z : Nat) : ∀ l : List Nat, l.Nodup → z ∈ l → S z = false → l.countP (insS z S) = l.countP S + 1
 | [], _, h, _ => by cases h
 | x :: r, hn, h, hs => by
  have hn2 := List.nodup_cons.1 hn
  by_cases hx : x = z
  ·subst hx
   have hr : r.countP (insS x S) = r.countP S := List.countP_congr fun y hy => by
    have : y ≠ x := fun hc => hn2.1 (hc ▸ hy)
    simp [insS, this]
   rw [List.countP_cons, List.countP_cons, hr]
   simp [insS, hs]
  ·have hz : z ∈ r := by
    rcases List.mem_cons.1 h with h | h
    ·exact absurd h.symm hx
    ·exact h
   rw [List.countP_cons, List.countP_cons, countP_ins S z r hn2.2 hz hs]
   have : insS z S x = S x := by simp [insS, hx]
   rw [this]; omega
theorem add_cM (S : Nat → Bool) (z : Nat) (hz : z < 1024) : (bif dM S (.i (z : Int)) then cM S else cM S + 1) = cM (insS z S) := by
 rw [dM_nat _ _ hz]
 cases hs : S z
 ·simp only [cond_false, cM]
  exact (countP_ins S z _ List.nodup_range (List.mem_range.2 hz) hs).symm
 ·simp only [cond_true]
  exact cM_ext fun y _ => by
   simp only [insS]
   by_cases hy : y = z
   ·subst hy; simp [hs]
   ·simp [hy]
@[go_sem] theorem set_fT (q : MK) : setD q (.bool true) fT = fT := by
 funext r; simp only [setD, fT]; split <;> rfl
theorem cM_le (S : Nat → Bool) : cM S ≤ 1024 := by
 have := List.countP_le_length (p := S) (l := List.range 1024)
 simpa [cM] using this
def oneC (fs : List Int) (y z : Nat) : Bool := fs.any fun k => !y.testBit k.toNat && (y ||| 2 ^ k.toNat) == z
def unV (V : MK → Bool) (S : Nat → Bool) (C : Nat → Nat → Bool) (z : Nat) : Bool := (List.range 1024).any fun y => V (.i (y : Int)) && S y && C y z
def stepS (S : Nat → Bool) (C : Nat → Nat → Bool) (z : Nat) : Bool := (List.range 1024).any fun y => S y && C y z
theorem unV_none (S : Nat → Bool) (C : Nat → Nat → Bool) (z : Nat) : unV (fun _ => false) S C z = false := by simp [unV]
theorem unV_done {V : MK → Bool} {S : Nat → Bool} (C : Nat → Nat → Bool) (h : ∀ q, dM S q = true → V q = true) (z : Nat) : unV V S C z = stepS S C z := by
 simp only [unV, stepS]
 rw [Bool.eq_iff_iff, List.any_eq_true, List.any_eq_true]
 constructor
 ·rintro ⟨y, h1, h2⟩
  simp only [Bool.and_eq_true] at h2
  exact ⟨y, h1, by simp [h2]⟩
 ·rintro ⟨y, h1, h2⟩
  simp only [Bool.and_eq_true] at h2
  exact ⟨y, h1, by simp [h2, h (.i (y : Int)) (by rw [dM_nat _ _ (List.mem_range.1 h1)]; exact h2.1)]⟩
theorem unV_add {V : MK → Bool} {S : Nat → Bool} (C : Nat → Nat → Bool) {n : Nat} (hn : n < 1024) (hS : S n = true) (z : Nat) : unV (addK (.i (n : Int)) V) S C z = (unV V S C z || C n z) := by
 simp only [unV, addK]
 rw [Bool.eq_iff_iff, Bool.or_eq_true, List.any_eq_true, List.any_eq_true]
 constructor
 ·rintro ⟨y, h1, h2⟩
  simp only [Bool.and_eq_true, Bool.or_eq_true, decide_eq_true_eq, MKi] at h2
  obtain ⟨⟨h3 | h3, h4⟩, h5⟩ := h2
  ·have : y = n := by omega
   subst this; exact .inr h5
  ·exact .inl ⟨y, h1, by simp [h3, h4, h5]⟩
 ·rintro (⟨y, h1, h2⟩ | h)
  ·simp only [Bool.and_eq_true] at h2
   exact ⟨y, h1, by simp [h2]⟩
  ·exact ⟨n, List.mem_range.2 hn, by simp [hS, h]⟩
theorem ole_eq {o o' : OB} (h : o = o') : OLe o o' := h ▸ OLe.refl _
theorem oneC_take (fs : List Int) (n z i : Nat) (hi : i < fs.length) : oneC (fs.take (i + 1)) n z = (oneC (fs.take i) n z || (!n.testBit (fs.getD i default).toNat && (n ||| 2 ^ (fs.getD i default).toNat) == z)) := by
 simp only [oneC]
 rw [List.take_add_one, List.getElem?_eq_getElem hi, List.any_append, List.getD_eq_getElem?_getD, List.getElem?_eq_getElem hi]
 simp
theorem K270 : FnOK Tryz.prog 270 (fun ds v => ∃ (fs : List Int) (S : Nat → Bool), ((∀ x ∈ fs, 0 ≤ x ∧ x < 10) ∧ fs.length ≤ 10) ∧ ds = [.agg [ints fs], eSet S] ∧ v = eSet (stepS S (oneC fs))) := by
 refine fn_intro Tryz.call270 Tryz.func270 rfl Tryz.ntmps270 ?_
 rintro ds d ⟨fs, S, ⟨hf, hfl⟩, rfl, rfl⟩
 refine ⟨by simp, fun w0 => ?_⟩
 have e0 : (.mp ⟨some .i64, 0, fun _ => false, fT, none⟩ [] : OB) = oSet (fun _ => false) := by
  simp only [oSet]
  congr 2
  all_goals first | (funext q; cases q <;> simp [dM]; done) | (simp [cM]; done)
 repeat' (first | apply zC | apply zD | apply zA | apply zB | refine zF qS qR ?_ ?_ | refine stepmk (fT) qS qS ?_ | refine steprng qS qS qS ?_ | exact True.intro | exact rfl | fail)
 refine zQ (o' := oSet (fun _ => false)) 1 qR (ole_eq e0) ?_
 refine zM [0, 1, 2, 4, 5, 11] (fun x : (MK → Bool) × Option MK × Nat × (Nat → Bool) => []) (fun x : (MK → Bool) × Option MK × Nat × (Nat → Bool) => [(1, oSet x.2.2.2), (2, .mp ⟨some .i64, cM S, dM S, fT, some (.iter x.2.2.1 x.1 x.2.1)⟩ [])]) (fun x : (MK → Bool) × Option MK × Nat × (Nat → Bool) => ∀ z, z < 1024 → x.2.2.2 z = unV x.1 S (oneC fs) z) (fun x : (MK → Bool) × Option MK × Nat × (Nat → Bool) => x.2.2.1) ((fun _ => false), none, cM S, fun _ => false) (fun x => qS) ?_ qL qL ?_
 ·intro z _; exact (unV_none _ _ _).symm
 rintro ⟨V, cur, c, T⟩ g1
 simp only at g1
 repeat' (first | apply zC | apply zA | exact rfl | fail)
 refine stepnxt qS qS qR (fun hdone => ?_) (fun y c' hlt hdom hV => ?_)
 ·have hT : ∀ z, z < 1024 → T z = stepS S (oneC fs) z := fun z hz => by rw [g1 z hz, unV_done _ hdone]
  have hE : eSet (stepS S (oneC fs)) = eSet T := by simp only [eSet]; rw [dM_ext hT, cM_ext hT]
  rw [hE]
  repeat' (first | refine zN 1 qS ?_ | apply zC | apply zA | apply zB | refine zF qS qR ?_ ?_ | (refine zE qS ?_ ?_ <;> intro hb <;> have hc := hb <;> (try simp only [bF] at hc) <;> (try (exfalso; simp at hc; done))) | refine zI qR ?_ | refine zJ qR ?_ | exact True.intro | exact rfl | exact SLe0.pure rfl | fail)
  all_goals skip
 ·obtain ⟨n, hn, hy, hS⟩ := dM_inv hdom
  obtain rfl : y = (n : Int) := by simpa using hy
  repeat' (first | apply zC | apply zB | refine zF qS qR ?_ ?_ | exact True.intro | fail)
  (refine zE qS ?_ ?_ <;> intro hb <;> have hc := hb <;> (try simp only [bF] at hc) <;> (try (exfalso; simp at hc; done)))
  repeat' (first | apply zC | apply zG | apply zD | apply zA | apply zB | refine zF qS qR ?_ ?_ | refine stepent qS qS qS ?_ | exact True.intro | exact rfl | fail)
  refine zM [0, 1, 2, 4, 5, 6, 11, 17, 18] (fun x : Nat × (Nat → Bool) => [(19, .int .i64 x.1)]) (fun x : Nat × (Nat → Bool) => [(1, oSet x.2)]) (fun x : Nat × (Nat → Bool) => x.1 ≤ fs.length ∧ ∀ z, z < 1024 → x.2 z = (T z || oneC (fs.take x.1) n z)) (fun x : Nat × (Nat → Bool) => fs.length - x.1) (0, T) (fun x => qS) ?_ qL qL ?_
  ·exact ⟨Nat.zero_le _, fun z _ => by simp [oneC]⟩
  rintro ⟨i, T2⟩ ⟨q1, q2⟩
  simp only at q1 q2
  repeat' (first | apply zC | apply zA | apply zB | refine zF qS qR ?_ ?_ | exact True.intro | exact rfl | fail)
  (refine zE qS ?_ ?_ <;> intro hb <;> have hc := hb <;> (try simp only [bF] at hc) <;> (try (exfalso; simp at hc; done)))
  ·have hi : i < fs.length := by assumption
   obtain ⟨k, hk⟩ : ∃ k : Nat, fs.getD i default = (k : Int) := ⟨(fs.getD i default).toNat, by have := hf _ (getD_mem' hi); omega⟩
   have hk10 : k < 10 := by have := hf _ (getD_mem' hi); omega
   have ek := bitT n k (by omega) (by omega)
   have h2k : (2 : Nat) ^ k ≤ 2 ^ 9 := Nat.pow_le_pow_right (by omega) (by omega)
   have htk : ∀ z, oneC (fs.take (i + 1)) n z = (oneC (fs.take i) n z || (!n.testBit k && (n ||| 2 ^ k) == z)) := fun z => by rw [oneC_take _ _ _ _ hi, hk, Int.toNat_natCast]
   cases hbit : n.testBit k
   ·rw [hbit] at ek htk
    have e1 := bshl k (by omega)
    have e2 := bor n (2 ^ k) (by omega) (by omega)
    have hzz : n ||| 2 ^ k < 1024 := Nat.or_lt_two_pow (n := 10) (by omega) (by omega)
    have u1 := add_dM T2 _ hzz
    have u2 := add_cM T2 _ hzz
    repeat' (first | apply zC | apply zG | apply zD | apply zK | apply zA | apply zB | refine zF (by simp only [go_sem, hk, ek, e1, e2, u1, u2]; rfl) qR ?_ ?_ | refine stepmu (by simp only [go_sem, hk, ek, e1, e2, u1, u2]; rfl) ?_ ?_ ?_ | (refine zE (by simp only [go_sem, hk, ek, e1, e2, u1, u2]; rfl) ?_ ?_ <;> intro hb <;> have hc := hb <;> (try simp only [bF] at hc) <;> (try (exfalso; simp at hc; done))) | refine zR (i+1,insS (n ||| 2^k) T2) ?_ ?_ ⟨rfl, qL, qL⟩ | exact True.intro | exact rfl | omega | exact qP | fail)
    ·have := cM_le T2
     show allP [cM T2 < maxN]
     exact ⟨Nat.lt_of_le_of_lt this (by decide), trivial⟩
    ·refine ⟨by simp only; omega, fun z hz => ?_⟩
     simp only [insS]
     rw [q2 z hz, htk z]
     simp only [Bool.not_false, Bool.true_and]
     rw [show (z == n ||| 2 ^ k) = (n ||| 2 ^ k == z) from by rw [Bool.eq_iff_iff, beq_iff_eq, beq_iff_eq]; exact ⟨Eq.symm, Eq.symm⟩]
     cases T z <;> cases oneC (fs.take i) n z <;> cases (n ||| 2 ^ k == z) <;> rfl
   ·rw [hbit] at ek htk
    repeat' (first | apply zC | apply zG | apply zD | apply zK | apply zA | apply zB | refine zF (by simp only [go_sem, hk, ek]; rfl) qR ?_ ?_ | (refine zE (by simp only [go_sem, hk, ek]; rfl) ?_ ?_ <;> intro hb <;> have hc := hb <;> (try simp only [bF] at hc) <;> (try (exfalso; simp at hc; done))) | refine zR (i+1,T2) ?_ ?_ ⟨rfl, qL, qL⟩ | exact True.intro | exact rfl | omega | exact qP | fail)
    refine ⟨by simp only; omega, fun z hz => ?_⟩
    simp only
    rw [q2 z hz, htk z]
    simp
  ·have hz : fs.take i = fs := List.take_of_length_le (by omega)
   rw [hz] at q2
   repeat' (first | apply zK | refine zJ qR ?_ | refine zR (addK (.i (n:Int)) V,some (.i (n:Int)),c',T2) ?_ ?_ ⟨rfl, qL, qL⟩ | omega)
   ·intro z hz
    simp only
    rw [q2 z hz, g1 z hz, unV_add _ hn hS]
   all_goals skip
end Go.Sx
