/- Part of the proof that the laws of the judge return true for every input: J34, J35, J36, J37. -/
import Derived.Test.YtmbocmonhcplhaaGreatJ33
import Derived.Test.YtmbocmonhcplhaaGreatJ29
set_option linter.all false
namespace Go.Sx
open Go.Proofs Go.RowKit
attribute [local irreducible] Run RunL RunD OpT SLe0 SLe OLe
set_option maxHeartbeats 2000000
set_option maxRecDepth 8000
set_option maxHeartbeats 20000000
def dM (S : Nat → Bool) : MK → Bool
 | .i z => decide (0 ≤ z) && decide (z < 1024) && S z.toNat
 | .s _ => false
def cM (S : Nat → Bool) : Nat := (List.range 1024).countP S
def fT : MK → SD := fun _ => .bool true
def eSet (S : Nat → Bool) : SD := .fmap (some .i64) (cM S) (dM S) fT
def oSet (S : Nat → Bool) : OB := .mp ⟨some .i64, cM S, dM S, fT, none⟩ []
def insS (z : Nat) (S : Nat → Bool) : Nat → Bool := fun y => y == z || S y
attribute [go_sem] eSet oSet
theorem dM_nat (S : Nat → Bool) (z : Nat) (hz : z < 1024) : dM S (.i (z : Int)) = S z := by
 simp only [dM, Int.toNat_natCast]
 rw [decide_eq_true (by omega), decide_eq_true (by omega)]; rfl
theorem dM_ext {S S' : Nat → Bool} (h : ∀ z, z < 1024 → S z = S' z) : dM S = dM S' := by
 funext q
 cases q with
 | s b => rfl
 | i z =>
  simp only [dM]
  by_cases h1 : 0 ≤ z ∧ z < 1024
  ·rw [h z.toNat (by omega)]
  ·have : (decide (0 ≤ z) && decide (z < 1024)) = false := by
    rw [← Bool.not_eq_true, Bool.and_eq_true, decide_eq_true_eq, decide_eq_true_eq]; exact h1
   rw [this]; rfl
theorem cM_ext {S S' : Nat → Bool} (h : ∀ z, z < 1024 → S z = S' z) : cM S = cM S' := List.countP_congr fun z hz => by rw [h z (List.mem_range.1 hz)]
theorem dM_inv {S : Nat → Bool} {q : MK} (h : dM S q = true) : ∃ z : Nat, z < 1024 ∧ q = .i (z : Int) ∧ S z = true := by
 cases q with
 | s b => cases h
 | i z =>
  simp only [dM, Bool.and_eq_true, decide_eq_true_eq] at h
  exact ⟨z.toNat, by omega, by congr 1; omega, h.2⟩
theorem add_dM (S : Nat → Bool) (z : Nat) (hz : z < 1024) : addK (.i (z : Int)) (dM S) = dM (insS z S) := by
 funext q
 simp only [addK]
 cases q with
 | s b => simp [dM]
 | i y =>
  by_cases h : y = (z : Int)
  ·subst h
   have hI : dM (insS z S) (.i (z : Int)) = true := by rw [dM_nat _ _ hz]; simp [insS]
   rw [hI]; simp
  ·have h2 : decide (MK.i y = MK.i (z : Int)) = false := decide_eq_false (by simpa using h)
   rw [h2, Bool.false_or]
   simp only [dM, insS]
   by_cases h1 : 0 ≤ y ∧ y < 1024
   ·have : (y.toNat == z) = false := by rw [beq_eq_false_iff_ne]; omega
    rw [this, Bool.false_or]
   ·have : (decide (0 ≤ y) && decide (y < 1024)) = false := by
     rw [← Bool.not_eq_true, Bool.and_eq_true, decide_eq_true_eq, decide_eq_true_eq]; exact h1
    rw [this]; rfl
theorem countP_ins (S : Nat → Bool) (z : Nat) : ∀ l : List Nat, l.Nodup → z ∈ l → S z = false → l.countP (insS z S) = l.countP S + 1
 | [], _, h, _ => by cases h
 | x :: r, hn, h, hs => by
  have hn2 := List.nodup_cons.1 hn
  by_cases hx : x = z
  ·subst hx
   have hr : r.countP (insS x S) = r.countP S := List.countP_congr fun y hy => by
    have : y ≠ x := fun hc => hn2.1 (hc ▸ hy)
    simp [insS, this]
   rw [List.countP_cons, List.countP_cons, hr]
   simp [insS, hs]
  ·have hz : z ∈ r := by
    rcases List.mem_cons.1 h with h | h
    ·exact absurd h.symm hx
    ·exact h
   rw [List.countP_cons, List.countP_cons, countP_ins S z r hn2.2 hz hs]
   have : insS z S x = S x := by simp [insS, hx]
   rw [this]; omega
theorem add_cM (S : Nat → Bool) (z : Nat) (hz : z < 1024) : (bif dM S (.i (z : Int)) then cM S else cM S + 1) = cM (insS z S) := by
 rw [dM_nat _ _ hz]
 cases hs : S z
 ·simp only [cond_false, cM]
  exact (countP_ins S z _ List.nodup_range (List.mem_range.2 hz) hs).symm
 ·simp only [cond_true]
  exact cM_ext fun y _ => by
   simp only [insS]
   by_cases hy : y = z
   ·subst hy; simp [hs]
   ·simp [hy]
@[go_sem] theorem set_fT (q : MK) : setD q (.bool true) fT = fT := by
 funext r; simp only [setD, fT]; split <;> rfl
theorem cM_le (S : Nat → Bool) : cM S ≤ 1024 := by
 have := List.countP_le_length (p := S) (l := List.range 1024)
 simpa [cM] using this
def oneC (fs : List Int) (y z : Nat) : Bool := fs.any fun k => !y.testBit k.toNat && (y ||| 2 ^ k.toNat) == z
def unV (V : MK → Bool) (S : Nat → Bool) (C : Nat → Nat → Bool) (z : Nat) : Bool := (List.range 1024).any fun y => V (.i (y : Int)) && S y && C y z
def stepS (S : Nat → Bool) (C : Nat → Nat → Bool) (z : Nat) : Bool := (List.range 1024).any fun y => S y && C y z
theorem unV_none (S : Nat → Bool) (C : Nat → Nat → Bool) (z : Nat) : unV (fun _ => false) S C z = false := by simp [unV]
theorem unV_done {V : MK → Bool} {S : Nat → Bool} (C : Nat → Nat → Bool) (h : ∀ q, dM S q = true → V q = true) (z : Nat) : unV V S C z = stepS S C z := by
 simp only [unV, stepS]
 rw [Bool.eq_iff_iff, List.any_eq_true, List.any_eq_true]
 constructor
 ·rintro ⟨y, h1, h2⟩
  simp only [Bool.and_eq_true] at h2
  exact ⟨y, h1, by simp [h2]⟩
 ·rintro ⟨y, h1, h2⟩
  simp only [Bool.and_eq_true] at h2
  exact ⟨y, h1, by simp [h2, h (.i (y : Int)) (by rw [dM_nat _ _ (List.mem_range.1 h1)]; exact h2.1)]⟩
theorem unV_add {V : MK → Bool} {S : Nat → Bool} (C : Nat → Nat → Bool) {n : Nat} (hn : n < 1024) (hS : S n = true) (z : Nat) : unV (addK (.i (n : Int)) V) S C z = (unV V S C z || C n z) := by
 simp only [unV, addK]
 rw [Bool.eq_iff_iff, Bool.or_eq_true, List.any_eq_true, List.any_eq_true]
 constructor
 ·rintro ⟨y, h1, h2⟩
  simp only [Bool.and_eq_true, Bool.or_eq_true, decide_eq_true_eq, MKi] at h2
  obtain ⟨⟨h3 | h3, h4⟩, h5⟩ := h2
  ·have : y = n := by omega
   subst this; exact .inr h5
  ·exact .inl ⟨y, h1, by simp [h3, h4, h5]⟩
 ·rintro (⟨y, h1, h2⟩ | h)
  ·simp only [Bool.and_eq_true] at h2
   exact ⟨y, h1, by simp [h2]⟩
  ·exact ⟨n, List.mem_range.2 hn, by simp [hS, h]⟩
theorem ole_eq {o o' : OB} (h : o = o') : OLe o o' := h ▸ OLe.refl _
theorem oneC_take (fs : List Int) (n z i : Nat) (hi : i < fs.length) : oneC (fs.take (i + 1)) n z = (oneC (fs.take i) n z || (!n.testBit (fs.getD i default).toNat && (n ||| 2 ^ (fs.getD i default).toNat) == z)) := by
 simp only [oneC]
 rw [List.take_add_one, List.getElem?_eq_getElem hi, List.any_append, List.getD_eq_getElem?_getD, List.getElem?_eq_getElem hi]
 simp
theorem K270 : FnOK Tryz.prog 270 (fun ds v => ∃ (fs : List Int) (S : Nat → Bool), ((∀ x ∈ fs, 0 ≤ x ∧ x < 10) ∧ fs.length ≤ 10) ∧ ds = [.agg [ints fs], eSet S] ∧ v = eSet (stepS S (oneC fs))) := by
 refine fn_intro Tryz.call270 Tryz.func270 rfl Tryz.ntmps270 ?_
 rintro ds d ⟨fs, S, ⟨hf, hfl⟩, rfl, rfl⟩
 refine ⟨by simp, fun w0 => ?_⟩
 have e0 : (.mp ⟨some .i64, 0, fun _ => false, fT, none⟩ [] : OB) = oSet (fun _ => false) := by
  simp only [oSet]
  congr 2
  all_goals first | (funext q; cases q <;> simp [dM]; done) | (simp [cM]; done)
 repeat' (first | apply zC | apply zD | apply zA | apply zB | refine zF qS qR ?_ ?_ | refine stepmk (fT) qS qS ?_ | refine steprng qS qS qS ?_ | exact True.intro | exact rfl | fail)
 refine zR (o' := oSet (fun _ => false)) 1 qR (ole_eq e0) ?_
 refine zN [0, 1, 2, 4, 5, 11] (fun x : (MK → Bool) × Option MK × Nat × (Nat → Bool) => []) (fun x : (MK → Bool) × Option MK × Nat × (Nat → Bool) => [(1, oSet x.2.2.2), (2, .mp ⟨some .i64, cM S, dM S, fT, some (.iter x.2.2.1 x.1 x.2.1)⟩ [])]) (fun x : (MK → Bool) × Option MK × Nat × (Nat → Bool) => ∀ z, z < 1024 → x.2.2.2 z = unV x.1 S (oneC fs) z) (fun x : (MK → Bool) × Option MK × Nat × (Nat → Bool) => x.2.2.1) ((fun _ => false), none, cM S, fun _ => false) (fun x => qS) ?_ qL qL ?_
 ·intro z _; exact (unV_none _ _ _).symm
 rintro ⟨V, cur, c, T⟩ g1
 simp only at g1
 repeat' (first | apply zC | apply zA | exact rfl | fail)
 refine stepnxt qS qS qR (fun hdone => ?_) (fun y c' hlt hdom hV => ?_)
 ·have hT : ∀ z, z < 1024 → T z = stepS S (oneC fs) z := fun z hz => by rw [g1 z hz, unV_done _ hdone]
  have hE : eSet (stepS S (oneC fs)) = eSet T := by simp only [eSet]; rw [dM_ext hT, cM_ext hT]
  rw [hE]
  repeat' (first | refine zO 1 qS ?_ | apply zC | apply zA | apply zB | refine zF qS qR ?_ ?_ | (refine zE qS ?_ ?_ <;> intro hb <;> have hc := hb <;> (try simp only [bF] at hc) <;> (try (exfalso; simp at hc; done))) | refine zI qR ?_ | refine zK qR ?_ | exact True.intro | exact rfl | exact SLe0.pure rfl | fail)
  all_goals skip
 ·obtain ⟨n, hn, hy, hS⟩ := dM_inv hdom
  obtain rfl : y = (n : Int) := by simpa using hy
  repeat' (first | apply zC | apply zB | refine zF qS qR ?_ ?_ | exact True.intro | fail)
  (refine zE qS ?_ ?_ <;> intro hb <;> have hc := hb <;> (try simp only [bF] at hc) <;> (try (exfalso; simp at hc; done)))
  repeat' (first | apply zC | apply zG | apply zD | apply zA | apply zB | refine zF qS qR ?_ ?_ | refine stepent qS qS qS ?_ | exact True.intro | exact rfl | fail)
  refine zN [0, 1, 2, 4, 5, 6, 11, 17, 18] (fun x : Nat × (Nat → Bool) => [(19, .int .i64 x.1)]) (fun x : Nat × (Nat → Bool) => [(1, oSet x.2)]) (fun x : Nat × (Nat → Bool) => x.1 ≤ fs.length ∧ ∀ z, z < 1024 → x.2 z = (T z || oneC (fs.take x.1) n z)) (fun x : Nat × (Nat → Bool) => fs.length - x.1) (0, T) (fun x => qS) ?_ qL qL ?_
  ·exact ⟨Nat.zero_le _, fun z _ => by simp [oneC]⟩
  rintro ⟨i, T2⟩ ⟨q1, q2⟩
  simp only at q1 q2
  repeat' (first | apply zC | apply zA | apply zB | refine zF qS qR ?_ ?_ | exact True.intro | exact rfl | fail)
  (refine zE qS ?_ ?_ <;> intro hb <;> have hc := hb <;> (try simp only [bF] at hc) <;> (try (exfalso; simp at hc; done)))
  ·have hi : i < fs.length := by assumption
   obtain ⟨k, hk⟩ : ∃ k : Nat, fs.getD i default = (k : Int) := ⟨(fs.getD i default).toNat, by have := hf _ (getD_mem' hi); omega⟩
   have hk10 : k < 10 := by have := hf _ (getD_mem' hi); omega
   have ek := bitT n k (by omega) (by omega)
   have h2k : (2 : Nat) ^ k ≤ 2 ^ 9 := Nat.pow_le_pow_right (by omega) (by omega)
   have htk : ∀ z, oneC (fs.take (i + 1)) n z = (oneC (fs.take i) n z || (!n.testBit k && (n ||| 2 ^ k) == z)) := fun z => by rw [oneC_take _ _ _ _ hi, hk, Int.toNat_natCast]
   cases hbit : n.testBit k
   ·rw [hbit] at ek htk
    have e1 := bshl k (by omega)
    have e2 := bor n (2 ^ k) (by omega) (by omega)
    have hzz : n ||| 2 ^ k < 1024 := Nat.or_lt_two_pow (n := 10) (by omega) (by omega)
    have u1 := add_dM T2 _ hzz
    have u2 := add_cM T2 _ hzz
    repeat' (first | apply zC | apply zG | apply zD | apply zL | apply zA | apply zB | refine zF (by simp only [go_sem, hk, ek, e1, e2, u1, u2]; rfl) qR ?_ ?_ | refine stepmu (by simp only [go_sem, hk, ek, e1, e2, u1, u2]; rfl) ?_ ?_ ?_ | (refine zE (by simp only [go_sem, hk, ek, e1, e2, u1, u2]; rfl) ?_ ?_ <;> intro hb <;> have hc := hb <;> (try simp only [bF] at hc) <;> (try (exfalso; simp at hc; done))) | refine zS (i+1,insS (n ||| 2^k) T2) ?_ ?_ ⟨rfl, qL, qL⟩ | exact True.intro | exact rfl | omega | exact qP | fail)
    ·have := cM_le T2
     show allP [cM T2 < maxN]
     exact ⟨Nat.lt_of_le_of_lt this (by decide), trivial⟩
    ·refine ⟨by simp only; omega, fun z hz => ?_⟩
     simp only [insS]
     rw [q2 z hz, htk z]
     simp only [Bool.not_false, Bool.true_and]
     rw [show (z == n ||| 2 ^ k) = (n ||| 2 ^ k == z) from by rw [Bool.eq_iff_iff, beq_iff_eq, beq_iff_eq]; exact ⟨Eq.symm, Eq.symm⟩]
     cases T z <;> cases oneC (fs.take i) n z <;> cases (n ||| 2 ^ k == z) <;> rfl
   ·rw [hbit] at ek htk
    repeat' (first | apply zC | apply zG | apply zD | apply zL | apply zA | apply zB | refine zF (by simp only [go_sem, hk, ek]; rfl) qR ?_ ?_ | (refine zE (by simp only [go_sem, hk, ek]; rfl) ?_ ?_ <;> intro hb <;> have hc := hb <;> (try simp only [bF] at hc) <;> (try (exfalso; simp at hc; done))) | refine zS (i+1,T2) ?_ ?_ ⟨rfl, qL, qL⟩ | exact True.intro | exact rfl | omega | exact qP | fail)
    refine ⟨by simp only; omega, fun z hz => ?_⟩
    simp only
    rw [q2 z hz, htk z]
    simp
  ·have hz : fs.take i = fs := List.take_of_length_le (by omega)
   rw [hz] at q2
   repeat' (first | apply zL | refine zK qR ?_ | refine zS (addK (.i (n:Int)) V,some (.i (n:Int)),c',T2) ?_ ?_ ⟨rfl, qL, qL⟩ | omega)
   ·intro z hz
    simp only
    rw [q2 z hz, g1 z hz, unV_add _ hn hS]
   all_goals skip
end Go.Sx
namespace Go.Sx
open Go.Proofs Go.RowKit
attribute [local irreducible] Run RunL RunD OpT SLe0 SLe OLe
set_option maxHeartbeats 2000000
set_option maxRecDepth 8000
set_option maxHeartbeats 20000000
attribute [go_sem] menM
def chs (cr : List Int) (N : Int) (set : Nat) : List Int → Nat → Int → Nat → Bool
 | [], next, c, z => (next != set && decide (N ≤ c)) && (z == next)
 | i :: r, next, c, z => chs cr N set r next c z || (!set.testBit i.toNat && chs cr N set r (next ||| 2 ^ i.toNat) (IntKind.i64.wrap (c + cr.getD i.toNat default)) z)
@[go_sem] def oW (fs cr : List Int) (N : Int) : OB := .var [ints fs, ints cr, .int .i64 N]
@[go_sem] def oCh : OB := .var [.fn 272 [.loc 1000 0, .loc 1001 0, .loc 1002 0, .loc 1003 0]]
theorem oSet_ext {S S' : Nat → Bool} (h : ∀ z, z < 1024 → S z = S' z) : oSet S = oSet S' := by simp only [oSet]; rw [dM_ext h, cM_ext h]
theorem eSet_ext {S S' : Nat → Bool} (h : ∀ z, z < 1024 → S z = S' z) : eSet S = eSet S' := by simp only [eSet]; rw [dM_ext h, cM_ext h]
theorem K272 (m : Nat) : FnM Tryz.prog 272 (fun ds os v os' => ∃ (fs cr : List Int) (N : Int) (set : Nat) (T : Nat → Bool) (k next : Nat) (c : Int), ((∀ x ∈ fs, 0 ≤ x ∧ x < 10 ∧ x < cr.length) ∧ fs.length ≤ 10 ∧ k + m = fs.length ∧ next < 1024 ∧ set < 1024) ∧ ds = [eInt (k : Nat), eInt (next : Nat), eInt c, .loc 1000 0, .loc 1001 0, .loc 1002 0, .loc 1003 0] ∧ os = [oW fs cr N, .var [.int .i64 (set : Nat)], .var [.omap 1004], oCh, oSet T] ∧ v = .tup [] ∧ os' = enumO 1000 [oW fs cr N, .var [.int .i64 (set : Nat)], .var [.omap 1004], oCh, oSet fun z => T z || chs cr N set (fs.drop k) next c z]) := by
 induction m with
 | zero =>
  refine fn_introM Tryz.call272 Tryz.func272 rfl Tryz.ntmps272 ?_
  rintro ds os d os' ⟨fs, cr, N, set, T, k, next, c, ⟨hf, hfl, hk, hn, hs⟩, rfl, rfl, rfl, rfl⟩
  refine ⟨by simp, fun F w0 => ?_⟩
  have hkf : k = fs.length := by omega
  have b1 : (((k : Nat) : Int) == ((fs.length : Nat) : Int)) = true := by rw [hkf]; simp
  have hd : fs.drop k = [] := by rw [hkf]; simp
  have u1 := add_dM T next hn
  have u2 := add_cM T next hn
  rw [hd]
  have bne : (((next : Nat) : Int) != ((set : Nat) : Int)) = (next != set) := by
   rw [bne, bne]; congr 1; rw [Bool.eq_iff_iff, beq_iff_eq, beq_iff_eq]; omega
  cases hcd : (next != set && decide (N ≤ c))
  ·repeat' (first | apply zC | apply zG | apply zA | apply zB | refine zF (by simp only [go_sem, b1, bne, hcd]; rfl) qR ?_ ?_ | (refine zE (by simp only [go_sem, b1, bne, hcd]; rfl) ?_ ?_ <;> intro hb <;> have hc := hb <;> (try simp only [bF] at hc) <;> (try (exfalso; simp at hc; done))) | exact True.intro | exact rfl | exact qP | fail)
   refine zR (o' := oSet fun z => T z || chs cr N set [] next c z) 1004 qR (ole_eq (oSet_ext fun z _ => ?_)) ?_
   ·simp only [chs, hcd]; simp
   refine yC qR qS ?_ ?_
   ·exact SLe.refl _
   ·(show subO _ _; simp only [go_sem]; repeat' (first | exact SLe.any1 | exact trivial | exact True.intro | exact SLe.refl _ | exact OLe.refl _ | exact ⟨_, rfl, OLe.refl _⟩ | refine ⟨_, rfl, ?_⟩ | refine OLe.var ?_ | (show SLeL _ _; refine ⟨?_, ?_⟩) | (show SLeL [] []; exact True.intro) | (refine SLe.int ?_; rw [w64]; omega) | refine SLe.int ?_ | refine SLe.bool ?_ | apply And.intro))
  ·repeat' (first | apply zC | apply zA | apply zB | refine zF (by simp only [go_sem, b1, bne, hcd, u1, u2]; rfl) qR ?_ ?_ | refine stepmu (by simp only [go_sem, b1, bne, hcd, u1, u2]; rfl) ?_ ?_ ?_ | (refine zE (by simp only [go_sem, b1, bne, hcd, u1, u2]; rfl) ?_ ?_ <;> intro hb <;> have hc := hb <;> (try simp only [bF] at hc) <;> (try (exfalso; simp at hc; done))) | exact True.intro | exact rfl | exact qP | fail)
   ·exact ⟨Nat.lt_of_le_of_lt (cM_le T) (by decide), trivial⟩
   refine zR (o' := oSet fun z => T z || chs cr N set [] next c z) 1004 qR (ole_eq (oSet_ext (S := insS next T) fun z _ => ?_)) ?_
   ·simp only [chs, hcd, insS]; rw [Bool.true_and, Bool.or_comm]
   refine yC qR qS ?_ ?_
   ·exact SLe.refl _
   ·(show subO _ _; simp only [go_sem]; repeat' (first | exact SLe.any1 | exact trivial | exact True.intro | exact SLe.refl _ | exact OLe.refl _ | exact ⟨_, rfl, OLe.refl _⟩ | refine ⟨_, rfl, ?_⟩ | refine OLe.var ?_ | (show SLeL _ _; refine ⟨?_, ?_⟩) | (show SLeL [] []; exact True.intro) | (refine SLe.int ?_; rw [w64]; omega) | refine SLe.int ?_ | refine SLe.bool ?_ | apply And.intro))
 | succ m ih =>
  refine fn_introM Tryz.call272 Tryz.func272 rfl Tryz.ntmps272 ?_
  rintro ds os d os' ⟨fs, cr, N, set, T, k, next, c, ⟨hf, hfl, hk, hn, hs⟩, rfl, rfl, rfl, rfl⟩
  refine ⟨by simp, fun F w0 => ?_⟩
  have b1 : (((k : Nat) : Int) == ((fs.length : Nat) : Int)) = false := by rw [beq_eq_false_iff_ne]; omega
  have e1 : IntKind.i64.wrap ((k : Int) + 1) = ((k + 1 : Nat) : Int) := by rw [w64]; omega
  obtain ⟨i, hi⟩ : ∃ i : Nat, fs.getD k default = (i : Int) := ⟨(fs.getD k default).toNat, by have := hf _ (getD_mem' (show k < fs.length by omega)); omega⟩
  have hi10 : i < 10 ∧ i < cr.length := by have := hf _ (getD_mem' (show k < fs.length by omega)); omega
  have hdr : fs.drop k = (i : Int) :: fs.drop (k + 1) := by rw [drop_get _ _ (show k < fs.length by omega), hi]
  have ek := bitT set i (by omega) (by omega)
  have h2k : (2 : Nat) ^ i ≤ 2 ^ 9 := Nat.pow_le_pow_right (by omega) (by omega)
  have e2 := bshl i (by omega)
  have e3 := bor next (2 ^ i) (by omega) (by omega)
  have hzz : next ||| 2 ^ i < 1024 := Nat.or_lt_two_pow (n := 10) (by omega) (by omega)
  obtain ⟨T1, hT1⟩ : ∃ T1 : Nat → Bool, (fun z => T z || chs cr N set (fs.drop (k + 1)) next c z) = T1 := ⟨_, rfl⟩
  cases hbit : set.testBit i
  ·rw [hbit] at ek
   have hfin : ∀ z, z < 1024 → (T1 z || chs cr N set (fs.drop (k + 1)) (next ||| 2 ^ i) (IntKind.i64.wrap (c + cr.getD i default)) z) = (T z || chs cr N set (fs.drop k) next c z) := fun z _ => by
    rw [← hT1, hdr]; simp only [chs, Int.toNat_natCast, hbit, Bool.not_false, Bool.true_and, Bool.or_assoc]
   repeat' (first | apply zC | apply zG | apply zA | apply zP | apply zB | refine zF (by simp only [go_sem, b1, e1, hi, ek, hT1, e2, e3]; rfl) qR ?_ ?_ | refine zU (by simp only [go_sem, b1, e1, hi, ek, hT1, e2, e3]; rfl) qR ?_ ?_ | refine stepcallvM [1000, 1001, 1002, 1003, 1004] ih (by first | (simp only [go_sem, b1, e1, hi, ek, hT1, e2, e3]; done) | (simp only [go_sem, b1, e1, hi, ek, hT1, e2, e3]; rfl)) qR (by simp only [go_sem, b1, e1, hi, ek, hT1, e2, e3]; first | done | rfl) (by first | (simp only [go_sem, b1, e1, hi, ek, hT1, e2, e3]; done) | rfl) (by first | (simp only [go_sem, b1, e1, hi, ek, hT1, e2, e3]; done) | (simp only [go_sem, b1, e1, hi, ek, hT1, e2, e3]; rfl)) ?_ ⟨fs, cr, N, set, T, k+1, next, c, ⟨hf, hfl, by omega, hn, hs⟩, rfl, rfl, rfl, rfl⟩ (by simp only [go_sem, b1, e1, hi, ek, hT1, e2, e3]; rfl) ?_ | refine runDbar qK qR (opT_callvM [1000, 1001, 1002, 1003, 1004] ih (by first | (simp only [go_sem, b1, e1, hi, ek, hT1, e2, e3]; done) | (simp only [go_sem, b1, e1, hi, ek, hT1, e2, e3]; rfl)) qR (by simp only [go_sem, b1, e1, hi, ek, hT1, e2, e3]; first | done | rfl) (by first | (simp only [go_sem, b1, e1, hi, ek, hT1, e2, e3]; done) | rfl) (by first | (simp only [go_sem, b1, e1, hi, ek, hT1, e2, e3]; done) | (simp only [go_sem, b1, e1, hi, ek, hT1, e2, e3]; rfl)) ?_ ⟨fs, cr, N, set, T1, k+1, next ||| 2^i, IntKind.i64.wrap (c+cr.getD i default), ⟨hf, hfl, by omega, hzz, hs⟩, rfl, rfl, rfl, rfl⟩ (by simp only [go_sem, b1, e1, hi, ek, hT1, e2, e3]; rfl)) (by simp only [go_sem, b1, e1, hi, ek, hT1, e2, e3]; rfl) ?_ qK qR ?_ | (refine zE (by simp only [go_sem, b1, e1, hi, ek, hT1, e2, e3]; rfl) ?_ ?_ <;> intro hb <;> have hc := hb <;> (try simp only [bF] at hc) <;> (try (exfalso; simp at hc; done))) | exact True.intro | exact rfl | exact qP | fail)
   refine zR (o' := oSet fun z => T z || chs cr N set (fs.drop k) next c z) 1004 qR (ole_eq (oSet_ext hfin)) ?_
   refine run_endM qR ?_ ?_
   ·exact SLe.refl _
   ·(show subO _ _; simp only [go_sem]; repeat' (first | exact SLe.any1 | exact trivial | exact True.intro | exact SLe.refl _ | exact OLe.refl _ | exact ⟨_, rfl, OLe.refl _⟩ | refine ⟨_, rfl, ?_⟩ | refine OLe.var ?_ | (show SLeL _ _; refine ⟨?_, ?_⟩) | (show SLeL [] []; exact True.intro) | (refine SLe.int ?_; rw [w64]; omega) | refine SLe.int ?_ | refine SLe.bool ?_ | apply And.intro))
  ·rw [hbit] at ek
   have hfin : ∀ z, z < 1024 → T1 z = (T z || chs cr N set (fs.drop k) next c z) := fun z _ => by
    rw [← hT1, hdr]; simp only [chs, Int.toNat_natCast, hbit, Bool.not_true, Bool.false_and, Bool.or_false]
   repeat' (first | apply zC | apply zG | apply zA | apply zB | refine zF (by simp only [go_sem, b1, e1, hi, ek, hT1]; rfl) qR ?_ ?_ | refine stepcallvM [1000, 1001, 1002, 1003, 1004] ih (by first | (simp only [go_sem, b1, e1, hi, ek, hT1]; done) | (simp only [go_sem, b1, e1, hi, ek, hT1]; rfl)) qR (by simp only [go_sem, b1, e1, hi, ek, hT1]; first | done | rfl) (by first | (simp only [go_sem, b1, e1, hi, ek, hT1]; done) | rfl) (by first | (simp only [go_sem, b1, e1, hi, ek, hT1]; done) | (simp only [go_sem, b1, e1, hi, ek, hT1]; rfl)) ?_ ⟨fs, cr, N, set, T, k+1, next, c, ⟨hf, hfl, by omega, hn, hs⟩, rfl, rfl, rfl, rfl⟩ (by simp only [go_sem, b1, e1, hi, ek, hT1]; rfl) ?_ | (refine zE (by simp only [go_sem, b1, e1, hi, ek, hT1]; rfl) ?_ ?_ <;> intro hb <;> have hc := hb <;> (try simp only [bF] at hc) <;> (try (exfalso; simp at hc; done))) | exact True.intro | exact rfl | exact qP | fail)
   refine zR (o' := oSet fun z => T z || chs cr N set (fs.drop k) next c z) 1004 qR (ole_eq (oSet_ext hfin)) ?_
   refine run_endM qR ?_ ?_
   ·exact SLe.refl _
   ·(show subO _ _; simp only [go_sem]; repeat' (first | exact SLe.any1 | exact trivial | exact True.intro | exact SLe.refl _ | exact OLe.refl _ | exact ⟨_, rfl, OLe.refl _⟩ | refine ⟨_, rfl, ?_⟩ | refine OLe.var ?_ | (show SLeL _ _; refine ⟨?_, ?_⟩) | (show SLeL [] []; exact True.intro) | (refine SLe.int ?_; rw [w64]; omega) | refine SLe.int ?_ | refine SLe.bool ?_ | apply And.intro))
end Go.Sx
namespace Go.Sx
open Go.Proofs Go.RowKit
attribute [local irreducible] Run RunL RunD OpT SLe0 SLe OLe
set_option maxHeartbeats 2000000
set_option maxRecDepth 8000
set_option maxHeartbeats 4000000
attribute [local irreducible] cM dM
@[go_sem] theorem fT_eq (q : MK) : fT q = .bool true := rfl
theorem K271 : FnOK Tryz.prog 271 (fun ds v => ∃ (fs cr : List Int) (N : Int) (S : Nat → Bool), ((∀ x ∈ fs, 0 ≤ x ∧ x < 10 ∧ x < cr.length) ∧ fs.length ≤ 10) ∧ ds = [.agg [ints fs, ints cr, .int .i64 N], eSet S] ∧ v = eSet (stepS S fun y z => chs cr N y fs y 0 z)) := by
 refine fn_intro Tryz.call271 Tryz.func271 rfl Tryz.ntmps271 ?_
 rintro ds d ⟨fs, cr, N, S, ⟨hf, hfl⟩, rfl, rfl⟩
 refine ⟨by simp, fun w0 => ?_⟩
 have e0 : (.mp ⟨some .i64, 0, fun _ => false, fT, none⟩ [] : OB) = oSet (fun _ => false) := by
  simp only [oSet]
  congr 2
  all_goals first | (funext q; cases q <;> simp [dM]; done) | (simp [cM]; done)
 repeat' (first | apply zC | apply zD | apply zA | apply zB | refine zF qS qR ?_ ?_ | refine stepmk (fT) qS qS ?_ | refine steprng qS qS qS ?_ | exact True.intro | exact rfl | fail)
 refine zR (o' := oSet (fun _ => false)) 1 qR (ole_eq e0) ?_
 refine zN [0, 1, 2, 4, 5, 10] (fun x : (MK → Bool) × Option MK × Nat × (Nat → Bool) => []) (fun x : (MK → Bool) × Option MK × Nat × (Nat → Bool) => [(1, oSet x.2.2.2), (3, .mp ⟨some .i64, cM S, dM S, fT, some (.iter x.2.2.1 x.1 x.2.1)⟩ [])]) (fun x : (MK → Bool) × Option MK × Nat × (Nat → Bool) => ∀ z, z < 1024 → x.2.2.2 z = unV x.1 S (fun y z => chs cr N y fs y 0 z) z) (fun x : (MK → Bool) × Option MK × Nat × (Nat → Bool) => x.2.2.1) ((fun _ => false), none, cM S, fun _ => false) (fun x => qS) ?_ qL qL ?_
 ·intro z _; exact (unV_none _ _ _).symm
 rintro ⟨V, cur, c, T⟩ g1
 simp only at g1
 repeat' (first | apply zC | apply zA | exact rfl | fail)
 refine stepnxt qS qS qR (fun hdone => ?_) (fun y c' hlt hdom hV => ?_)
 ·have hT : ∀ z, z < 1024 → T z = stepS S (fun y z => chs cr N y fs y 0 z) z := fun z hz => by rw [g1 z hz, unV_done _ hdone]
  rw [← eSet_ext hT]
  repeat' (first | refine zO 1 qS ?_ | apply zC | apply zA | apply zB | refine zF qS qR ?_ ?_ | (refine zE qS ?_ ?_ <;> intro hb <;> have hc := hb <;> (try simp only [bF] at hc) <;> (try (exfalso; simp at hc; done))) | refine zI qR ?_ | refine zK qR ?_ | exact True.intro | exact rfl | exact SLe0.pure rfl | fail)
  all_goals skip
 ·obtain ⟨n, hn, hy, hS⟩ := dM_inv hdom
  obtain rfl : y = (n : Int) := by simpa using hy
  repeat' (first | apply zC | apply zB | refine zF qS qR ?_ ?_ | exact True.intro | fail)
  (refine zE qS ?_ ?_ <;> intro hb <;> have hc := hb <;> (try simp only [bF] at hc) <;> (try (exfalso; simp at hc; done)))
  obtain ⟨T1, hT1⟩ : ∃ T1 : Nat → Bool, (fun z => T z || chs cr N n (fs) n 0 z) = T1 := ⟨_, rfl⟩
  have ihx := K272 fs.length
  clear e0 hdom hV
  repeat' (first | apply zC | apply zG | apply zD | apply zL | apply zA | apply zB | refine zF (by simp only [go_sem, hT1]; rfl) qR ?_ ?_ | refine stepent (by simp only [go_sem, hT1]; rfl) (by simp only [go_sem, hT1]; rfl) (by simp only [go_sem, hT1]; rfl) ?_ | refine stepcallvM [0, 4, 2, 5, 1] ihx (by first | (simp only [go_sem, hT1]; done) | (simp only [go_sem, hT1]; rfl)) qR (by simp only [go_sem, hT1]; first | done | rfl) (by first | (simp only [go_sem, hT1]; done) | rfl) (by first | (simp only [go_sem, hT1]; done) | (simp only [go_sem, hT1]; rfl)) ?_ ⟨fs, cr, N, n, T, 0, n, 0, ⟨hf, hfl, by omega, hn, hn⟩, rfl, rfl, rfl, rfl⟩ (by simp only [go_sem, hT1]; rfl) ?_ | exact True.intro | exact rfl | fail)
  refine zS (addK (.i (n : Int)) V, some (.i (n : Int)), c', T1) ?_ ?_ ⟨rfl, qL, qL⟩
  ·intro z hz
   simp only
   rw [← hT1]
   simp only
   rw [g1 z hz, unV_add _ hn hS]
  ·exact hlt
end Go.Sx
namespace Go.Sx
open Go.Proofs Go.RowKit
attribute [local irreducible] Run RunL RunD OpT SLe0 SLe OLe
set_option maxHeartbeats 2000000
set_option maxRecDepth 8000
set_option maxHeartbeats 4000000
attribute [local irreducible] cM dM
@[go_sem] def eSets (l : List (Nat → Bool)) : SD := .list 1 l.length fun i => eSet (l.getD i fun _ => false)
theorem K274 : FnAcc Tryz.prog 274 (fun ds T es n g => ∃ l : List (Nat → Bool), (0 < l.length ∧ l.length ≤ 100) ∧ ds = [eSets l] ∧ T = 103 ∧ es = 1 ∧ n = l.length ∧ g = fun i => eSet (l.getD i fun _ => false)) := by
 refine fn_introA Tryz.call274 Tryz.func274 rfl Tryz.ntmps274 ?_
 rintro ds T es n g ⟨l, hl, rfl, rfl, rfl, rfl, rfl⟩
 refine ⟨by simp, fun w0 => ?_⟩
 rcases l with _ | ⟨x, r⟩
 ·exact absurd hl.1 (by simp)
 ·have hl' : r.length + 1 ≤ 100 := by simpa using hl.2
  repeat' (first | apply zC | apply zG | apply zA | apply zB | refine zF qS qR ?_ ?_ | (refine zE qS ?_ ?_ <;> intro hb <;> have hc := hb <;> (try simp only [bF] at hc) <;> (try (exfalso; simp at hc; done))) | refine run_retA qR qR qR ?_ ?_ | exact True.intro | exact rfl | exact qP | fail)
  all_goals first | (show allP _; simp only [allP]; omega) | (simp only [List.length_cons]; omega) | (intro i _; simp only [joinF, Nat.not_lt_zero, if_false, Nat.sub_zero]; rfl) | skip
end Go.Sx
