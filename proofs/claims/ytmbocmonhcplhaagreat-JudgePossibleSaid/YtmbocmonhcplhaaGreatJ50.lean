/- Part of the proof that the laws of the judge return true for every input: J39, J50. -/
import Derived.Test.YtmbocmonhcplhaaGreatJ38
set_option linter.all false
namespace Go.Sx
open Go.Proofs Go.RowKit
attribute [local irreducible] Run RunL RunD OpT SLe0 SLe OLe
set_option maxHeartbeats 2000000
set_option maxRecDepth 8000
set_option maxHeartbeats 4000000
attribute [local irreducible] cM dM
def NN : Nat → Need → Prop
 | 0, n => 0 ≤ n.N
 | d + 1, n => 0 ≤ n.N ∧ ∀ x ∈ n.L, NN d x
theorem fitsL_ok (n : Need) (s : Scale) : ∀ (l : List Ach) (k : Nat), ∀ x ∈ fitsL n s l k, (k : Int) ≤ x ∧ x < (k : Int) + l.length
 | [], k, x, hx => by simp [fitsL] at hx
 | a :: r, k, x, hx => by
  simp only [fitsL, List.mem_append] at hx
  rcases hx with hx | hx
  ·split at hx
   ·simp only [List.mem_singleton] at hx
    subst hx
    simp only [List.length_cons]; omega
   ·cases hx
  ·have := fitsL_ok n s r (k + 1) x hx
   simp only [List.length_cons]; omega
theorem meth175 : MethV Tryz.prog 175 judgeAfter 270 := fun _ _ _ => by kernel_rfl
theorem meth177 : MethV Tryz.prog 177 judgeAfter 271 := fun _ _ _ => by kernel_rfl
theorem meth179 : MethV Tryz.prog 179 judgeAfter 273 := fun _ _ _ => by kernel_rfl
theorem argLe' {P : Program} {f : Nat} {R R' : List SD → SD → Prop} (hf : FnOK P f R) (h : ∀ ds' d, R' ds' d → ∃ ds, R ds d ∧ ∀ h e vs, repT h ds' e vs → repT h ds e vs) : FnOK P f R' :=
 ⟨hf.call, fun ds' d hr h0 e w vs gh hs hv => by
  obtain ⟨ds, h1, h2⟩ := h ds' d hr
  exact hf.ok ds d h1 h0 e w vs gh hs (h2 _ _ _ hv)⟩
theorem K273z (s : Scale) (l : List Ach) : FnOK Tryz.prog 273 (fun ds v => ∃ (least : Int) (S : Nat → Bool), 0 ≤ least ∧ ds = [.agg [.list 1 0 fun _ => .any, .int .i64 least], eSet S] ∧ v = eSet (someS [] least S)) := by
 refine argLe' (K273 _ s l 0 (fun _ => False) (fun _ _ h => h.elim) rfl) ?_
 rintro ds v ⟨least, S, hle, rfl, rfl⟩
 refine ⟨_, ⟨[], least, S, ⟨fun m hm => by simp at hm, by simp, hle⟩, rfl, rfl⟩, fun h e vs hv => ?_⟩
 simp only [repT, rep, repC] at hv ⊢
 obtain ⟨v1, vs1, rfl, ⟨cs, rfl, v2, cs2, rfl, o1, ⟨a, cap, e1, e2, e3, e4⟩, h5⟩, h6⟩ := hv
 exact ⟨_, _, rfl, ⟨_, rfl, _, _, rfl, o1, ⟨a, cap, e1, e2, e3, fun h => absurd h (by simp)⟩, h5⟩, h6⟩
theorem leafI (s : Scale) (l : List Ach) (hl : l.length ≤ 10) (d : Nat) (n : Need) (S : Nat → Bool) (hk : n.Kind = 1 ∨ n.Kind = 2) : InvOK Tryz.prog (wantF s l d n) judgeAfter [eSet S] (eSet (aft s l d n S)) := by
 have hf : ∀ x ∈ fitsL n s l 0, 0 ≤ x ∧ x < 10 := fun x hx => by have := fitsL_ok n s l 0 x hx; omega
 have hf2 : ∀ x ∈ fitsL n s l 0, 0 ≤ x ∧ x < 10 ∧ x < (credL l).length := fun x hx => by
  have := fitsL_ok n s l 0 x hx
  simp only [credL, List.length_map]; omega
 have hfl : (fitsL n s l 0).length ≤ 10 := Nat.le_trans (fitsL_len n s l 0) hl
 rcases hk with k1 | k2
 ·refine ⟨175, [ints (fitsL n s l 0)], 270, _, ?_, meth175, K270, fitsL n s l 0, S, ⟨hf, hfl⟩, rfl, ?_⟩
  ·cases d <;> simp only [wantF, wT, wL, if_pos k1]
  ·cases d <;> simp only [aft, if_pos k1]
 ·have k1 : ¬ n.Kind = 1 := by omega
  refine ⟨177, [ints (fitsL n s l 0), ints (credL l), .int .i64 n.N], 271, _, ?_, meth177, K271, fitsL n s l 0, credL l, n.N, S, ⟨hf2, hfl⟩, rfl, ?_⟩
  ·cases d <;> simp only [wantF, wT, wL, if_neg k1, if_pos k2]
  ·cases d <;> simp only [aft, if_neg k1, if_pos k2]
theorem afterI (s : Scale) (l : List Ach) (hl : l.length ≤ 10) : ∀ (d : Nat) (n : Need) (S : Nat → Bool), NOk d n ∧ NN d n → InvOK Tryz.prog (wantF s l d n) judgeAfter [eSet S] (eSet (aft s l d n S))
 | 0, n, S, ⟨hn, hN⟩ => by
  by_cases hk : n.Kind = 1 ∨ n.Kind = 2
  ·exact leafI s l hl 0 n S hk
  ·have k1 : ¬ n.Kind = 1 := fun h => hk (.inl h)
   have k2 : ¬ n.Kind = 2 := fun h => hk (.inr h)
   refine ⟨179, _, 273, _, ?_, meth179, K273z s l, (if n.Kind = 3 then 0 else n.N), S, ?_, rfl, ?_⟩
   ·simp only [wantF, wT, wL, if_neg k1, if_neg k2]
   ·split
    ·exact Int.le_refl _
    ·exact hN
   ·simp only [aft, if_neg k1, if_neg k2]
 | d + 1, n, S, ⟨hn, hN⟩ => by
  by_cases hk : n.Kind = 1 ∨ n.Kind = 2
  ·exact leafI s l hl (d + 1) n S hk
  ·have k1 : ¬ n.Kind = 1 := fun h => hk (.inl h)
   have k2 : ¬ n.Kind = 2 := fun h => hk (.inr h)
   refine ⟨179, _, 273, _, ?_, meth179, K273 _ s l d (fun m => NOk d m ∧ NN d m) (fun m X h => afterI s l hl d m X h) rfl, n.L, (if n.Kind = 3 then (n.L.length : Int) else n.N), S, ⟨fun m hm => ⟨hn.2.2.2 m hm, hN.2 m hm⟩, hn.2.1, ?_⟩, rfl, ?_⟩
   ·simp only [wantF, wT, wL, if_neg k1, if_neg k2]
   ·split
    ·omega
    ·exact hN.1
   ·simp only [aft, if_neg k1, if_neg k2]
end Go.Sx
namespace Go.Sx
def leafS (n : Need) (s : Scale) (l : List Ach) (M : Nat) (S : Nat → Bool) : Nat → Bool := fun z =>
 (List.range M).any fun part => (decide (1 ≤ part) && ((part &&& fitsN n s l 0 0 == part) && aloneR n l part)) && (List.range M).any fun set => (S set && (set &&& part == 0)) && ((set ||| part) == z)
def refA (s : Scale) (l : List Ach) (M : Nat) : Nat → Need → (Nat → Bool) → Nat → Bool
 | 0, n, S => if n.Kind = 1 ∨ n.Kind = 2 then leafS n s l M S else someS [] (if n.Kind = 3 then 0 else n.N) S
 | d + 1, n, S => if n.Kind = 1 ∨ n.Kind = 2 then leafS n s l M S else someS (n.L.map (refA s l M d)) (if n.Kind = 3 then (n.L.length : Int) else n.N) S
theorem fitsN_bit (n : Need) (s : Scale) : ∀ (l : List Ach) (k set j : Nat), (fitsN n s l k set).testBit j = (set.testBit j || (decide (k ≤ j) && decide (j - k < l.length) && isFit n s (l.getD (j - k) default)))
 | [], k, set, j => by simp [fitsN]
 | a :: r, k, set, j => by
  rw [fitsN, fitsN_bit n s r (k + 1)]
  by_cases hjk : j = k
  ·subst hjk
   have h1 : decide (j + 1 ≤ j) = false := decide_eq_false (by omega)
   rw [h1]
   simp only [Bool.false_and, Bool.or_false, Nat.sub_self, List.length_cons, List.getD_cons_zero, Nat.le_refl, decide_true, Bool.true_and, Nat.zero_lt_succ]
   cases isFit n s a
   ·simp
   ·simp [Nat.testBit_or, Nat.testBit_two_pow]
  ·have h1 : (if isFit n s a then set ||| 2 ^ k else set).testBit j = set.testBit j := by
    split
    ·rw [Nat.testBit_or, Nat.testBit_two_pow]
     have : decide (k = j) = false := decide_eq_false fun h => hjk h.symm
     rw [this, Bool.or_false]
    ·rfl
   rw [h1]
   by_cases hlt : k ≤ j
   ·have e : j - k = (j - (k + 1)) + 1 := by omega
    rw [e, List.getD_cons_succ]
    have h2 : decide (k + 1 ≤ j) = true := decide_eq_true (by omega)
    have h3 : decide (k ≤ j) = true := decide_eq_true hlt
    have h4 : decide (j - (k + 1) + 1 < (a :: r).length) = decide (j - (k + 1) < r.length) := decide_eq_decide.2 (by simp)
    rw [h2, h3, h4]
   ·have h2 : decide (k + 1 ≤ j) = false := decide_eq_false (by omega)
    have h3 : decide (k ≤ j) = false := decide_eq_false hlt
    rw [h2, h3]; simp
def Fits (n : Need) (s : Scale) (l : List Ach) (j : Nat) : Prop := j < l.length ∧ isFit n s (l.getD j default) = true
theorem fitsN_iff (n : Need) (s : Scale) (l : List Ach) (j : Nat) : (fitsN n s l 0 0).testBit j = true ↔ Fits n s l j := by
 rw [fitsN_bit]
 simp [Fits]
theorem fitsL_iff (n : Need) (s : Scale) : ∀ (l : List Ach) (k : Nat) (x : Int), x ∈ fitsL n s l k ↔ ∃ j : Nat, x = ((k + j : Nat) : Int) ∧ Fits n s l j
 | [], k, x => by simp [fitsL, Fits]
 | a :: r, k, x => by
  rw [fitsL, List.mem_append, fitsL_iff n s r (k + 1)]
  constructor
  ·rintro (h | ⟨j, h1, h2, h3⟩)
   ·split at h
    ·rename_i hf
     simp only [List.mem_singleton] at h
     exact ⟨0, by simpa using h, by simp, by simpa using hf⟩
    ·cases h
   ·exact ⟨j + 1, by rw [h1]; congr 1; omega, by simpa using h2, by simpa using h3⟩
  ·rintro ⟨j, h1, h2, h3⟩
   cases j with
   | zero =>
    left
    simp only [List.getD_cons_zero] at h3
    rw [if_pos h3, h1]; simp
   | succ j =>
    right
    exact ⟨j, by rw [h1]; congr 1; omega, by simpa using h2, by simpa using h3⟩
theorem fitsL_nodup (n : Need) (s : Scale) : ∀ (l : List Ach) (k : Nat), (fitsL n s l k).Nodup
 | [], k => by simp [fitsL]
 | a :: r, k => by
  rw [fitsL]
  split
  ·simp only [List.singleton_append, List.nodup_cons]
   refine ⟨fun h => ?_, fitsL_nodup n s r (k + 1)⟩
   obtain ⟨j, hj, _⟩ := (fitsL_iff n s r (k + 1) _).1 h
   omega
  ·simpa using fitsL_nodup n s r (k + 1)
theorem sub_iff (p F : Nat) : (p &&& F == p) = true ↔ ∀ j, p.testBit j = true → F.testBit j = true := by
 rw [beq_iff_eq]
 constructor
 ·intro h j hj
  rw [← h, Nat.testBit_and, Bool.and_eq_true] at hj
  exact hj.2
 ·intro h
  apply Nat.eq_of_testBit_eq
  intro j
  rw [Nat.testBit_and]
  cases hp : p.testBit j
  ·rfl
  ·rw [h j hp]; rfl
theorem apart_iff (a b : Nat) : (a &&& b == 0) = true ↔ ∀ j, b.testBit j = true → a.testBit j = false := by
 rw [beq_iff_eq]
 constructor
 ·intro h j hj
  have : (a &&& b).testBit j = false := by rw [h]; exact Nat.zero_testBit j
  rw [Nat.testBit_and, hj, Bool.and_true] at this
  exact this
 ·intro h
  apply Nat.eq_of_testBit_eq
  intro j
  rw [Nat.testBit_and, Nat.zero_testBit]
  cases hb : b.testBit j
  ·rw [Bool.and_false]
  ·rw [h j hb]; rfl
theorem bit_lt {a m j : Nat} (h : a < 2 ^ m) (hj : a.testBit j = true) : j < m := by
 rcases Nat.lt_or_ge j m with h1 | h1
 ·exact h1
 ·have : a.testBit j = false := Nat.testBit_lt_two_pow (Nat.lt_of_lt_of_le h (Nat.pow_le_pow_right (by omega) h1))
  rw [this] at hj; cases hj
theorem lt_of_bits {a m : Nat} (h : ∀ j, a.testBit j = true → j < m) : a < 2 ^ m := by
 apply Nat.lt_pow_two_of_testBit
 intro j hj
 cases hb : a.testBit j
 ·rfl
 ·have := h j hb; omega
def mnF (p : Nat) : List Ach → Nat → Nat
 | [], _ => 0
 | _ :: r, k => (if p.testBit k then 1 else 0) + mnF p r (k + 1)
def crF (p : Nat) : List Ach → Nat → Int → Int
 | [], _, c => c
 | a :: r, k, c => crF p r (k + 1) (if p.testBit k then wr (c + a.Credits) else c)
theorem manyR_eq (p : Nat) : ∀ (l : List Ach) (k m : Nat) (c : Int), manyR p l k m c = (m + mnF p l k, crF p l k c)
 | [], k, m, c => by simp [manyR, mnF, crF]
 | a :: r, k, m, c => by
  rw [manyR, mnF, crF]
  cases h : p.testBit k
  ·rw [if_neg (by simp), manyR_eq p r]
   simp
  ·rw [if_pos rfl, manyR_eq p r]
   simp [Nat.add_assoc]
theorem mnF_pos (p : Nat) : ∀ (l : List Ach) (k : Nat), 0 < mnF p l k ↔ ∃ j, j < l.length ∧ p.testBit (k + j) = true
 | [], k => by simp [mnF]
 | a :: r, k => by
  rw [mnF]
  have ih := mnF_pos p r (k + 1)
  constructor
  ·intro h
   by_cases hb : p.testBit k = true
   ·exact ⟨0, by simp, hb⟩
   ·rw [if_neg hb, Nat.zero_add] at h
    obtain ⟨j, h1, h2⟩ := ih.1 h
    exact ⟨j + 1, by simpa using h1, by rw [show k + (j + 1) = k + 1 + j by omega]; exact h2⟩
  ·rintro ⟨j, h1, h2⟩
   cases j with
   | zero => rw [Nat.add_zero] at h2; rw [if_pos h2]; omega
   | succ j =>
    have := ih.2 ⟨j, by simpa using h1, by rw [show k + 1 + j = k + (j + 1) by omega]; exact h2⟩
    omega
theorem mnF_one (p : Nat) : ∀ (l : List Ach) (k : Nat), mnF p l k = 1 ↔ ∃ j, j < l.length ∧ p.testBit (k + j) = true ∧ ∀ i, i < l.length → p.testBit (k + i) = true → i = j
 | [], k => by simp [mnF]
 | a :: r, k => by
  rw [mnF]
  have ih := mnF_one p r (k + 1)
  have ih0 := mnF_pos p r (k + 1)
  by_cases hb : p.testBit k = true
  ·rw [if_pos hb]
   constructor
   ·intro h
    have h0 : ¬ 0 < mnF p r (k + 1) := by omega
    refine ⟨0, by simp, hb, fun i hi hbi => ?_⟩
    cases i with
    | zero => rfl
    | succ i => exact absurd (ih0.2 ⟨i, by simpa using hi, by rw [show k + 1 + i = k + (i + 1) by omega]; exact hbi⟩) h0
   ·rintro ⟨j, h1, h2, h3⟩
    have hj := h3 0 (by simp) hb
    subst hj
    have h0 : ¬ 0 < mnF p r (k + 1) := fun hc => by
     obtain ⟨i, q1, q2⟩ := ih0.1 hc
     have := h3 (i + 1) (by simpa using q1) (by rw [show k + (i + 1) = k + 1 + i by omega]; exact q2)
     omega
    omega
  ·rw [if_neg hb, Nat.zero_add, ih]
   constructor
   ·rintro ⟨j, h1, h2, h3⟩
    refine ⟨j + 1, by simpa using h1, by rw [show k + (j + 1) = k + 1 + j by omega]; exact h2, fun i hi hbi => ?_⟩
    cases i with
    | zero => exact absurd hbi hb
    | succ i => rw [h3 i (by simpa using hi) (by rw [show k + 1 + i = k + (i + 1) by omega]; exact hbi)]
   ·rintro ⟨j, h1, h2, h3⟩
    cases j with
    | zero => exact absurd h2 hb
    | succ j =>
     refine ⟨j, by simpa using h1, by rw [show k + 1 + j = k + (j + 1) by omega]; exact h2, fun i hi hbi => ?_⟩
     have := h3 (i + 1) (by simpa using hi) (by rw [show k + (i + 1) = k + 1 + i by omega]; exact hbi)
     omega
theorem pow_bit (k j : Nat) : (2 ^ k).testBit j = true ↔ j = k := by
 rw [Nat.testBit_two_pow, decide_eq_true_eq]; exact eq_comm
theorem ne_zero_iff (p : Nat) : p ≠ 0 ↔ ∃ j, p.testBit j = true := by
 constructor
 ·intro h; exact Nat.exists_testBit_of_ne_zero h
 ·rintro ⟨j, hj⟩ rfl
  rw [Nat.zero_testBit] at hj; cases hj
theorem alone_1 {n : Need} (h : n.Kind = 1) (l : List Ach) (p : Nat) (hp : p < 2 ^ l.length) : aloneR n l p = true ↔ ∃ j, j < l.length ∧ p = 2 ^ j := by
 have hk : (n.Kind == 1) = true := by rw [h]; rfl
 simp only [aloneR, manyR_eq, hk, if_true, Nat.zero_add, beq_iff_eq]
 rw [mnF_one]
 constructor
 ·rintro ⟨j, h1, h2, h3⟩
  refine ⟨j, h1, Nat.eq_of_testBit_eq fun i => ?_⟩
  rw [Nat.zero_add] at h2
  rw [Bool.eq_iff_iff, pow_bit]
  constructor
  ·intro hi; exact h3 i (bit_lt hp hi) (by rw [Nat.zero_add]; exact hi)
  ·rintro rfl; exact h2
 ·rintro ⟨j, h1, rfl⟩
  refine ⟨j, h1, by rw [Nat.zero_add, pow_bit], fun i _ hi => ?_⟩
  rw [Nat.zero_add, pow_bit] at hi
  exact hi
theorem alone_2 {n : Need} (h : n.Kind = 2) (l : List Ach) (p : Nat) (hp : p < 2 ^ l.length) : aloneR n l p = true ↔ p ≠ 0 ∧ n.N ≤ crF p l 0 0 := by
 have hk : (n.Kind == 1) = false := by rw [h]; rfl
 simp only [aloneR, manyR_eq, hk, Nat.zero_add, Bool.false_eq_true, if_false, Bool.and_eq_true, decide_eq_true_eq]
 rw [mnF_pos, ne_zero_iff]
 constructor
 ·rintro ⟨⟨j, _, h2⟩, h3⟩
  exact ⟨⟨j, by rw [Nat.zero_add] at h2; exact h2⟩, h3⟩
 ·rintro ⟨⟨j, h2⟩, h3⟩
  exact ⟨⟨j, bit_lt hp h2, by rw [Nat.zero_add]; exact h2⟩, h3⟩
theorem leafS_iff (n : Need) (s : Scale) (l : List Ach) (M : Nat) (S : Nat → Bool) (z : Nat) : leafS n s l M S z = true ↔ ∃ p, p < M ∧ 1 ≤ p ∧ (∀ j, p.testBit j = true → Fits n s l j) ∧ aloneR n l p = true ∧ ∃ y, y < M ∧ S y = true ∧ (∀ j, p.testBit j = true → y.testBit j = false) ∧ y ||| p = z := by
 simp only [leafS, List.any_eq_true, List.mem_range, Bool.and_eq_true, decide_eq_true_eq]
 constructor
 ·rintro ⟨p, h1, ⟨h2, h3, h4⟩, y, h5, ⟨h6, h7⟩, h8⟩
  exact ⟨p, h1, h2, fun j hj => (fitsN_iff n s l j).1 ((sub_iff _ _).1 h3 j hj), h4, y, h5, h6, (apart_iff _ _).1 h7, by simpa using h8⟩
 ·rintro ⟨p, h1, h2, h3, h4, y, h5, h6, h7, h8⟩
  exact ⟨p, h1, ⟨h2, (sub_iff _ _).2 fun j hj => (fitsN_iff n s l j).2 (h3 j hj), h4⟩, y, h5, ⟨h6, (apart_iff _ _).2 h7⟩, by simpa using h8⟩
theorem stepS_iff (S : Nat → Bool) (C : Nat → Nat → Bool) (z : Nat) : stepS S C z = true ↔ ∃ y, y < 1024 ∧ S y = true ∧ C y z = true := by
 simp only [stepS, List.any_eq_true, List.mem_range, Bool.and_eq_true]
theorem leaf_1 {n : Need} (h : n.Kind = 1) (s : Scale) (l : List Ach) (hl : l.length ≤ 10) (S : Nat → Bool) (hS : ∀ z, S z = true → z < 2 ^ l.length) (z : Nat) : stepS S (oneC (fitsL n s l 0)) z = leafS n s l (2 ^ l.length) S z := by
 have hM : 2 ^ l.length ≤ 1024 := Nat.pow_le_pow_right (n := 2) (by omega) hl
 rw [Bool.eq_iff_iff, leafS_iff, stepS_iff]
 constructor
 ·rintro ⟨y, _, h2, h3⟩
  simp only [oneC, List.any_eq_true, Bool.and_eq_true, Bool.not_eq_true', beq_iff_eq] at h3
  obtain ⟨k, hk, h4, h5⟩ := h3
  obtain ⟨j, rfl, hj⟩ := (fitsL_iff n s l 0 k).1 hk
  rw [Nat.zero_add, Int.toNat_natCast] at h4 h5
  have hjl := hj.1
  have hp : 2 ^ j < 2 ^ l.length := Nat.pow_lt_pow_right (by omega) hjl
  refine ⟨2 ^ j, hp, Nat.one_le_two_pow, fun i hi => ?_, (alone_1 h l _ hp).2 ⟨j, hjl, rfl⟩, y, hS y h2, h2, fun i hi => ?_, h5⟩
  ·rw [(pow_bit j i).1 hi]; exact hj
  ·rw [(pow_bit j i).1 hi]; exact h4
 ·rintro ⟨p, h1, _, h3, h4, y, h5, h6, h7, h8⟩
  obtain ⟨j, hj, rfl⟩ := (alone_1 h l p h1).1 h4
  refine ⟨y, by omega, h6, ?_⟩
  simp only [oneC, List.any_eq_true, Bool.and_eq_true, Bool.not_eq_true', beq_iff_eq]
  exact ⟨((0 + j : Nat) : Int), (fitsL_iff n s l 0 _).2 ⟨j, rfl, h3 j ((pow_bit j j).2 rfl)⟩, by rw [Nat.zero_add, Int.toNat_natCast]; exact h7 j ((pow_bit j j).2 rfl), by rw [Nat.zero_add, Int.toNat_natCast]; exact h8⟩
def crS (cr : List Int) (p : Nat) : List Int → Int → Int
 | [], c => c
 | i :: r, c => crS cr p r (if p.testBit i.toNat then IntKind.i64.wrap (c + cr.getD i.toNat default) else c)
theorem crS_congr (cr : List Int) {p q : Nat} : ∀ (fs : List Int) (c : Int), (∀ x ∈ fs, p.testBit x.toNat = q.testBit x.toNat) → crS cr p fs c = crS cr q fs c
 | [], _, _ => rfl
 | i :: r, c, h => by
  rw [crS, crS, h i (List.mem_cons_self ..), crS_congr cr r _ fun x hx => h x (List.mem_cons_of_mem _ hx)]
theorem chs_iff (cr : List Int) (N : Int) (y : Nat) : ∀ (fs : List Int) (next : Nat) (c : Int) (z : Nat), (∀ x ∈ fs, 0 ≤ x) → fs.Nodup →
  (chs cr N y fs next c z = true ↔ ∃ p : Nat, (∀ j : Nat, p.testBit j = true → (j : Int) ∈ fs) ∧ (∀ j, p.testBit j = true → y.testBit j = false) ∧ next ||| p = z ∧ next ||| p ≠ y ∧ N ≤ crS cr p fs c)
 | [], next, c, z, _, _ => by
  simp only [chs, Bool.and_eq_true, bne_iff_ne, ne_eq, decide_eq_true_eq, beq_iff_eq]
  constructor
  ·rintro ⟨⟨h1, h2⟩, h3⟩
   exact ⟨0, fun j hj => (by rw [Nat.zero_testBit] at hj; cases hj), fun j hj => (by rw [Nat.zero_testBit] at hj; cases hj), by rw [Nat.or_zero]; exact h3.symm, by rw [Nat.or_zero]; exact h1, h2⟩
  ·rintro ⟨p, h1, _, h3, h4, h5⟩
   have hp : p = 0 := by
    apply Classical.byContradiction
    intro hc
    obtain ⟨j, hj⟩ := (ne_zero_iff p).1 hc
    exact absurd (h1 j hj) (by simp)
   subst hp
   rw [Nat.or_zero] at h3 h4
   exact ⟨⟨h4, h5⟩, h3.symm⟩
 | i :: r, next, c, z, h0, hn => by
  have hn2 := List.nodup_cons.1 hn
  have h0r : ∀ x ∈ r, 0 ≤ x := fun x hx => h0 x (List.mem_cons_of_mem _ hx)
  obtain ⟨k, rfl⟩ : ∃ k : Nat, i = (k : Int) := ⟨i.toNat, by have := h0 i (List.mem_cons_self ..); omega⟩
  have hk : ∀ x ∈ r, x.toNat ≠ k := fun x hx hc => hn2.1 (by
   have := h0r x hx
   have : x = (k : Int) := by omega
   rw [← this]; exact hx)
  rw [chs, Bool.or_eq_true, Bool.and_eq_true, Bool.not_eq_true', Int.toNat_natCast, chs_iff cr N y r next c z h0r hn2.2, chs_iff cr N y r (next ||| 2 ^ k) _ z h0r hn2.2]
  constructor
  ·rintro (⟨p, h1, h2, h3, h4, h5⟩ | ⟨hb, p, h1, h2, h3, h4, h5⟩)
   ·have hpk : p.testBit k = false := by
     cases hh : p.testBit k
     ·rfl
     ·exact absurd (h1 k hh) hn2.1
    refine ⟨p, fun j hj => List.mem_cons_of_mem _ (h1 j hj), h2, h3, h4, ?_⟩
    rw [crS, Int.toNat_natCast, hpk, if_neg (by simp)]; exact h5
   ·refine ⟨2 ^ k ||| p, fun j hj => ?_, fun j hj => ?_, ?_, ?_, ?_⟩
    ·rw [Nat.testBit_or, Bool.or_eq_true, pow_bit] at hj
     rcases hj with rfl | hj
     ·exact List.mem_cons_self ..
     ·exact List.mem_cons_of_mem _ (h1 j hj)
    ·rw [Nat.testBit_or, Bool.or_eq_true, pow_bit] at hj
     rcases hj with rfl | hj
     ·exact hb
     ·exact h2 j hj
    ·rw [← Nat.or_assoc]; exact h3
    ·rw [← Nat.or_assoc]; exact h4
    ·have e : (2 ^ k ||| p).testBit k = true := by rw [Nat.testBit_or, (pow_bit k k).2 rfl, Bool.true_or]
     rw [crS, Int.toNat_natCast, e, if_pos rfl, crS_congr cr (q := p) r _ fun x hx => ?_]
     ·exact h5
     ·rw [Nat.testBit_or]
      have : (2 ^ k).testBit x.toNat = false := by
       cases hh : (2 ^ k).testBit x.toNat
       ·rfl
       ·exact absurd ((pow_bit _ _).1 hh) (hk x hx)
      rw [this, Bool.false_or]
  ·rintro ⟨p, h1, h2, h3, h4, h5⟩
   cases hpk : p.testBit k
   ·left
    rw [crS, Int.toNat_natCast, hpk, if_neg (by simp)] at h5
    refine ⟨p, fun j hj => ?_, h2, h3, h4, h5⟩
    rcases List.mem_cons.1 (h1 j hj) with he | he
    ·have : j = k := by omega
     subst this; rw [hpk] at hj; cases hj
    ·exact he
   ·right
    rw [crS, Int.toNat_natCast, hpk, if_pos rfl] at h5
    have hx : ∀ j, (p ^^^ 2 ^ k).testBit j = (p.testBit j && !decide (k = j)) := fun j => by
     rw [Nat.testBit_xor, Nat.testBit_two_pow]
     by_cases hkj : k = j
     ·subst hkj; simp [hpk]
     ·simp [hkj]
    have hor : next ||| 2 ^ k ||| (p ^^^ 2 ^ k) = next ||| p := Nat.eq_of_testBit_eq fun j => by
     rw [Nat.testBit_or, Nat.testBit_or, Nat.testBit_or, hx, Nat.testBit_two_pow]
     by_cases hkj : k = j
     ·subst hkj; simp [hpk]
     ·simp [hkj]
    refine ⟨h2 k hpk, p ^^^ 2 ^ k, fun j hj => ?_, fun j hj => ?_, by rw [hor]; exact h3, by rw [hor]; exact h4, ?_⟩
    ·rw [hx, Bool.and_eq_true, Bool.not_eq_true', decide_eq_false_iff_not] at hj
     rcases List.mem_cons.1 (h1 j hj.1) with he | he
     ·exact absurd (show k = j by omega) hj.2
     ·exact he
    ·rw [hx, Bool.and_eq_true] at hj
     exact h2 j hj.1
    ·rw [crS_congr cr (q := p) r _ fun x hx' => ?_]
     ·exact h5
     ·rw [hx]
      have : decide (k = x.toNat) = false := decide_eq_false fun hc => hk x hx' hc.symm
      rw [this]; simp
theorem crS_crF (n : Need) (s : Scale) (l : List Ach) (p : Nat) : ∀ (r : List Ach) (k : Nat) (c : Int), (∀ j, j < r.length → r.getD j default = l.getD (k + j) default) → k + r.length ≤ l.length → (∀ j, p.testBit j = true → Fits n s l j) → crS (credL l) p (fitsL n s r k) c = crF p r k c
 | [], k, c, _, _, _ => rfl
 | a :: r, k, c, h1, h2, h3 => by
  have ha : a = l.getD k default := by simpa using h1 0 (by simp)
  have hcr : (credL l).getD k default = a.Credits := by
   simp only [List.length_cons] at h2
   rw [ha, credL, List.getD_eq_getElem?_getD, List.getElem?_map, List.getD_eq_getElem?_getD, List.getElem?_eq_getElem (by omega)]
   rfl
  have ih : ∀ c, crS (credL l) p (fitsL n s r (k + 1)) c = crF p r (k + 1) c := fun c => crS_crF n s l p r (k + 1) c (fun j hj => by
   have := h1 (j + 1) (by simpa using hj)
   rw [List.getD_cons_succ] at this
   rw [this, show k + (j + 1) = k + 1 + j by omega]) (by simp only [List.length_cons] at h2; omega) h3
  rw [fitsL, crF]
  split
  ·rw [List.singleton_append, crS, Int.toNat_natCast, hcr, ih]
  ·rename_i hf
   rw [List.nil_append, ih]
   have : p.testBit k = false := by
    cases hh : p.testBit k
    ·rfl
    ·have := (h3 k hh).2
     rw [← ha] at this
     exact absurd this hf
   rw [this, if_neg (by simp)]
theorem leaf_2 {n : Need} (h : n.Kind = 2) (s : Scale) (l : List Ach) (hl : l.length ≤ 10) (S : Nat → Bool) (hS : ∀ z, S z = true → z < 2 ^ l.length) (z : Nat) : stepS S (fun y z => chs (credL l) n.N y (fitsL n s l 0) y 0 z) z = leafS n s l (2 ^ l.length) S z := by
 have hM : 2 ^ l.length ≤ 1024 := Nat.pow_le_pow_right (n := 2) (by omega) hl
 have hpos : ∀ x ∈ fitsL n s l 0, 0 ≤ x := fun x hx => by
  obtain ⟨j, rfl, _⟩ := (fitsL_iff n s l 0 x).1 hx
  omega
 have hmem : ∀ j : Nat, (j : Int) ∈ fitsL n s l 0 ↔ Fits n s l j := fun j => by
  rw [fitsL_iff]
  constructor
  ·rintro ⟨i, hi, hf⟩
   have : j = i := by omega
   rw [this]; exact hf
  ·intro hf; exact ⟨j, by rw [Nat.zero_add], hf⟩
 have hcr : ∀ p, (∀ j, p.testBit j = true → Fits n s l j) → crS (credL l) p (fitsL n s l 0) 0 = crF p l 0 0 := fun p hp => crS_crF n s l p l 0 0 (fun j _ => by rw [Nat.zero_add]) (by omega) hp
 rw [Bool.eq_iff_iff, leafS_iff, stepS_iff]
 constructor
 ·rintro ⟨y, _, h2, h3⟩
  obtain ⟨p, q1, q2, q3, q4, q5⟩ := (chs_iff _ _ _ _ _ _ _ hpos (fitsL_nodup n s l 0)).1 h3
  have hfp : ∀ j, p.testBit j = true → Fits n s l j := fun j hj => (hmem j).1 (q1 j hj)
  have hp : p < 2 ^ l.length := lt_of_bits fun j hj => (hfp j hj).1
  have hp0 : p ≠ 0 := fun hc => q4 (by rw [hc, Nat.or_zero])
  rw [hcr p hfp] at q5
  exact ⟨p, hp, by omega, hfp, (alone_2 h l p hp).2 ⟨hp0, q5⟩, y, hS y h2, h2, q2, q3⟩
 ·rintro ⟨p, h1, _, h3, h4, y, h5, h6, h7, h8⟩
  obtain ⟨q1, q2⟩ := (alone_2 h l p h1).1 h4
  refine ⟨y, by omega, h6, (chs_iff _ _ _ _ _ _ _ hpos (fitsL_nodup n s l 0)).2 ⟨p, fun j hj => (hmem j).2 (h3 j hj), h7, h8, fun hc => ?_, by rw [hcr p h3]; exact q2⟩⟩
  obtain ⟨j, hj⟩ := (ne_zero_iff p).1 q1
  have : (y ||| p).testBit j = true := by rw [Nat.testBit_or, hj, Bool.or_true]
  rw [hc, h7 j hj] at this
  cases this
theorem leafS_congr (n : Need) (s : Scale) (l : List Ach) (M : Nat) {S S' : Nat → Bool} (h : ∀ z, z < M → S z = S' z) (z : Nat) : leafS n s l M S z = leafS n s l M S' z := by
 rw [Bool.eq_iff_iff, leafS_iff, leafS_iff]
 constructor
 ·rintro ⟨p, h1, h2, h3, h4, y, h5, h6, h7⟩
  exact ⟨p, h1, h2, h3, h4, y, h5, by rw [← h y h5]; exact h6, h7⟩
 ·rintro ⟨p, h1, h2, h3, h4, y, h5, h6, h7⟩
  exact ⟨p, h1, h2, h3, h4, y, h5, by rw [h y h5]; exact h6, h7⟩
def Rl (M : Nat) (S S' : Nat → Bool) : Prop := (∀ z, z < M → S z = S' z) ∧ ∀ z, S z = true → z < M
theorem Rl.none (M : Nat) : Rl M noneS noneS := ⟨fun _ _ => rfl, fun _ h => by cases h⟩
theorem Rl.or {M : Nat} {A A' B B' : Nat → Bool} (h1 : Rl M A A') (h2 : Rl M B B') : Rl M (orS A B) (orS A' B') :=
 ⟨fun z hz => by simp only [orS, h1.1 z hz, h2.1 z hz], fun z hz => by
  simp only [orS, Bool.or_eq_true] at hz
  exact hz.elim (h1.2 z) (h2.2 z)⟩
def RlL (M : Nat) (m m' : List (Nat → Bool)) : Prop := m.length = m'.length ∧ ∀ i, Rl M (m.getD i noneS) (m'.getD i noneS)
theorem stepM_get' (A : (Nat → Bool) → Nat → Bool) (met : List (Nat → Bool)) (i : Nat) (hi : ¬ i < met.length + 1) : (stepM A met).getD i noneS = noneS := by
 rw [List.getD_eq_getElem?_getD, List.getElem?_eq_none (by rw [stepM_len]; omega)]; rfl
theorem RlL.step {M : Nat} {m m' : List (Nat → Bool)} {A A' : (Nat → Bool) → Nat → Bool} (h : RlL M m m') (hA : ∀ S S', Rl M S S' → Rl M (A S) (A' S')) : RlL M (stepM A m) (stepM A' m') := by
 refine ⟨by rw [stepM_len, stepM_len, h.1], fun i => ?_⟩
 by_cases hi : i < m.length + 1
 ·rw [stepM_get _ _ _ hi, stepM_get _ _ _ (by rw [← h.1]; exact hi)]
  split
  ·exact h.2 0
  ·exact (h.2 i).or (hA _ _ (h.2 (i - 1)))
 ·rw [stepM_get' _ _ _ hi, stepM_get' _ _ _ (by rw [← h.1]; exact hi)]
  exact Rl.none M
theorem RlL.fold {M : Nat} {α : Type} (f g : α → (Nat → Bool) → Nat → Bool) : ∀ (L : List α) (m m' : List (Nat → Bool)), RlL M m m' → (∀ x ∈ L, ∀ S S', Rl M S S' → Rl M (f x S) (g x S')) → RlL M (foldM (L.map f) m) (foldM (L.map g) m')
 | [], m, m', h, _ => h
 | x :: r, m, m', h, hx => by
  simp only [foldM, List.map_cons, List.foldl_cons]
  exact RlL.fold f g r _ _ (h.step (hx x (List.mem_cons_self ..))) fun y hy => hx y (List.mem_cons_of_mem _ hy)
theorem any_drop (m : List (Nat → Bool)) (b z : Nat) : ((m.drop b).any fun x => x z) = true ↔ ∃ i, b ≤ i ∧ i < m.length ∧ m.getD i noneS z = true := by
 rw [List.any_eq_true]
 constructor
 ·rintro ⟨x, hx, hz⟩
  obtain ⟨i, hi⟩ := List.getElem?_of_mem hx
  rw [List.getElem?_drop] at hi
  have hl := (List.getElem?_eq_some_iff.1 hi).1
  exact ⟨b + i, by omega, hl, by rw [List.getD_eq_getElem?_getD, hi]; exact hz⟩
 ·rintro ⟨i, h1, h2, h3⟩
  refine ⟨m.getD i noneS, ?_, h3⟩
  rw [List.getD_eq_getElem?_getD, List.getElem?_eq_getElem h2]
  apply List.mem_of_getElem? (i := i - b)
  rw [List.getElem?_drop, show b + (i - b) = i by omega]
  exact List.getElem?_eq_getElem h2
theorem RlL.some {M : Nat} {α : Type} (f g : α → (Nat → Bool) → Nat → Bool) (L : List α) (least : Int) {S S' : Nat → Bool} (h : Rl M S S') (hx : ∀ x ∈ L, ∀ S S', Rl M S S' → Rl M (f x S) (g x S')) : Rl M (someS (L.map f) least S) (someS (L.map g) least S') := by
 have h0 : RlL M [S] [S'] := ⟨rfl, fun i => by
  cases i with
  | zero => exact h
  | succ i => exact Rl.none M⟩
 have hF := RlL.fold f g L _ _ h0 hx
 unfold someS
 rw [← hF.1]
 generalize foldM (L.map f) [S] = m at hF ⊢
 generalize foldM (L.map g) [S'] = m' at hF ⊢
 generalize (if (m.length : Int) < least then (m.length : Int) else least).toNat = b
 refine ⟨fun z hz => ?_, fun z hz => ?_⟩
 ·rw [Bool.eq_iff_iff, any_drop, any_drop]
  constructor
  ·rintro ⟨i, h1, h2, h3⟩
   exact ⟨i, h1, by rw [← hF.1]; exact h2, by rw [← (hF.2 i).1 z hz]; exact h3⟩
  ·rintro ⟨i, h1, h2, h3⟩
   exact ⟨i, h1, by rw [hF.1]; exact h2, by rw [(hF.2 i).1 z hz]; exact h3⟩
 ·obtain ⟨i, _, _, h3⟩ := (any_drop _ _ _).1 hz
  exact (hF.2 i).2 z h3
theorem leafS_lt (n : Need) (s : Scale) (l : List Ach) (S : Nat → Bool) (z : Nat) (h : leafS n s l (2 ^ l.length) S z = true) : z < 2 ^ l.length := by
 obtain ⟨p, h1, _, _, _, y, h5, _, _, rfl⟩ := (leafS_iff _ _ _ _ _ _).1 h
 exact Nat.or_lt_two_pow h5 h1
theorem leaf_Rl {n : Need} (h : n.Kind = 1 ∨ n.Kind = 2) (s : Scale) (l : List Ach) (hl : l.length ≤ 10) {S S' : Nat → Bool} (hS : Rl (2 ^ l.length) S S') :
  Rl (2 ^ l.length) (if n.Kind = 1 then stepS S (oneC (fitsL n s l 0)) else if n.Kind = 2 then stepS S (fun y z => chs (credL l) n.N y (fitsL n s l 0) y 0 z) else noneS) (leafS n s l (2 ^ l.length) S') := by
 have key : ∀ z, (if n.Kind = 1 then stepS S (oneC (fitsL n s l 0)) else if n.Kind = 2 then stepS S (fun y z => chs (credL l) n.N y (fitsL n s l 0) y 0 z) else noneS) z = leafS n s l (2 ^ l.length) S z := fun z => by
  rcases h with h | h
  ·rw [if_pos h]; exact leaf_1 h s l hl S hS.2 z
  ·rw [if_neg (by omega), if_pos h]; exact leaf_2 h s l hl S hS.2 z
 exact ⟨fun z hz => by rw [key, leafS_congr n s l _ hS.1], fun z hz => by rw [key] at hz; exact leafS_lt n s l S z hz⟩
theorem aft_refA (s : Scale) (l : List Ach) (hl : l.length ≤ 10) : ∀ (d : Nat) (n : Need) (S S' : Nat → Bool), Rl (2 ^ l.length) S S' → Rl (2 ^ l.length) (aft s l d n S) (refA s l (2 ^ l.length) d n S')
 | 0, n, S, S', h => by
  by_cases hk : n.Kind = 1 ∨ n.Kind = 2
  ·have := leaf_Rl hk s l hl h
   simp only [aft, refA, if_pos hk]
   rcases hk with hk | hk
   ·rw [if_pos hk] at this ⊢; exact this
   ·rw [if_neg (by omega), if_pos hk] at this ⊢; exact this
  ·have k1 : ¬ n.Kind = 1 := fun h => hk (.inl h)
   have k2 : ¬ n.Kind = 2 := fun h => hk (.inr h)
   simp only [aft, refA, if_neg hk, if_neg k1, if_neg k2]
   exact RlL.some (α := Need) (fun _ => aft s l 0 n) (fun _ => aft s l 0 n) [] _ h fun x hx => by cases hx
 | d + 1, n, S, S', h => by
  by_cases hk : n.Kind = 1 ∨ n.Kind = 2
  ·have := leaf_Rl hk s l hl h
   simp only [aft, refA, if_pos hk]
   rcases hk with hk | hk
   ·rw [if_pos hk] at this ⊢; exact this
   ·rw [if_neg (by omega), if_pos hk] at this ⊢; exact this
  ·have k1 : ¬ n.Kind = 1 := fun h => hk (.inl h)
   have k2 : ¬ n.Kind = 2 := fun h => hk (.inr h)
   simp only [aft, refA, if_neg hk, if_neg k1, if_neg k2]
   exact RlL.some _ _ n.L _ h fun x _ S S' hS => aft_refA s l hl d x S S' hS
end Go.Sx
