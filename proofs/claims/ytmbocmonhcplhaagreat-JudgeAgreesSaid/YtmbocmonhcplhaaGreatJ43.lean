/- Part of the proof that the laws of the judge return true for every input: J50, J43. -/
import Derived.Test.YtmbocmonhcplhaaGreatJ39
import Derived.Test.YtmbocmonhcplhaaGreatJ13
import Derived.Test.YtmbocmonhcplhaaGreatS4
set_option linter.all false
namespace Go.Sx
def zJg (n : Need) (s : Scale) (l : List Ach) (M : Nat) (S : Nat → Bool) : Nat → Bool := fun z =>
 (List.range M).any fun part => (decide (1 ≤ part) && ((part &&& zTh n s l 0 0 == part) && zJc n l part)) && (List.range M).any fun set => (S set && (set &&& part == 0)) && ((set ||| part) == z)
def zTs (s : Scale) (l : List Ach) (M : Nat) : Nat → Need → (Nat → Bool) → Nat → Bool
 | 0, n, S => if n.Kind = 1 ∨ n.Kind = 2 then zJg n s l M S else zJe [] (if n.Kind = 3 then 0 else n.N) S
 | d + 1, n, S => if n.Kind = 1 ∨ n.Kind = 2 then zJg n s l M S else zJe (n.L.map (zTs s l M d)) (if n.Kind = 3 then (n.L.length : Int) else n.N) S
theorem zOs (n : Need) (s : Scale) : ∀ (l : List Ach) (k set j : Nat), (zTh n s l k set).testBit j = (set.testBit j || (decide (k ≤ j) && decide (j - k < l.length) && zIz n s (l.getD (j - k) default)))
 | [], k, set, j => by simp [zTh]
 | a :: r, k, set, j => by
  rw [zTh, zOs n s r (k + 1)];by_cases hjk : j = k
  ·subst hjk
   have h1 : decide (j + 1 ≤ j) = false := decide_eq_false (by omega);rw [h1];simp only [Bool.false_and, Bool.or_false, Nat.sub_self, List.length_cons, List.getD_cons_zero, Nat.le_refl, decide_true, Bool.true_and, Nat.zero_lt_succ];cases zIz n s a
   ·simp
   ·simp [Nat.testBit_or, Nat.testBit_two_pow]
  ·have h1 : (if zIz n s a then set ||| 2 ^ k else set).testBit j = set.testBit j := by
    split
    ·rw [Nat.testBit_or, Nat.testBit_two_pow]
     have : decide (k = j) = false := decide_eq_false fun h => hjk h.symm;rw [this, Bool.or_false]
    ·rfl
   rw [h1];by_cases hlt : k ≤ j
   ·have e : j - k = (j - (k + 1)) + 1 := by omega
    rw [e, List.getD_cons_succ];have h2 : decide (k + 1 ≤ j) = true := decide_eq_true (by omega);have h3 : decide (k ≤ j) = true := decide_eq_true hlt;have h4 : decide (j - (k + 1) + 1 < (a :: r).length) = decide (j - (k + 1) < r.length) := decide_eq_decide.2 (by simp);rw [h2, h3, h4]
   ·have h2 : decide (k + 1 ≤ j) = false := decide_eq_false (by omega)
    have h3 : decide (k ≤ j) = false := decide_eq_false hlt;rw [h2, h3]; simp
def Fits (n : Need) (s : Scale) (l : List Ach) (j : Nat) : Prop := j < l.length ∧ zIz n s (l.getD j default) = true
theorem zOr (n : Need) (s : Scale) (l : List Ach) (j : Nat) : (zTh n s l 0 0).testBit j = true ↔ Fits n s l j := by
 rw [zOs]
 simp [Fits]
theorem zE4 (n : Need) (s : Scale) : ∀ (l : List Ach) (k : Nat) (x : Int), x ∈ zA6 n s l k ↔ ∃ j : Nat, x = ((k + j : Nat) : Int) ∧ Fits n s l j
 | [], k, x => by simp [zA6, Fits]
 | a :: r, k, x => by
  rw [zA6, List.mem_append, zE4 n s r (k + 1)]
  constructor
  ·rintro (h | ⟨j, h1, h2, h3⟩)
   ·split at h
    ·rename_i hf
     simp only [List.mem_singleton] at h;exact ⟨0, by simpa using h, by simp, by simpa using hf⟩
    ·cases h
   ·exact ⟨j + 1, by rw [h1]; congr 1; omega, by simpa using h2, by simpa using h3⟩
  ·rintro ⟨j, h1, h2, h3⟩
   cases j with
   | zero =>
    left
    simp only [List.getD_cons_zero] at h3;rw [if_pos h3, h1]; simp
   | succ j =>
    right
    exact ⟨j, by rw [h1]; congr 1; omega, by simpa using h2, by simpa using h3⟩
theorem zFi (n : Need) (s : Scale) : ∀ (l : List Ach) (k : Nat), (zA6 n s l k).Nodup
 | [], k => by simp [zA6]
 | a :: r, k => by
  rw [zA6];split
  ·simp only [List.singleton_append, List.nodup_cons]
   refine ⟨fun h => ?_, zFi n s r (k + 1)⟩;obtain ⟨j, hj, _⟩ := (zE4 n s r (k + 1) _).1 h;omega
  ·simpa using zFi n s r (k + 1)
theorem zT7 (p F : Nat) : (p &&& F == p) = true ↔ ∀ j, p.testBit j = true → F.testBit j = true := by
 rw [beq_iff_eq]
 constructor
 ·intro h j hj
  rw [← h, Nat.testBit_and, zz3] at hj;exact hj.2
 ·intro h
  apply Nat.eq_of_testBit_eq;intro j;rw [Nat.testBit_and];cases hp : p.testBit j
  ·rfl
  ·rw [h j hp]; rfl
theorem zO6 (a b : Nat) : (a &&& b == 0) = true ↔ ∀ j, b.testBit j = true → a.testBit j = false := by
 rw [beq_iff_eq]
 constructor
 ·intro h j hj
  have : (a &&& b).testBit j = false := by rw [h]; exact Nat.zero_testBit j
  rw [Nat.testBit_and, hj, Bool.and_true] at this;exact this
 ·intro h
  apply Nat.eq_of_testBit_eq;intro j;rw [Nat.testBit_and, Nat.zero_testBit];cases hb : b.testBit j
  ·rw [Bool.and_false]
  ·rw [h j hb]; rfl
theorem zFp {a m j : Nat} (h : a < 2 ^ m) (hj : a.testBit j = true) : j < m := by
 rcases Nat.lt_or_ge j m with h1 | h1
 ·exact h1
 ·have : a.testBit j = false := Nat.testBit_lt_two_pow (Nat.lt_of_lt_of_le h (Nat.pow_le_pow_right (by omega) h1))
  rw [this] at hj; cases hj
theorem zLu {a m : Nat} (h : ∀ j, a.testBit j = true → j < m) : a < 2 ^ m := by
 apply Nat.lt_pow_two_of_testBit
 intro j hj
 cases hb : a.testBit j
 ·rfl
 ·have := h j hb; omega
def mnF (p : Nat) : List Ach → Nat → Nat
 | [], _ => 0
 | _ :: r, k => (if p.testBit k then 1 else 0) + mnF p r (k + 1)
def crF (p : Nat) : List Ach → Nat → Int → Int
 | [], _, c => c
 | a :: r, k, c => crF p r (k + 1) (if p.testBit k then wr (c + a.Credits) else c)
theorem zIb (p : Nat) : ∀ (l : List Ach) (k m : Nat) (c : Int), zTb p l k m c = (m + mnF p l k, crF p l k c)
 | [], k, m, c => by simp [zTb, mnF, crF]
 | a :: r, k, m, c => by
  rw [zTb, mnF, crF];cases h : p.testBit k
  ·rw [if_neg (by simp), zIb p r]
   simp
  ·rw [if_pos rfl, zIb p r]
   simp [Nat.add_assoc]
theorem zPy (p : Nat) : ∀ (l : List Ach) (k : Nat), 0 < mnF p l k ↔ ∃ j, j < l.length ∧ p.testBit (k + j) = true
 | [], k => by simp [mnF]
 | a :: r, k => by
  rw [mnF];have ih := zPy p r (k + 1)
  constructor
  ·intro h
   by_cases hb : p.testBit k = true
   ·exact ⟨0, by simp, hb⟩
   ·rw [if_neg hb, Nat.zero_add] at h
    obtain ⟨j, h1, h2⟩ := ih.1 h;exact ⟨j + 1, by simpa using h1, by rw [show k + (j + 1) = k + 1 + j by omega]; exact h2⟩
  ·rintro ⟨j, h1, h2⟩
   cases j with
   | zero => rw [Nat.add_zero] at h2; rw [if_pos h2]; omega
   | succ j =>
    have := ih.2 ⟨j, by simpa using h1, by rw [show k + 1 + j = k + (j + 1) by omega]; exact h2⟩;omega
theorem zVt (p : Nat) : ∀ (l : List Ach) (k : Nat), mnF p l k = 1 ↔ ∃ j, j < l.length ∧ p.testBit (k + j) = true ∧ ∀ i, i < l.length → p.testBit (k + i) = true → i = j
 | [], k => by simp [mnF]
 | a :: r, k => by
  rw [mnF];have ih := zVt p r (k + 1);have ih0 := zPy p r (k + 1);by_cases hb : p.testBit k = true
  ·rw [if_pos hb]
   constructor
   ·intro h
    have h0 : ¬ 0 < mnF p r (k + 1) := by omega
    refine ⟨0, by simp, hb, fun i hi hbi => ?_⟩;cases i with
    | zero => rfl
    | succ i => exact absurd (ih0.2 ⟨i, by simpa using hi, by rw [show k + 1 + i = k + (i + 1) by omega]; exact hbi⟩) h0
   ·rintro ⟨j, h1, h2, h3⟩
    have hj := h3 0 (by simp) hb;subst hj
    have h0 : ¬ 0 < mnF p r (k + 1) := fun hc => by
     obtain ⟨i, q1, q2⟩ := ih0.1 hc;have := h3 (i + 1) (by simpa using q1) (by rw [show k + (i + 1) = k + 1 + i by omega]; exact q2);omega
    omega
  ·rw [if_neg hb, Nat.zero_add, ih]
   constructor
   ·rintro ⟨j, h1, h2, h3⟩
    refine ⟨j + 1, by simpa using h1, by rw [show k + (j + 1) = k + 1 + j by omega]; exact h2, fun i hi hbi => ?_⟩;cases i with
    | zero => exact absurd hbi hb
    | succ i => rw [h3 i (by simpa using hi) (by rw [show k + 1 + i = k + (i + 1) by omega]; exact hbi)]
   ·rintro ⟨j, h1, h2, h3⟩
    cases j with
    | zero => exact absurd h2 hb
    | succ j =>
     refine ⟨j, by simpa using h1, by rw [show k + 1 + j = k + (j + 1) by omega]; exact h2, fun i hi hbi => ?_⟩;have := h3 (i + 1) (by simpa using hi) (by rw [show k + (i + 1) = k + 1 + i by omega]; exact hbi);omega
theorem zD8 (k j : Nat) : (2 ^ k).testBit j = true ↔ j = k := by
 rw [Nat.testBit_two_pow, decide_eq_true_eq]; exact eq_comm
theorem zG7 (p : Nat) : p ≠ 0 ↔ ∃ j, p.testBit j = true := by
 constructor
 ·intro h; exact Nat.exists_testBit_of_ne_zero h
 ·rintro ⟨j, hj⟩ rfl
  rw [Nat.zero_testBit] at hj; cases hj
theorem zW5 {n : Need} (h : n.Kind = 1) (l : List Ach) (p : Nat) (hp : p < 2 ^ l.length) : zJc n l p = true ↔ ∃ j, j < l.length ∧ p = 2 ^ j := by
 have hk : (n.Kind == 1) = true := by rw [h]; rfl
 simp only [zJc, zIb, hk, if_true, Nat.zero_add, beq_iff_eq]
 rw [zVt]
 constructor
 ·rintro ⟨j, h1, h2, h3⟩
  refine ⟨j, h1, Nat.eq_of_testBit_eq fun i => ?_⟩;rw [Nat.zero_add] at h2;rw [Bool.eq_iff_iff, zD8]
  constructor
  ·intro hi; exact h3 i (zFp hp hi) (by rw [Nat.zero_add]; exact hi)
  ·rintro rfl; exact h2
 ·rintro ⟨j, h1, rfl⟩
  refine ⟨j, h1, by rw [Nat.zero_add, zD8], fun i _ hi => ?_⟩;rw [Nat.zero_add, zD8] at hi;exact hi
theorem zW4 {n : Need} (h : n.Kind = 2) (l : List Ach) (p : Nat) (hp : p < 2 ^ l.length) : zJc n l p = true ↔ p ≠ 0 ∧ n.N ≤ crF p l 0 0 := by
 have hk : (n.Kind == 1) = false := by rw [h]; rfl
 simp only [zJc, zIb, hk, Nat.zero_add, Bool.false_eq_true, if_false, zz3, decide_eq_true_eq]
 rw [zPy, zG7]
 constructor
 ·rintro ⟨⟨j, _, h2⟩, h3⟩
  exact ⟨⟨j, by rw [Nat.zero_add] at h2; exact h2⟩, h3⟩
 ·rintro ⟨⟨j, h2⟩, h3⟩
  exact ⟨⟨j, zFp hp h2, by rw [Nat.zero_add]; exact h2⟩, h3⟩
theorem zE2 (n : Need) (s : Scale) (l : List Ach) (M : Nat) (S : Nat → Bool) (z : Nat) : zJg n s l M S z = true ↔ ∃ p, p < M ∧ 1 ≤ p ∧ (∀ j, p.testBit j = true → Fits n s l j) ∧ zJc n l p = true ∧ ∃ y, y < M ∧ S y = true ∧ (∀ j, p.testBit j = true → y.testBit j = false) ∧ y ||| p = z := by
 simp only [zJg, List.any_eq_true, List.mem_range, zz3, decide_eq_true_eq]
 constructor
 ·rintro ⟨p, h1, ⟨h2, h3, h4⟩, y, h5, ⟨h6, h7⟩, h8⟩
  exact ⟨p, h1, h2, fun j hj => (zOr n s l j).1 ((zT7 _ _).1 h3 j hj), h4, y, h5, h6, (zO6 _ _).1 h7, by simpa using h8⟩
 ·rintro ⟨p, h1, h2, h3, h4, y, h5, h6, h7, h8⟩
  exact ⟨p, h1, ⟨h2, (zT7 _ _).2 fun j hj => (zOr n s l j).2 (h3 j hj), h4⟩, y, h5, ⟨h6, (zO6 _ _).2 h7⟩, by simpa using h8⟩
theorem zNw (S : Nat → Bool) (C : Nat → Nat → Bool) (z : Nat) : stepS S C z = true ↔ ∃ y, y < 1024 ∧ S y = true ∧ C y z = true := by
 simp only [stepS, List.any_eq_true, List.mem_range, zz3]
theorem yEl {n : Need} (h : n.Kind = 1) (s : Scale) (l : List Ach) (hl : l.length ≤ 10) (S : Nat → Bool) (hS : ∀ z, S z = true → z < 2 ^ l.length) (z : Nat) : stepS S (zMl (zA6 n s l 0)) z = zJg n s l (2 ^ l.length) S z := by
 have hM : 2 ^ l.length ≤ 1024 := Nat.pow_le_pow_right (n := 2) (by omega) hl
 rw [Bool.eq_iff_iff, zE2, zNw]
 constructor
 ·rintro ⟨y, _, h2, h3⟩
  simp only [zMl, List.any_eq_true, zz3, Bool.not_eq_true', beq_iff_eq] at h3;obtain ⟨k, hk, h4, h5⟩ := h3;obtain ⟨j, rfl, hj⟩ := (zE4 n s l 0 k).1 hk;rw [Nat.zero_add, Int.toNat_natCast] at h4 h5;have hjl := hj.1;have hp : 2 ^ j < 2 ^ l.length := Nat.pow_lt_pow_right (by omega) hjl;refine ⟨2 ^ j, hp, Nat.one_le_two_pow, fun i hi => ?_, (zW5 h l _ hp).2 ⟨j, hjl, rfl⟩, y, hS y h2, h2, fun i hi => ?_, h5⟩
  ·rw [(zD8 j i).1 hi]; exact hj
  ·rw [(zD8 j i).1 hi]; exact h4
 ·rintro ⟨p, h1, _, h3, h4, y, h5, h6, h7, h8⟩
  obtain ⟨j, hj, rfl⟩ := (zW5 h l p h1).1 h4;refine ⟨y, by omega, h6, ?_⟩;simp only [zMl, List.any_eq_true, zz3, Bool.not_eq_true', beq_iff_eq];exact ⟨((0 + j : Nat) : Int), (zE4 n s l 0 _).2 ⟨j, rfl, h3 j ((zD8 j j).2 rfl)⟩, by rw [Nat.zero_add, Int.toNat_natCast]; exact h7 j ((zD8 j j).2 rfl), by rw [Nat.zero_add, Int.toNat_natCast]; exact h8⟩
def crS (cr : List Int) (p : Nat) : List Int → Int → Int
 | [], c => c
 | i :: r, c => crS cr p r (if p.testBit i.toNat then IntKind.i64.wrap (c + cr.getD i.toNat default) else c)
theorem zKr (cr : List Int) {p q : Nat} : ∀ (fs : List Int) (c : Int), (∀ x ∈ fs, p.testBit x.toNat = q.testBit x.toNat) → crS cr p fs c = crS cr q fs c
 | [], _, _ => rfl
 | i :: r, c, h => by
  rw [crS, crS, h i (List.mem_cons_self ..), zKr cr r _ fun x hx => h x (List.mem_cons_of_mem _ hx)]
theorem zNb (cr : List Int) (N : Int) (y : Nat) : ∀ (fs : List Int) (next : Nat) (c : Int) (z : Nat), (∀ x ∈ fs, 0 ≤ x) → fs.Nodup →
  (chs cr N y fs next c z = true ↔ ∃ p : Nat, (∀ j : Nat, p.testBit j = true → (j : Int) ∈ fs) ∧ (∀ j, p.testBit j = true → y.testBit j = false) ∧ next ||| p = z ∧ next ||| p ≠ y ∧ N ≤ crS cr p fs c)
 | [], next, c, z, _, _ => by
  simp only [chs, zz3, bne_iff_ne, ne_eq, decide_eq_true_eq, beq_iff_eq]
  constructor
  ·rintro ⟨⟨h1, h2⟩, h3⟩
   exact ⟨0, fun j hj => (by rw [Nat.zero_testBit] at hj; cases hj), fun j hj => (by rw [Nat.zero_testBit] at hj; cases hj), by rw [Nat.or_zero]; exact h3.symm, by rw [Nat.or_zero]; exact h1, h2⟩
  ·rintro ⟨p, h1, _, h3, h4, h5⟩
   have hp : p = 0 := by
    apply Classical.byContradiction;intro hc;obtain ⟨j, hj⟩ := (zG7 p).1 hc;exact absurd (h1 j hj) (by simp)
   subst hp;rw [Nat.or_zero] at h3 h4;exact ⟨⟨h4, h5⟩, h3.symm⟩
 | i :: r, next, c, z, h0, hn => by
  have hn2 := List.nodup_cons.1 hn;have h0r : ∀ x ∈ r, 0 ≤ x := fun x hx => h0 x (List.mem_cons_of_mem _ hx);obtain ⟨k, rfl⟩ : ∃ k : Nat, i = (k : Int) := ⟨i.toNat, by have := h0 i (List.mem_cons_self ..); omega⟩
  have hk : ∀ x ∈ r, x.toNat ≠ k := fun x hx hc => hn2.1 (by
   have := h0r x hx;have : x = (k : Int) := by omega
   rw [← this]; exact hx)
  rw [chs, Bool.or_eq_true, zz3, Bool.not_eq_true', Int.toNat_natCast, zNb cr N y r next c z h0r hn2.2, zNb cr N y r (next ||| 2 ^ k) _ z h0r hn2.2]
  constructor
  ·rintro (⟨p, h1, h2, h3, h4, h5⟩ | ⟨hb, p, h1, h2, h3, h4, h5⟩)
   ·have hpk : p.testBit k = false := by
     cases hh : p.testBit k
     ·rfl
     ·exact absurd (h1 k hh) hn2.1
    refine ⟨p, fun j hj => List.mem_cons_of_mem _ (h1 j hj), h2, h3, h4, ?_⟩;rw [crS, Int.toNat_natCast, hpk, if_neg (by simp)]; exact h5
   ·refine ⟨2 ^ k ||| p, fun j hj => ?_, fun j hj => ?_, ?_, ?_, ?_⟩
    ·rw [Nat.testBit_or, Bool.or_eq_true, zD8] at hj
     rcases hj with rfl | hj
     ·exact List.mem_cons_self ..
     ·exact List.mem_cons_of_mem _ (h1 j hj)
    ·rw [Nat.testBit_or, Bool.or_eq_true, zD8] at hj
     rcases hj with rfl | hj
     ·exact hb
     ·exact h2 j hj
    ·rw [← Nat.or_assoc]; exact h3
    ·rw [← Nat.or_assoc]; exact h4
    ·have e : (2 ^ k ||| p).testBit k = true := by rw [Nat.testBit_or, (zD8 k k).2 rfl, Bool.true_or]
     rw [crS, Int.toNat_natCast, e, if_pos rfl, zKr cr (q := p) r _ fun x hx => ?_]
     ·exact h5
     ·rw [Nat.testBit_or]
      have : (2 ^ k).testBit x.toNat = false := by
       cases hh : (2 ^ k).testBit x.toNat
       ·rfl
       ·exact absurd ((zD8 _ _).1 hh) (hk x hx)
      rw [this, Bool.false_or]
  ·rintro ⟨p, h1, h2, h3, h4, h5⟩
   cases hpk : p.testBit k
   ·left
    rw [crS, Int.toNat_natCast, hpk, if_neg (by simp)] at h5;refine ⟨p, fun j hj => ?_, h2, h3, h4, h5⟩
    rcases List.mem_cons.1 (h1 j hj) with he | he
    ·have : j = k := by omega
     subst this; rw [hpk] at hj; cases hj
    ·exact he
   ·right
    rw [crS, Int.toNat_natCast, hpk, if_pos rfl] at h5
    have hx : ∀ j, (p ^^^ 2 ^ k).testBit j = (p.testBit j && !decide (k = j)) := fun j => by
     rw [Nat.testBit_xor, Nat.testBit_two_pow];by_cases hkj : k = j
     ·subst hkj; simp [hpk]
     ·simp [hkj]
    have hor : next ||| 2 ^ k ||| (p ^^^ 2 ^ k) = next ||| p := Nat.eq_of_testBit_eq fun j => by
     rw [Nat.testBit_or, Nat.testBit_or, Nat.testBit_or, hx, Nat.testBit_two_pow];by_cases hkj : k = j
     ·subst hkj; simp [hpk]
     ·simp [hkj]
    refine ⟨h2 k hpk, p ^^^ 2 ^ k, fun j hj => ?_, fun j hj => ?_, by rw [hor]; exact h3, by rw [hor]; exact h4, ?_⟩
    ·rw [hx, zz3, Bool.not_eq_true', decide_eq_false_iff_not] at hj
     rcases List.mem_cons.1 (h1 j hj.1) with he | he
     ·exact absurd (show k = j by omega) hj.2
     ·exact he
    ·rw [hx, zz3] at hj
     exact h2 j hj.1
    ·rw [zKr cr (q := p) r _ fun x hx' => ?_]
     ·exact h5
     ·rw [hx]
      have : decide (k = x.toNat) = false := decide_eq_false fun hc => hk x hx' hc.symm;rw [this]; simp
theorem zWq (n : Need) (s : Scale) (l : List Ach) (p : Nat) : ∀ (r : List Ach) (k : Nat) (c : Int), (∀ j, j < r.length → r.getD j default = l.getD (k + j) default) → k + r.length ≤ l.length → (∀ j, p.testBit j = true → Fits n s l j) → crS (zC5 l) p (zA6 n s r k) c = crF p r k c
 | [], k, c, _, _, _ => rfl
 | a :: r, k, c, h1, h2, h3 => by
  have ha : a = l.getD k default := by simpa using h1 0 (by simp)
  have hcr : (zC5 l).getD k default = a.Credits := by
   simp only [List.length_cons] at h2;rw [ha, zC5, zz2, List.getElem?_map, zz2, List.getElem?_eq_getElem (by omega)];rfl
  have ih : ∀ c, crS (zC5 l) p (zA6 n s r (k + 1)) c = crF p r (k + 1) c := fun c => zWq n s l p r (k + 1) c (fun j hj => by
   have := h1 (j + 1) (by simpa using hj);rw [List.getD_cons_succ] at this;rw [this, show k + (j + 1) = k + 1 + j by omega]) (by simp only [List.length_cons] at h2; omega) h3
  rw [zA6, crF];split
  ·rw [List.singleton_append, crS, Int.toNat_natCast, hcr, ih]
  ·rename_i hf
   rw [List.nil_append, ih]
   have : p.testBit k = false := by
    cases hh : p.testBit k
    ·rfl
    ·have := (h3 k hh).2
     rw [← ha] at this;exact absurd this hf
   rw [this, if_neg (by simp)]
theorem yEk {n : Need} (h : n.Kind = 2) (s : Scale) (l : List Ach) (hl : l.length ≤ 10) (S : Nat → Bool) (hS : ∀ z, S z = true → z < 2 ^ l.length) (z : Nat) : stepS S (fun y z => chs (zC5 l) n.N y (zA6 n s l 0) y 0 z) z = zJg n s l (2 ^ l.length) S z := by
 have hM : 2 ^ l.length ≤ 1024 := Nat.pow_le_pow_right (n := 2) (by omega) hl
 have hpos : ∀ x ∈ zA6 n s l 0, 0 ≤ x := fun x hx => by
  obtain ⟨j, rfl, _⟩ := (zE4 n s l 0 x).1 hx;omega
 have hmem : ∀ j : Nat, (j : Int) ∈ zA6 n s l 0 ↔ Fits n s l j := fun j => by
  rw [zE4]
  constructor
  ·rintro ⟨i, hi, hf⟩
   have : j = i := by omega
   rw [this]; exact hf
  ·intro hf; exact ⟨j, by rw [Nat.zero_add], hf⟩
 have hcr : ∀ p, (∀ j, p.testBit j = true → Fits n s l j) → crS (zC5 l) p (zA6 n s l 0) 0 = crF p l 0 0 := fun p hp => zWq n s l p l 0 0 (fun j _ => by rw [Nat.zero_add]) (by omega) hp
 rw [Bool.eq_iff_iff, zE2, zNw]
 constructor
 ·rintro ⟨y, _, h2, h3⟩
  obtain ⟨p, q1, q2, q3, q4, q5⟩ := (zNb _ _ _ _ _ _ _ hpos (zFi n s l 0)).1 h3;have hfp : ∀ j, p.testBit j = true → Fits n s l j := fun j hj => (hmem j).1 (q1 j hj);have hp : p < 2 ^ l.length := zLu fun j hj => (hfp j hj).1;have hp0 : p ≠ 0 := fun hc => q4 (by rw [hc, Nat.or_zero]);rw [hcr p hfp] at q5;exact ⟨p, hp, by omega, hfp, (zW4 h l p hp).2 ⟨hp0, q5⟩, y, hS y h2, h2, q2, q3⟩
 ·rintro ⟨p, h1, _, h3, h4, y, h5, h6, h7, h8⟩
  obtain ⟨q1, q2⟩ := (zW4 h l p h1).1 h4;refine ⟨y, by omega, h6, (zNb _ _ _ _ _ _ _ hpos (zFi n s l 0)).2 ⟨p, fun j hj => (hmem j).2 (h3 j hj), h7, h8, fun hc => ?_, by rw [hcr p h3]; exact q2⟩⟩;obtain ⟨j, hj⟩ := (zG7 p).1 q1;have : (y ||| p).testBit j = true := by rw [Nat.testBit_or, hj, Bool.or_true]
  rw [hc, h7 j hj] at this;cases this
theorem zP4 (n : Need) (s : Scale) (l : List Ach) (M : Nat) {S S' : Nat → Bool} (h : ∀ z, z < M → S z = S' z) (z : Nat) : zJg n s l M S z = zJg n s l M S' z := by
 rw [Bool.eq_iff_iff, zE2, zE2]
 constructor
 ·rintro ⟨p, h1, h2, h3, h4, y, h5, h6, h7⟩
  exact ⟨p, h1, h2, h3, h4, y, h5, by rw [← h y h5]; exact h6, h7⟩
 ·rintro ⟨p, h1, h2, h3, h4, y, h5, h6, h7⟩
  exact ⟨p, h1, h2, h3, h4, y, h5, by rw [h y h5]; exact h6, h7⟩
def Rl (M : Nat) (S S' : Nat → Bool) : Prop := (∀ z, z < M → S z = S' z) ∧ ∀ z, S z = true → z < M
theorem Rl.none (M : Nat) : Rl M noneS noneS := ⟨fun _ _ => rfl, fun _ h => by cases h⟩
theorem Rl.or {M : Nat} {A A' B B' : Nat → Bool} (h1 : Rl M A A') (h2 : Rl M B B') : Rl M (orS A B) (orS A' B') :=
 ⟨fun z hz => by simp only [orS, h1.1 z hz, h2.1 z hz], fun z hz => by
  simp only [orS, Bool.or_eq_true] at hz;exact hz.elim (h1.2 z) (h2.2 z)⟩
def RlL (M : Nat) (m m' : List (Nat → Bool)) : Prop := m.length = m'.length ∧ ∀ i, Rl M (m.getD i noneS) (m'.getD i noneS)
theorem zLh (A : (Nat → Bool) → Nat → Bool) (met : List (Nat → Bool)) (i : Nat) (hi : ¬ i < met.length + 1) : (stepM A met).getD i noneS = noneS := by
 rw [zz2, List.getElem?_eq_none (by rw [zD5]; omega)]; rfl
theorem RlL.step {M : Nat} {m m' : List (Nat → Bool)} {A A' : (Nat → Bool) → Nat → Bool} (h : RlL M m m') (hA : ∀ S S', Rl M S S' → Rl M (A S) (A' S')) : RlL M (stepM A m) (stepM A' m') := by
 refine ⟨by rw [zD5, zD5, h.1], fun i => ?_⟩
 by_cases hi : i < m.length + 1
 ·rw [zHr _ _ _ hi, zHr _ _ _ (by rw [← h.1]; exact hi)]
  split
  ·exact h.2 0
  ·exact (h.2 i).or (hA _ _ (h.2 (i - 1)))
 ·rw [zLh _ _ _ hi, zLh _ _ _ (by rw [← h.1]; exact hi)]
  exact Rl.none M
theorem RlL.fold {M : Nat} {α : Type} (f g : α → (Nat → Bool) → Nat → Bool) : ∀ (L : List α) (m m' : List (Nat → Bool)), RlL M m m' → (∀ x ∈ L, ∀ S S', Rl M S S' → Rl M (f x S) (g x S')) → RlL M (zI0 (L.map f) m) (zI0 (L.map g) m')
 | [], m, m', h, _ => h
 | x :: r, m, m', h, hx => by
  simp only [zI0, List.map_cons, List.foldl_cons];exact RlL.fold f g r _ _ (h.step (hx x (List.mem_cons_self ..))) fun y hy => hx y (List.mem_cons_of_mem _ hy)
theorem zNi (m : List (Nat → Bool)) (b z : Nat) : ((m.drop b).any fun x => x z) = true ↔ ∃ i, b ≤ i ∧ i < m.length ∧ m.getD i noneS z = true := by
 rw [List.any_eq_true]
 constructor
 ·rintro ⟨x, hx, hz⟩
  obtain ⟨i, hi⟩ := List.getElem?_of_mem hx;rw [List.getElem?_drop] at hi;have hl := (List.getElem?_eq_some_iff.1 hi).1;exact ⟨b + i, by omega, hl, by rw [zz2, hi]; exact hz⟩
 ·rintro ⟨i, h1, h2, h3⟩
  refine ⟨m.getD i noneS, ?_, h3⟩;rw [zz2, List.getElem?_eq_getElem h2];apply List.mem_of_getElem? (i := i - b);rw [List.getElem?_drop, show b + (i - b) = i by omega];exact List.getElem?_eq_getElem h2
theorem RlL.some {M : Nat} {α : Type} (f g : α → (Nat → Bool) → Nat → Bool) (L : List α) (least : Int) {S S' : Nat → Bool} (h : Rl M S S') (hx : ∀ x ∈ L, ∀ S S', Rl M S S' → Rl M (f x S) (g x S')) : Rl M (zJe (L.map f) least S) (zJe (L.map g) least S') := by
 have h0 : RlL M [S] [S'] := ⟨rfl, fun i => by
  cases i with
  | zero => exact h
  | succ i => exact Rl.none M⟩
 have hF := RlL.fold f g L _ _ h0 hx
 unfold zJe
 rw [← hF.1]
 generalize zI0 (L.map f) [S] = m at hF ⊢
 generalize zI0 (L.map g) [S'] = m' at hF ⊢
 generalize (if (m.length : Int) < least then (m.length : Int) else least).toNat = b
 refine ⟨fun z hz => ?_, fun z hz => ?_⟩
 ·rw [Bool.eq_iff_iff, zNi, zNi]
  constructor
  ·rintro ⟨i, h1, h2, h3⟩
   exact ⟨i, h1, by rw [← hF.1]; exact h2, by rw [← (hF.2 i).1 z hz]; exact h3⟩
  ·rintro ⟨i, h1, h2, h3⟩
   exact ⟨i, h1, by rw [hF.1]; exact h2, by rw [(hF.2 i).1 z hz]; exact h3⟩
 ·obtain ⟨i, _, _, h3⟩ := (zNi _ _ _).1 hz
  exact (hF.2 i).2 z h3
theorem zYl (n : Need) (s : Scale) (l : List Ach) (S : Nat → Bool) (z : Nat) (h : zJg n s l (2 ^ l.length) S z = true) : z < 2 ^ l.length := by
 obtain ⟨p, h1, _, _, _, y, h5, _, _, rfl⟩ := (zE2 _ _ _ _ _ _).1 h
 exact Nat.or_lt_two_pow h5 h1
theorem zV5 {n : Need} (h : n.Kind = 1 ∨ n.Kind = 2) (s : Scale) (l : List Ach) (hl : l.length ≤ 10) {S S' : Nat → Bool} (hS : Rl (2 ^ l.length) S S') :
  Rl (2 ^ l.length) (if n.Kind = 1 then stepS S (zMl (zA6 n s l 0)) else if n.Kind = 2 then stepS S (fun y z => chs (zC5 l) n.N y (zA6 n s l 0) y 0 z) else noneS) (zJg n s l (2 ^ l.length) S') := by
 have key : ∀ z, (if n.Kind = 1 then stepS S (zMl (zA6 n s l 0)) else if n.Kind = 2 then stepS S (fun y z => chs (zC5 l) n.N y (zA6 n s l 0) y 0 z) else noneS) z = zJg n s l (2 ^ l.length) S z := fun z => by
  rcases h with h | h
  ·rw [if_pos h]; exact yEl h s l hl S hS.2 z
  ·rw [if_neg (by omega), if_pos h]; exact yEk h s l hl S hS.2 z
 exact ⟨fun z hz => by rw [key, zP4 n s l _ hS.1], fun z hz => by rw [key] at hz; exact zYl n s l S z hz⟩
theorem zNj (s : Scale) (l : List Ach) (hl : l.length ≤ 10) : ∀ (d : Nat) (n : Need) (S S' : Nat → Bool), Rl (2 ^ l.length) S S' → Rl (2 ^ l.length) (aft s l d n S) (zTs s l (2 ^ l.length) d n S')
 | 0, n, S, S', h => by
  by_cases hk : n.Kind = 1 ∨ n.Kind = 2
  ·have := zV5 hk s l hl h
   simp only [aft, zTs, if_pos hk]
   rcases hk with hk | hk
   ·rw [if_pos hk] at this ⊢; exact this
   ·rw [if_neg (by omega), if_pos hk] at this ⊢; exact this
  ·have k1 : ¬ n.Kind = 1 := fun h => hk (.inl h)
   have k2 : ¬ n.Kind = 2 := fun h => hk (.inr h);simp only [aft, zTs, if_neg hk, if_neg k1, if_neg k2];exact RlL.some (α := Need) (fun _ => aft s l 0 n) (fun _ => aft s l 0 n) [] _ h fun x hx => by cases hx
 | d + 1, n, S, S', h => by
  by_cases hk : n.Kind = 1 ∨ n.Kind = 2
  ·have := zV5 hk s l hl h
   simp only [aft, zTs, if_pos hk]
   rcases hk with hk | hk
   ·rw [if_pos hk] at this ⊢; exact this
   ·rw [if_neg (by omega), if_pos hk] at this ⊢; exact this
  ·have k1 : ¬ n.Kind = 1 := fun h => hk (.inl h)
   have k2 : ¬ n.Kind = 2 := fun h => hk (.inr h);simp only [aft, zTs, if_neg hk, if_neg k1, if_neg k2];exact RlL.some _ _ n.L _ h fun x _ S S' hS => zNj s l hl d x S S' hS
end Go.Sx
namespace Go.Sx
open Go.Proofs Go.RowKit
attribute [local irreducible] Run zAi zAy OpT zAc SLe OLe
set_option maxHeartbeats 2000000
set_option maxRecDepth 8000
set_option maxHeartbeats 8000000
attribute [go_sem] zP3 slA clF
@[go_sem] def yAh (l : List Ach) : OB := .acc 65 8 l.length (fun i => zBp (l.getD i default))
def zA9 (p : Programme) (day : Int) (a : Ach) : Bool := decide (0 < p.Age) && decide (p.Age < wr (zNv day - zNv a.Day))
theorem K43 : FnOK Tryz.prog 43 (fun ds d => ∃ (p : Programme) (day : Int) (a : Ach), ds = [zBp a, .fp (zEy p), .fp [.int .i64 day]] ∧ d = .bool (zA9 p day a)) := by
 refine zAa Tryz.call43 Tryz.func43 rfl Tryz.ntmps43 ?_
 rintro ds d ⟨p, day, a, rfl, rfl⟩
 refine ⟨by simp, fun w0 => ?_⟩
 cases h : decide (0 < p.Age)
 ·repeat' (first | apply zC | apply zA | apply zP | apply zB | refine zF (by simp only [go_sem, h]; rfl) qR ?_ ?_ | refine zU (by simp only [go_sem, h]; rfl) qR ?_ ?_ | refine zQ qK qK ?_ | refine zBx 8 qR (by simp only [go_sem, h]; rfl) K44 (by simp only [go_sem, h]; first | done | rfl) (fun hg => ?_) (fun _ => ⟨_, rfl, rfl⟩) (by simp only [go_sem, h]; rfl) ?_ | refine zI qR ?_ | exact zz0 | exact rfl | refine zAc.bool ?_ | exact qP | fail)
  ·simp only [zA9, h]; rfl
 ·repeat' (first | apply zC | apply zA | apply zP | apply zB | refine zF (by simp only [go_sem, h]; rfl) qR ?_ ?_ | refine zU (by simp only [go_sem, h]; rfl) qR ?_ ?_ | refine zQ qK qK ?_ | refine zBx 8 qR (by simp only [go_sem, h]; rfl) K44 (by simp only [go_sem, h]; first | done | rfl) (fun hg => ?_) (fun _ => ⟨_, rfl, rfl⟩) (by simp only [go_sem, h]; rfl) ?_ | refine zI qR ?_ | exact zz0 | exact rfl | refine zAc.bool ?_ | exact qP | fail)
  ·simp only [zA9, h]; rfl
theorem zRy {α : Type} [Inhabited α] (p : α → Bool) : ∀ (l : List α) (k : Nat), (zEv p l k = -1 ∧ ∀ x ∈ l, p x = false) ∨ ∃ i : Nat, i < l.length ∧ zEv p l k = ((k + i : Nat) : Int) ∧ p (l.getD i default) = true ∧ ∀ j, j < i → p (l.getD j default) = false
 | [], k => .inl ⟨rfl, fun x hx => by cases hx⟩
 | a :: r, k => by
  cases h : p a
  ·rcases zRy p r (k + 1) with ⟨h1, h2⟩ | ⟨i, h1, h2, h3, h4⟩
   ·left
    refine ⟨by rw [zEv, h]; exact h1, fun x hx => ?_⟩
    rcases List.mem_cons.1 hx with rfl | hx
    ·exact h
    ·exact h2 x hx
   ·right
    refine ⟨i + 1, by simpa using h1, ?_, by simpa using h3, fun j hj => ?_⟩
    ·rw [zEv, h]
     show zEv p r (k + 1) = _;rw [h2]; congr 1; omega
    ·cases j with
     | zero => exact h
     | succ j => rw [List.getD_cons_succ]; exact h4 j (by omega)
  ·right
   exact ⟨0, by simp, by rw [zEv, h]; rfl, h, fun j hj => absurd hj (Nat.not_lt_zero j)⟩
theorem yBu (xs : List Ach) (k : Nat) (v : Ach) (hk : k < xs.length) : OLe (.acc 65 8 xs.length (setF k (zBp v) fun i => zBp (xs.getD i default))) (yAh (xs.set k v)) := OLe.accS (by simp) fun i hi => by
 simp only [setF]
 by_cases h : i = k
 ·subst h
  simp [zz2, hk]
 ·have h' : ¬ k = i := fun hc => h hc.symm
  simp [h, zz2, List.getElem?_set, h']
theorem K42 : FnM Tryz.prog 42 (fun ds os d os' => ∃ (l : List Ach) (f : Nat) (caps : List SD) (p : Ach → Bool), ((∀ a, FnV Tryz.prog f caps [zBp a] (.bool (p a))) ∧ (∀ k d0 L dm, zOn k d0 L dm caps = caps) ∧ ∀ k, zGy k caps = false) ∧ ds = [.acc 1000, .fn f caps] ∧ os = [yAh l] ∧ d = .acc 1000 ∧ os' = [(1000, yAh (l.filter fun a => !p a))]) := by
 refine zBq Tryz.call42 Tryz.func42 rfl Tryz.ntmps42 ?_
 rintro ds os d os' ⟨l, f, caps, p, ⟨hp, hcf, hcm⟩, rfl, rfl, rfl, rfl⟩
 refine ⟨by simp, fun F w0 => ?_⟩
 have hp' : ∀ i, i < l.length → FnV Tryz.prog f caps [zBp (l.getD i default)] (.bool (p (l.getD i default))) := fun i _ => hp _
 refine zX0 1000 rfl fun hl => ?_
 rcases zRy p l 0 with ⟨h1, h2⟩ | ⟨i, h1, h2, h3, h4⟩
 ·have hf : (l.filter fun a => !p a) = l := List.filter_eq_self.2 fun a ha => by rw [h2 a ha]; rfl
  rw [hf]
  repeat' (first | apply zC | apply zA | apply zB | refine zF (by simp only [go_sem, h1, hcf]; rfl) qR ?_ ?_ | refine zLg 1000 (by simp only [go_sem, h1, hcf]; rfl) K101 (by simp only [go_sem, h1, hcf]; first | done | rfl) ?_ ⟨l, f, caps, p, hp', rfl, rfl⟩ qR (by simp only [go_sem, h1, hcf]; rfl) ?_ | (refine zE (by simp only [go_sem, h1, hcf]; rfl) ?_ ?_ <;> intro hb <;> have hc := hb <;> (try simp only [bF] at hc) <;> (try (exfalso; simp at hc; done))) | refine yC qR (by simp only [go_sem, h1, hcf]; rfl) ?_ ?_ | exact zz0 | exact rfl | exact SLe.refl _ | (show zC2 _ _; simp only [go_sem, h1, hcf]; repeat' (first | exact trivial | exact zz0 | exact SLe.refl _ | exact OLe.refl _ | exact ⟨_, rfl, OLe.refl _⟩ | refine ⟨_, rfl, ?_⟩ | refine OLe.var ?_ | (show zAh _ _; refine ⟨?_, ?_⟩) | (show zAh [] []; exact zz0) | (refine SLe.int ?_; rw [w64]; omega) | refine SLe.int ?_ | refine SLe.bool ?_ | apply And.intro)) | fail)
  all_goals skip
 ·rw [Nat.zero_add] at h2
  have e1 : ((i : Int) == -1) = false := by rw [beq_eq_false_iff_ne]; omega
  have e2 : IntKind.i64.wrap ((i : Int) + 1) = ((i + 1 : Nat) : Int) := by rw [w64]; omega
  have hne : 0 < l.length := by omega
  have hf0 : (l.take (i + 1)).filter (fun a => !p a) = l.take i := by
   rw [List.take_add_one, List.filter_append, List.getElem?_eq_getElem h1]
   have q1 : (l.take i).filter (fun a => !p a) = l.take i := List.filter_eq_self.2 fun a ha => by
    obtain ⟨j, hj⟩ := List.getElem?_of_mem ha;rw [List.getElem?_take] at hj;split at hj
    ·rename_i hji
     have := h4 j hji;rw [zz2, hj] at this;rw [show p a = false from this]; rfl
    ·cases hj
   rw [zz2, List.getElem?_eq_getElem h1] at h3;rw [q1];simp only [Option.toList, List.filter_cons, List.filter_nil];rw [show p l[i] = true from h3]; simp
  repeat' (first | apply zC | apply zG | apply zD | apply zA | apply zB | refine zF (by simp only [go_sem, h2, e1, e2, hcf]; rfl) qR ?_ ?_ | refine zLg 1000 (by simp only [go_sem, h2, e1, e2, hcf]; rfl) K101 (by simp only [go_sem, h2, e1, e2, hcf]; first | done | rfl) ?_ ⟨l, f, caps, p, hp', rfl, rfl⟩ qR (by simp only [go_sem, h2, e1, e2, hcf]; rfl) ?_ | (refine zE (by simp only [go_sem, h2, e1, e2, hcf]; rfl) ?_ ?_ <;> intro hb <;> have hc := hb <;> (try simp only [bF] at hc) <;> (try (exfalso; simp at hc; done))) | exact zz0 | exact rfl | fail)
  refine zN [0, 1] (fun x : Nat × Nat × List Ach => [(6, .int .i64 x.1), (5, .int .i64 x.2.1)]) (fun x : Nat × Nat × List Ach => [(1000, yAh x.2.2)]) (fun x : Nat × Nat × List Ach => (x.2.1 < x.1 ∧ x.1 ≤ l.length ∧ x.2.2.length = l.length) ∧ x.2.2.take x.2.1 = (l.take x.1).filter (fun a => !p a) ∧ x.2.2.drop x.1 = l.drop x.1) (fun x : Nat × Nat × List Ach => l.length - x.1) (i + 1, i, l) (fun x => qS) ?_ qL qL ?_
  ·exact ⟨⟨by simp only; omega, by simp only; omega, rfl⟩, hf0.symm, rfl⟩
  rintro ⟨j, q, xs⟩ ⟨⟨g1, g2, g3⟩, g4, g5⟩;simp only at g1 g2 g3 g4 g5;clear hf0 h4 h3 h2 e1 e2 hp'
  repeat' (first | apply zC | apply zA | apply zB | refine zF qS qR ?_ ?_ | exact zz0 | exact rfl | fail)
  (refine zE qS ?_ ?_ <;> intro hb <;> have hc := hb <;> (try simp only [bF] at hc) <;> (try (exfalso; simp at hc; done)))
  ·have hj : j < xs.length := by assumption
   have hv := hp (xs.getD j default)
   have hxj : xs.getD j default = l.getD j default := by
    have := congrArg (fun z : List Ach => z.getD 0 default) g5;simpa [zz2, List.getElem?_drop] using this
   have hd1 : xs.drop (j + 1) = l.drop (j + 1) := by
    have := congrArg (fun z : List Ach => z.drop 1) g5;simpa [List.drop_drop, Nat.add_comm] using this
   have ht1 : (l.take (j + 1)).filter (fun a => !p a) = (l.take j).filter (fun a => !p a) ++ (if p (xs.getD j default) then [] else [xs.getD j default]) := by
    rw [hxj, List.take_add_one, List.filter_append, zz2, List.getElem?_eq_getElem (by omega)]
    congr 1
    simp only [Option.toList, Option.getD_some, List.filter_cons, List.filter_nil];cases p l[j] <;> simp
   repeat' (first | apply zC | apply zG | apply zD | apply zA | apply zB | refine zF (by simp only [go_sem, hcm]; rfl) qR ?_ ?_ | refine yD (hv) (by simp only [go_sem, hcm]) (by simp only [go_sem, hcm]) ?_ (by simp only [go_sem, hcm]; rfl) ?_ | exact zz0 | exact rfl | exact qP | fail)
   (refine zE qS ?_ ?_ <;> intro hb <;> have hc := hb <;> (try simp only [bF] at hc) <;> (try (exfalso; simp at hc; done)))
   ·have hb2 : p (xs.getD j default) = false := by simpa using hb
    have e3 : IntKind.i64.wrap ((q : Int) + 1) = ((q + 1 : Nat) : Int) := by rw [w64]; omega
    rw [hb2] at ht1
    repeat' (first | apply zC | apply zL | apply zA | apply zB | refine zF (by simp only [go_sem, e3, hcm]; rfl) qR ?_ ?_ | exact zz0 | exact rfl | exact qP | fail)
    refine zR (o' := yAh (xs.set q (xs.getD j default))) 1000 qR (yBu xs q _ (by omega)) ?_;refine zS (j + 1, q + 1, xs.set q (xs.getD j default)) ?_ ?_ ⟨rfl, qL, qL⟩
    ·refine ⟨⟨by simp only; omega, by simp only; omega, by simp [g3]⟩, ?_, ?_⟩
     ·simp only
      rw [ht1, ← g4];simp only [Bool.false_eq_true, if_false];rw [List.take_add_one, List.take_set_of_le (Nat.le_refl _), List.getElem?_set_self (by omega)];rfl
     ·simp only
      rw [List.drop_set_of_lt (by omega)]; exact hd1
    ·simp only; omega
   ·have hb2 : p (xs.getD j default) = true := by simpa using hb
    rw [hb2] at ht1
    repeat' (first | apply zG | apply zL | apply zA | apply zB | refine zF (by simp only [go_sem, hcm]; rfl) qR ?_ ?_ | exact zz0 | exact rfl | fail)
    refine zS (j + 1, q, xs) ?_ ?_ ⟨rfl, qL, qL⟩
    ·exact ⟨⟨by simp only; omega, by simp only; omega, g3⟩, by simp only; rw [ht1, g4]; simp, hd1⟩
    ·simp only; omega
  ·have hjl : j = l.length := by omega
   have hne2 : 0 < xs.length := by omega
   have htk : l.take j = l := List.take_of_length_le (by omega);rw [htk] at g4
   repeat' (first | apply zC | apply zA | apply zB | refine zF (by simp only [go_sem, hcm, hcf]; rfl) qR ?_ ?_ | refine yDu (by simp only [go_sem, hcm, hcf]; rfl) ?_ (by simp only [go_sem, hcm, hcf]; rfl) ?_ | refine yA0 (by simp only [go_sem, hcm, hcf]; rfl) (by simp only [go_sem, hcm, hcf]; rfl) qK qK (by simp only [go_sem, hcm, hcf]; rfl) ?_ | refine yAz (by simp only [go_sem, hcm, hcf]; rfl) (by simp only [go_sem, hcm, hcf]; rfl) (by simp only [go_sem, hcm, hcf]; rfl) (by first | kernel_rfl | (simp only [go_sem, hcm, hcf]; rfl)) qK ⟨by omega, by omega, by omega⟩ (by simp only [go_sem, hcm, hcf]; rfl) ?_ | refine zK qR ?_ | exact zz0 | exact rfl | exact qP | fail)
   refine zR (o' := yAh (l.filter fun a => !p a)) 1000 qR (OLe.accS (by rw [← g4, List.length_take]; omega) fun t ht => ?_) ?_
   ·simp only [clF]
    rw [if_pos ht, ← g4];have : (xs.take q).getD t default = xs.getD t default := by simp only [zz2, List.getElem?_take, ht, if_true]
    rw [this]; rfl
   refine yC qR qS ?_ ?_
   ·exact SLe.refl _
   ·(show zC2 _ _; simp only [go_sem]; repeat' (first | exact SLe.any1 | exact trivial | exact zz0 | exact SLe.refl _ | exact OLe.refl _ | exact ⟨_, rfl, OLe.refl _⟩ | refine ⟨_, rfl, ?_⟩ | refine OLe.var ?_ | (show zAh _ _; refine ⟨?_, ?_⟩) | (show zAh [] []; exact zz0) | (refine SLe.int ?_; rw [w64]; omega) | refine SLe.int ?_ | refine SLe.bool ?_ | apply And.intro))
end Go.Sx
