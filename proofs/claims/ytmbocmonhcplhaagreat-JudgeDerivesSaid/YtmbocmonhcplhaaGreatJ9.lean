/- Part of the proof that the laws of the judge return true for every input: J8a, J8, J9. -/
import Derived.Test.YtmbocmonhcplhaaGreatJ7
set_option linter.all false
namespace Go.Sx
theorem wr_id (x : Int) (h1 : 0 ≤ x) (h2 : x < 9223372036854775808) : IntKind.i64.wrap x = x := by rw [w64]; omega
theorem ofInt_nat (a : Nat) : BitVec.ofInt 64 (a : Int) = BitVec.ofNat 64 a := by simp
theorem band (a b : Nat) (ha : a < 9223372036854775808) (hb : b < 9223372036854775808) : andI .i64 (a : Int) (b : Int) = ((a &&& b : Nat) : Int) := by
 show IntKind.i64.wrap ((BitVec.ofInt 64 (a : Int) &&& BitVec.ofInt 64 (b : Int)).toNat : Int) = _
 rw [ofInt_nat, ofInt_nat]
 have e : (BitVec.ofNat 64 a &&& BitVec.ofNat 64 b).toNat = a &&& b := by
  rw [BitVec.toNat_and, BitVec.toNat_ofNat, BitVec.toNat_ofNat, Nat.mod_eq_of_lt (by omega), Nat.mod_eq_of_lt (by omega)]
 have hle : a &&& b ≤ a := Nat.and_le_left
 rw [e, wr_id] <;> omega
theorem bor (a b : Nat) (ha : a < 4611686018427387904) (hb : b < 4611686018427387904) : orI .i64 (a : Int) (b : Int) = ((a ||| b : Nat) : Int) := by
 show IntKind.i64.wrap ((BitVec.ofInt 64 (a : Int) ||| BitVec.ofInt 64 (b : Int)).toNat : Int) = _
 rw [ofInt_nat, ofInt_nat]
 have e : (BitVec.ofNat 64 a ||| BitVec.ofNat 64 b).toNat = a ||| b := by
  rw [BitVec.toNat_or, BitVec.toNat_ofNat, BitVec.toNat_ofNat, Nat.mod_eq_of_lt (by omega), Nat.mod_eq_of_lt (by omega)]
 have hle : a ||| b < 2 ^ 62 := Nat.or_lt_two_pow (by omega) (by omega)
 rw [e, wr_id] <;> omega
theorem bshr (a k : Nat) (hk : k < 64) : shrI .i64 (a : Int) (k : Int) = ((a >>> k : Nat) : Int) := by
 show (a : Int).fdiv (2 ^ (min (k : Int).toNat 64)) = _
 have : min (k : Int).toNat 64 = k := by simp; omega
 rw [this, Int.fdiv_eq_ediv_of_nonneg _ (by exact_mod_cast Nat.zero_le _), Nat.shiftRight_eq_div_pow]
 simp
theorem bshl (k : Nat) (hk : k < 62) : shlI .i64 1 (k : Int) = ((2 ^ k : Nat) : Int) := by
 show IntKind.i64.wrap (1 * 2 ^ (min (k : Int).toNat 64)) = _
 have : min (k : Int).toNat 64 = k := by simp; omega
 rw [this, Int.one_mul]
 have h : (2 : Nat) ^ k < 2 ^ 62 := Nat.pow_lt_pow_right (by omega) hk
 have e : ((2 : Int) ^ k) = ((2 ^ k : Nat) : Int) := by simp
 rw [e]
 generalize (2 : Nat) ^ k = z at h ⊢
 exact wr_id _ (Int.natCast_nonneg _) (by omega)
theorem bitT (a k : Nat) (ha : a < 9223372036854775808) (hk : k < 64) : andI .i64 (shrI .i64 (a : Int) (k : Int)) 1 = if a.testBit k then 1 else 0 := by
 rw [bshr a k hk]
 have h1 : a >>> k ≤ a := by rw [Nat.shiftRight_eq_div_pow]; exact Nat.div_le_self _ _
 have := band (a >>> k) 1 (by omega) (by omega)
 rw [show ((1 : Nat) : Int) = 1 from rfl] at this
 rw [this, Nat.and_one_is_mod, Nat.testBit_eq_decide_div_mod_eq, ← Nat.shiftRight_eq_div_pow]
 rcases Nat.mod_two_eq_zero_or_one (a >>> k) with h | h <;> simp [h]
end Go.Sx
namespace Go.Sx
open Go.Proofs Go.RowKit
attribute [local irreducible] Run RunL RunD SLe0 SLe OLe
set_option maxHeartbeats 2000000
set_option maxRecDepth 8000
def manyR (set : Nat) : List Ach → Nat → Nat → Int → Nat × Int
 | [], _, m, c => (m, c)
 | a :: r, k, m, c => if set.testBit k then manyR set r (k + 1) (m + 1) (wr (c + a.Credits)) else manyR set r (k + 1) m c
def aloneR (n : Need) (l : List Ach) (set : Nat) : Bool :=
 let x := manyR set l 0 0 0
 if n.Kind == 1 then x.1 == 1 else decide (0 < x.1) && decide (n.N ≤ x.2)
theorem K156 : FnOK Tryz.prog 156 (fun ds d => ∃ n l set, l.length ≤ 10 ∧ set < 1024 ∧ ds = [eNeed n, eList 8 eAch l, eInt ((set : Nat) : Int)] ∧ d = .bool (aloneR n l set)) := by
 refine fn_intro Tryz.call156 Tryz.func156 rfl Tryz.ntmps156 ?_
 rintro ds d ⟨n, l, set, hl, hset, rfl, rfl⟩
 refine ⟨by simp, fun w0 => ?_⟩
 have e : ∀ k : Nat, k < l.length → _ := fun k hk => bitT set k (by omega) (by omega)
 repeat' (first | apply zC | apply zD | apply zA | apply zB | refine zF qS qR ?_ ?_ | exact True.intro | exact rfl | fail)
 refine zN [1, 2, 3] (fun x : Nat × Nat × Int => [(9, .int .i64 x.1), (7, .int .i64 x.2.1), (8, .int .i64 x.2.2)]) (fun x : Nat × Nat × Int => []) (fun x : Nat × Nat × Int => x.1 ≤ l.length ∧ x.2.1 ≤ x.1 ∧ manyR set l 0 0 0 = manyR set (l.drop x.1) x.1 x.2.1 x.2.2) (fun x : Nat × Nat × Int => l.length - x.1) (0, 0, 0) (fun x => qS) ?_ qL qL ?_
 ·exact ⟨Nat.zero_le _, Nat.zero_le _, rfl⟩
 rintro ⟨k, m, c⟩ ⟨h1, h2, h3⟩
 simp only at h1 h2 h3
 repeat' (first | apply zC | apply zA | apply zB | refine zF qS qR ?_ ?_ | exact True.intro | exact rfl | fail)
 (refine zE qS ?_ ?_ <;> intro hb <;> have hc := hb <;> (try simp only [bF] at hc) <;> (try (exfalso; simp at hc; done)))
 ·replace e := e k ‹_›
  cases hbit : set.testBit k
  ·repeat' (first | apply zC | apply zG | apply zD | apply zL | apply zA | apply zB | refine zF (by simp only [go_sem, e, hbit]; rfl) qR ?_ ?_ | (refine zE (by simp only [go_sem, e, hbit]; rfl) ?_ ?_ <;> intro hb <;> have hc := hb <;> (try simp only [bF] at hc) <;> (try (exfalso; simp at hc; done))) | refine zS (k+1,m,c) ?_ ?_ ⟨rfl, qL, qL⟩ | exact True.intro | exact rfl | omega | exact qP | fail)
   refine ⟨by simp only; omega, by simp only; omega, ?_⟩
   rw [h3, drop_get _ _ ‹k < _›, manyR, if_neg (by rw [hbit]; simp)]
  ·repeat' (first | apply zC | apply zG | apply zD | apply zL | apply zA | apply zB | refine zF (by simp only [go_sem, e, hbit]; rfl) qR ?_ ?_ | (refine zE (by simp only [go_sem, e, hbit]; rfl) ?_ ?_ <;> intro hb <;> have hc := hb <;> (try simp only [bF] at hc) <;> (try (exfalso; simp at hc; done))) | refine zS (k+1,m+1,wr (c+(l.getD k default).Credits)) ?_ ?_ ⟨rfl, qL, qL⟩ | exact True.intro | exact rfl | omega | exact qP | fail)
   refine ⟨by simp only; omega, by simp only; omega, ?_⟩
   rw [h3, drop_get _ _ ‹k < _›, manyR, if_pos hbit]
 ·rw [List.drop_of_length_le (by omega), manyR] at h3
  repeat' (first | apply zC | apply zG | apply zA | apply zB | refine zF qS qR ?_ ?_ | (refine zE qS ?_ ?_ <;> intro hb <;> have hc := hb <;> (try simp only [bF] at hc) <;> (try (exfalso; simp at hc; done))) | refine zI qR ?_ | refine zK qR ?_ | exact True.intro | exact rfl | refine SLe0.bool ?_ | exact qP | fail)
  ·simp only [aloneR, h3, hb, if_true]
   rw [Bool.eq_iff_iff]; simp only [beq_iff_eq]; omega
  ·simp only [aloneR, h3, hb, Bool.false_eq_true, if_false]
   congr 1
   exact decide_eq_decide.2 (by omega)
def isFit (n : Need) (s : Scale) (a : Ach) : Bool := (n.Set.any fun c => sameC c a.Course) && reaches s a.Grade n.Min
def fitsN (n : Need) (s : Scale) : List Ach → Nat → Nat → Nat
 | [], _, set => set
 | a :: r, k, set => fitsN n s r (k + 1) (if isFit n s a then set ||| 2 ^ k else set)
theorem or_lt (set k : Nat) (h : set < 2 ^ k) : set ||| 2 ^ k < 2 ^ (k + 1) :=
 Nat.or_lt_two_pow (Nat.lt_trans h (Nat.pow_lt_pow_right (by omega) (by omega))) (Nat.pow_lt_pow_right (by omega) (by omega))
theorem K155 : FnOK Tryz.prog 155 (fun ds d => ∃ n s l, l.length ≤ 10 ∧ ds = [eNeed n, eScale s, eList 8 eAch l] ∧ d = eInt ((fitsN n s l 0 0 : Nat) : Int)) := by
 refine fn_intro Tryz.call155 Tryz.func155 rfl Tryz.ntmps155 ?_
 rintro ds d ⟨n, s, l, hl, rfl, rfl⟩
 refine ⟨by simp, fun w0 => ?_⟩
 refine yE 0 3 rfl (by rw [nCells_eq]; rfl) fun hn => ?_
 repeat' (first | apply zC | apply zD | apply zA | apply zB | refine zF qS qR ?_ ?_ | exact True.intro | exact rfl | fail)
 refine zN [2, 3, 4] (fun x : Nat × Nat => [(8, .int .i64 x.1), (7, .int .i64 (x.2 : Int))]) (fun x : Nat × Nat => []) (fun x : Nat × Nat => x.1 ≤ l.length ∧ x.2 < 2 ^ x.1 ∧ fitsN n s l 0 0 = fitsN n s (l.drop x.1) x.1 x.2) (fun x : Nat × Nat => l.length - x.1) (0, 0) (fun x => qS) ?_ qL qL ?_
 ·exact ⟨Nat.zero_le _, by decide, rfl⟩
 rintro ⟨k, set⟩ ⟨h1, h2, h3⟩
 simp only at h1 h2 h3
 repeat' (first | apply zC | apply zA | apply zB | refine zF qS qR ?_ ?_ | exact True.intro | exact rfl | fail)
 (refine zE qS ?_ ?_ <;> intro hb <;> have hc := hb <;> (try simp only [bF] at hc) <;> (try (exfalso; simp at hc; done)))
 ·have h10 : (2 : Nat) ^ k ≤ 2 ^ 10 := Nat.pow_le_pow_right (by omega) (by omega)
  have e1 := bshl k (by omega)
  have e2 := bor set (2 ^ k) (by omega) (by omega)
  repeat' (first | apply zC | apply zG | apply zD | apply zA | apply zB | refine zF qS qR ?_ ?_ | exact True.intro | exact rfl | fail)
  refine zN [2, 3, 4, 7, 8] (fun z : Nat × Bool => [(10, .int .i64 z.1), (9, .bool z.2)]) (fun z : Nat × Bool => []) (fun z : Nat × Bool => z.1 ≤ n.Set.length ∧ (n.Set.any fun c => sameC c (l.getD k default).Course) = (z.2 || (n.Set.drop z.1).any fun c => sameC c (l.getD k default).Course)) (fun z : Nat × Bool => n.Set.length - z.1) (0, false) (fun x => qS) ?_ qL qL ?_
  ·exact ⟨Nat.zero_le _, rfl⟩
  rintro ⟨i, f⟩ ⟨h4, h5⟩
  simp only at h4 h5
  repeat' (first | apply zC | apply zG | apply zD | apply zL | apply zA | apply zP | apply zB | refine zF (by simp only [go_sem, e1, e2]; rfl) qR ?_ ?_ | refine zU (by simp only [go_sem, e1, e2]; rfl) qR ?_ ?_ | refine zQ qK qK ?_ | refine zX K197 (by simp only [go_sem, e1, e2]; first | done | rfl) ?_ ⟨s, _, _, rfl, rfl⟩ (by simp only [go_sem, e1, e2]; rfl) ?_ | (refine zE (by simp only [go_sem, e1, e2]; rfl) ?_ ?_ <;> intro hb <;> have hc := hb <;> (try simp only [bF] at hc) <;> (try (exfalso; simp at hc; done))) | refine zK qR ?_ | refine zS (i+1,f || sameC (n.Set.getD i default) (l.getD k default).Course) ?_ ?_ ⟨rfl, qL, qL⟩ | exact True.intro | exact rfl | omega | exact qP | fail)
  ·refine ⟨by simp only; omega, ?_⟩
   rw [h5, drop_get _ _ ‹i < _›, List.any_cons, Bool.or_assoc]
  ·rw [List.drop_of_length_le (by omega), List.any_nil, Bool.or_false] at h5
   refine zS (k + 1, set ||| 2 ^ k) ?_ ?_ ⟨rfl, qL, qL⟩
   ·refine ⟨by simp only; omega, or_lt _ _ h2, ?_⟩
    rw [h3, drop_get _ _ ‹k < l.length›, fitsN, if_pos (by rw [isFit, h5]; exact hb)]
   ·simp only; omega
  ·rw [List.drop_of_length_le (by omega), List.any_nil, Bool.or_false] at h5
   refine zS (k + 1, set) ?_ ?_ ⟨rfl, qL, qL⟩
   ·refine ⟨by simp only; omega, Nat.lt_trans h2 (Nat.pow_lt_pow_right (by omega) (by omega)), ?_⟩
    rw [h3, drop_get _ _ ‹k < l.length›, fitsN, if_neg (by rw [isFit, h5, hb]; simp)]
   ·simp only; omega
 ·repeat' (first | apply zC | apply zA | apply zB | refine zF qS qR ?_ ?_ | refine zI qR ?_ | refine zK qR ?_ | exact True.intro | exact rfl | refine SLe0.int ?_ | fail)
  rw [h3, List.drop_of_length_le (by omega)]; rfl
end Go.Sx
namespace Go.Sx
open Go.Proofs Go.RowKit
attribute [local irreducible] Run RunL RunD SLe0 SLe OLe
set_option maxHeartbeats 2000000
set_option maxRecDepth 8000
def wholeGo (p : Programme) (set : Nat) : List Ach → Nat → List Ach → Int → Int → Option (List Ach × Int × Int)
 | [], _, t, c, o => some (t, c, o)
 | a :: r, k, t, c, o =>
  if set.testBit k then
   if t.any fun x => excl p x.Course a.Course then none
   else wholeGo p set r (k + 1) (t ++ [a]) (wr (c + a.Credits)) (if a.Course.School == p.School && a.Bundle == 0 then wr (o + a.Credits) else o)
  else wholeGo p set r (k + 1) t c o
def wholeR (p : Programme) (l : List Ach) (set : Nat) : Bool :=
 match wholeGo p set l 0 [] 0 0 with
 | none => false
 | some (t, c, o) => pw pair t && decide (p.Total ≤ c) && decide (p.Own ≤ o)
theorem join_snoc (t : List Ach) (a : Ach) (i : Nat) (hi : i < t.length + 1) : joinF t.length (fun i => eAch (t.getD i default)) (nthSD [eAch a]) i = eAch ((t ++ [a]).getD i default) := by
 simp only [joinF]
 split
 ·rename_i h
  simp [List.getD_eq_getElem?_getD, List.getElem?_append_left h]
 ·rename_i h
  have : i = t.length := by omega
  subst this
  simp [List.getD_eq_getElem?_getD, nthSD]
theorem K52 : FnOK Tryz.prog 52 (fun ds d => ∃ p l set, l.length ≤ 10 ∧ set < 1024 ∧ ds = [eProg p, eList 8 eAch l, eInt ((set : Nat) : Int)] ∧ d = .bool (wholeR p l set)) := by
 refine fn_intro Tryz.call52 Tryz.func52 rfl Tryz.ntmps52 ?_
 rintro ds d ⟨p, l, set, hl, hset, rfl, rfl⟩
 refine ⟨by simp, fun w0 => ?_⟩
 have e : ∀ k : Nat, k < l.length → _ := fun k hk => bitT set k (by omega) (by omega)
 repeat' (first | apply zC | apply zD | apply zA | apply zB | refine zF qS qR ?_ ?_ | exact True.intro | exact rfl | fail)
 refine yF 9 65 8 (fun i => eAch (([] : List Ach).getD i default)) rfl rfl rfl ?_
 refine zN [1, 2, 3, 9] (fun x : Nat × List Ach × Int × Int => [(10, .int .i64 x.1), (7, .int .i64 x.2.2.1), (8, .int .i64 x.2.2.2)]) (fun x : Nat × List Ach × Int × Int => [(1, .acc 65 8 x.2.1.length fun i => eAch (x.2.1.getD i default))]) (fun x : Nat × List Ach × Int × Int => x.1 ≤ l.length ∧ x.2.1.length ≤ x.1 ∧ wholeGo p set l 0 [] 0 0 = wholeGo p set (l.drop x.1) x.1 x.2.1 x.2.2.1 x.2.2.2) (fun x : Nat × List Ach × Int × Int => l.length - x.1) (0, [], 0, 0) (fun x => qS) ?_ qL qL ?_
 ·exact ⟨Nat.zero_le _, Nat.zero_le _, rfl⟩
 rintro ⟨k, t, c, o⟩ ⟨h1, h2, h3⟩
 simp only at h1 h2 h3
 repeat' (first | apply zC | apply zA | apply zB | refine zF qS qR ?_ ?_ | exact True.intro | exact rfl | fail)
 (refine zE qS ?_ ?_ <;> intro hb <;> have hc := hb <;> (try simp only [bF] at hc) <;> (try (exfalso; simp at hc; done)))
 ·replace e := e k ‹_›
  rw [drop_get _ _ ‹k < _›, wholeGo] at h3
  cases hbit : set.testBit k
  ·rw [hbit, if_neg (by simp)] at h3
   repeat' (first | apply zC | apply zG | apply zD | apply zA | apply zB | refine zF (by simp only [go_sem, e, hbit]; rfl) qR ?_ ?_ | (refine zE (by simp only [go_sem, e, hbit]; rfl) ?_ ?_ <;> intro hb <;> have hc := hb <;> (try simp only [bF] at hc) <;> (try (exfalso; simp at hc; done))) | refine zK qR ?_ | exact True.intro | exact rfl | exact qP | fail)
   refine zS (k + 1, t, c, o) ?_ ?_ ⟨rfl, qL, qL⟩
   ·exact ⟨by simp only; omega, by simp only; omega, h3⟩
   ·simp only; omega
  ·rw [hbit, if_pos rfl] at h3
   repeat' (first | apply zC | apply zG | apply zD | apply zA | apply zB | refine zF (by simp only [go_sem, e, hbit]; rfl) qR ?_ ?_ | (refine zE (by simp only [go_sem, e, hbit]; rfl) ?_ ?_ <;> intro hb <;> have hc := hb <;> (try simp only [bF] at hc) <;> (try (exfalso; simp at hc; done))) | exact True.intro | exact rfl | exact qP | fail)
   refine zN [1, 2, 3, 9, 10, 7, 8] (fun i : Nat × Unit => [(11, .int .i64 i.1)]) (fun i : Nat × Unit => []) (fun i : Nat × Unit => i.1 ≤ t.length ∧ (t.any fun x => excl p x.Course (l.getD k default).Course) = (t.drop i.1).any fun x => excl p x.Course (l.getD k default).Course) (fun i : Nat × Unit => t.length - i.1) (0, ()) (fun x => qS) ?_ qL qL ?_
   ·exact ⟨Nat.zero_le _, rfl⟩
   rintro ⟨i, _⟩ ⟨h4, h5⟩
   simp only at h4 h5
   repeat' (first | apply zC | apply zG | apply zD | apply zL | apply zA | apply zP | apply zB | refine zF (by simp only [go_sem, e, hbit]; rfl) qR ?_ ?_ | refine zU (by simp only [go_sem, e, hbit]; rfl) qR ?_ ?_ | refine zQ qK qK ?_ | refine zX K113 (by simp only [go_sem, e, hbit]; first | done | rfl) ?_ ⟨p, _, _, rfl, rfl⟩ (by simp only [go_sem, e, hbit]; rfl) ?_ | (refine zE (by simp only [go_sem, e, hbit]; rfl) ?_ ?_ <;> intro hb <;> have hc := hb <;> (try simp only [bF] at hc) <;> (try (exfalso; simp at hc; done))) | refine zI qR ?_ | refine zK qR ?_ | refine zS (i+1,()) ?_ ?_ ⟨rfl, qL, qL⟩ | exact True.intro | exact rfl | omega | refine SLe0.bool ?_ | exact qP | fail)
   ·rw [h5, drop_get _ _ ‹i < _›, List.any_cons, hb, Bool.true_or, if_pos rfl] at h3
    rw [wholeR, h3]
   ·refine ⟨by simp only; omega, ?_⟩
    rw [h5, drop_get _ _ ‹i < _›, List.any_cons, hb, Bool.false_or]
   ·rw [h5, List.drop_of_length_le (by omega), List.any_nil, if_neg (by simp), if_pos hb] at h3
    refine zS (k + 1, t ++ [l.getD k default], wr (c + (l.getD k default).Credits), wr (o + (l.getD k default).Credits)) ?_ ?_ ⟨rfl, by simp only [go_sem]; repeat' (first | exact trivial | exact ⟨_, rfl, OLe.refl _⟩ | exact SLe.refl _ | (refine SLe.int ?_; rw [w64]; omega) | refine SLe.int ?_ | apply And.intro | exact ⟨_, rfl, OLe.accS (by simp) fun i hi => join_snoc t _ i hi⟩), by simp only [go_sem]; repeat' (first | exact trivial | exact ⟨_, rfl, OLe.refl _⟩ | exact SLe.refl _ | (refine SLe.int ?_; rw [w64]; omega) | refine SLe.int ?_ | apply And.intro | exact ⟨_, rfl, OLe.accS (by simp) fun i hi => join_snoc t _ i hi⟩)⟩
    ·exact ⟨by simp only; omega, by simp; omega, h3⟩
    ·simp only; omega
   ·rw [h5, List.drop_of_length_le (by omega), List.any_nil, if_neg (by simp), if_neg (by rw [hb]; simp)] at h3
    refine zS (k + 1, t ++ [l.getD k default], wr (c + (l.getD k default).Credits), o) ?_ ?_ ⟨rfl, by simp only [go_sem]; repeat' (first | exact trivial | exact ⟨_, rfl, OLe.refl _⟩ | exact SLe.refl _ | (refine SLe.int ?_; rw [w64]; omega) | refine SLe.int ?_ | apply And.intro | exact ⟨_, rfl, OLe.accS (by simp) fun i hi => join_snoc t _ i hi⟩), by simp only [go_sem]; repeat' (first | exact trivial | exact ⟨_, rfl, OLe.refl _⟩ | exact SLe.refl _ | (refine SLe.int ?_; rw [w64]; omega) | refine SLe.int ?_ | apply And.intro | exact ⟨_, rfl, OLe.accS (by simp) fun i hi => join_snoc t _ i hi⟩)⟩
    ·exact ⟨by simp only; omega, by simp; omega, h3⟩
    ·simp only; omega
 ·rw [List.drop_of_length_le (by omega), wholeGo] at h3
  repeat' (first | refine zO 1 qS ?_ | apply zC | apply zA | apply zB | refine zF qS qR ?_ ?_ | refine zM K17 qD ?_ ⟨_, rfl, rfl⟩ qS ?_ | refine zI qR ?_ | refine zK qR ?_ | exact True.intro | exact rfl | refine SLe0.bool ?_ | exact qP | fail)
  rw [wholeR, h3]
end Go.Sx
