/- Lemmas on the judge: J9, J10, J20, J21. -/
import Derived.Test.YtmbocmonhcplhaaGreatJ8
import Derived.Test.YtmbocmonhcplhaaGreatJ15
import Derived.Test.YtmbocmonhcplhaaGreatS3
import Derived.Test.YtmbocmonhcplhaaGreatS4
set_option linter.all false
set_option maxHeartbeats 2000000
set_option maxRecDepth 8000
namespace Go.Sx
open Go.Proofs Tryz Go.RowKit
attribute [local irreducible] Run zAg zAs zAc SLe OLe
def zE1 (p : Programme) (set : Nat) : List Ach -> Nat -> List Ach -> Int -> Int -> Option (List Ach × Int × Int)
 | [], _, t, c, o => some (t, c, o)
 | a :: r, k, t, c, o =>
  if set.testBit k then
   if t.any fun x => excl p x.Course a.Course then none
   else zE1 p set r (k + 1) (t ++ [a]) (wr (c + a.Credits)) (if a.Course.School == p.School && a.Bundle == 0 then wr (o + a.Credits) else o)
  else zE1 p set r (k + 1) t c o
def zDt (p : Programme) (l : List Ach) (set : Nat) : Bool :=
 match zE1 p set l 0 [] 0 0 with
 | none => false
 | some (t, c, o) => pw pair t && decide (p.Total <= c) && decide (p.Own <= o)
theorem zI4 (t : List Ach) (a : Ach) (i : Nat) (hi : i < t.length + 1) : zBm t.length (fun i => zCk (t.getD i default)) (zBe [zCk a]) i = zCk ((t ++ [a]).getD i default) := by
 simp only [zBm];split
 ·rename_i h
  simp [zz2, zyb h]
 ·rename_i h
  have : i = t.length := by omega
  subst this;simp [zz2, zBe]
theorem zMm (a b : Course × Course) : zF1 a b = zF1 b a := by
 simp only [zF1];rw [Bool.eq_iff_iff];simp only [zz3, beq_iff_eq]
 constructor
 ·rintro ⟨h1, h2, h3, h4⟩; exact ⟨h1.symm, h2.symm, h3.symm, h4.symm⟩
 ·rintro ⟨h1, h2, h3, h4⟩; exact ⟨h1.symm, h2.symm, h3.symm, h4.symm⟩
theorem zOf (p : Programme) (a b : Course) : ((p.Exclude.any fun y => zF1 (a, b) y) || (p.Exclude.any fun y => zF1 (b, a) y)) = excl p b a := by
 simp only [excl]
 induction p.Exclude with
 | nil => rfl
 | cons x r ih =>
  simp only [List.any_cons, <- ih, zMm (a, b) x, zMm (b, a) x];cases zF1 x (a, b) <;> cases zF1 x (b, a) <;> simp
theorem zGy (a : Ach) : ∀ (t : List Ach) (n : Int), credits (t ++ [a]) n = wr (credits t n + a.Credits)
 | [], n => rfl
 | x :: r, n => by simp only [List.cons_append, credits]; exact zGy a r _
theorem K47 : FnOK prog 47 (fun ds d => ∃ p l set, l.length <= 10 /\ set < 1024 /\ ds = [zGx p, zAj 8 zCk l, eInt ((set : Nat) : Int)] /\ d = .bool (zDt p l set)) := by
 refine zAb call47 func47 rfl ntmps47 ?_;rintro ds d ⟨p, l, set, hl, hset, rfl, rfl⟩;refine ⟨by simp, fun w0 => ?_⟩;have e : ∀ k : Nat, k < l.length -> _ := fun k hk => yCd set k (by omega) (by omega)
 repeat' (first | refine wA ?_ | exact qT | fail)
 refine zX 7 65 8 (fun i => zCk (([] : List Ach).getD i default)) rfl rfl rfl ?_;refine zH [2, 3, 13, 14, 7] (fun x : Nat × List Ach × Int => [(15, .int .i64 x.1), (8, .int .i64 x.2.2)]) (fun x => [(1, .acc 65 8 x.2.1.length fun i => zCk (x.2.1.getD i default))]) (fun x => x.1 <= l.length /\ x.2.1.length <= x.1 /\ zE1 p set l 0 [] 0 0 = zE1 p set (l.drop x.1) x.1 x.2.1 (credits x.2.1 0) x.2.2) (fun x => l.length - x.1) (0, [], 0) (fun x => qS) ?_ qL qL ?_
 ·exact ⟨zz7 _, zz7 _, rfl⟩
 rintro ⟨k, t, o⟩ ⟨h1, h2, h3⟩;simp only at h1 h2 h3
 repeat' (first | refine wA ?_ | exact qT | fail)
 (refine zAa qS qC qC ?_ ?_ <;> intro hb hc <;> try (simp at hc; done))
 ·replace e := e k ‹_›
  rw [zAr _ _ ‹k < _›, zE1] at h3;cases hbit : set.testBit k
  ·rw [hbit, if_neg (by simp)] at h3
   repeat' (first | refine wB ?_ | refine zC (by simp only [go_sem, e, hbit]; rfl) qR ?_ ?_ | (refine zAa (by simp only [go_sem, e, hbit]; rfl) qC qC ?_ ?_ <;> intro hb hc <;> try (simp at hc; done)) | refine zF qR ?_ | exact qT | exact qP | fail)
   refine zL (k + 1, t, o) ?_ ?_ ⟨rfl, qL, qL⟩
   ·exact ⟨by simp only; omega, by simp only; omega, h3⟩
   ·simp only; omega
  ·rw [hbit, if_pos rfl] at h3
   repeat' (first | refine wB ?_ | refine zC (by simp only [go_sem, e, hbit]; rfl) qR ?_ ?_ | (refine zAa (by simp only [go_sem, e, hbit]; rfl) qC qC ?_ ?_ <;> intro hb hc <;> try (simp at hc; done)) | exact qT | exact qP | fail)
   refine zH [2, 3, 13, 14, 7, 10, 9, 15, 8, 25, 26] (fun i : Nat × Unit => [(27, .int .i64 i.1)]) (fun i => []) (fun i => i.1 <= t.length /\ (t.any fun x => excl p x.Course (l.getD k default).Course) = (t.drop i.1).any fun x => excl p x.Course (l.getD k default).Course) (fun i => t.length - i.1) (0, ()) (fun x => qS) ?_ qL qL ?_
   ·exact ⟨zz7 _, rfl⟩
   rintro ⟨i, _⟩ ⟨h4, h5⟩;simp only at h4 h5
   repeat' (first | refine wB ?_ | refine zC (by simp only [go_sem, e, hbit]; rfl) qR ?_ ?_ | refine zG K99 (by simp only [go_sem, e, hbit]; first | done | rfl) ?_ ⟨p.Exclude, ((l.getD k default).Course, (t.getD i default).Course), rfl, rfl⟩ (by simp only [go_sem, e, hbit]; rfl) ?_ | refine zN 39 qR (by simp only [go_sem, e, hbit]; rfl) K99 (by simp only [go_sem, e, hbit]; first | done | rfl) (fun hg => ?_) (fun _ => ⟨p.Exclude, ((t.getD i default).Course, (l.getD k default).Course), rfl, rfl⟩) (by simp only [go_sem, e, hbit]; rfl) ?_ | (refine zAa (by simp only [go_sem, e, hbit]; rfl) qC qC ?_ ?_ <;> intro hb hc <;> try (simp at hc; done)) | refine zE qR ?_ | refine zF qR ?_ | refine zL (i+1,()) ?_ ?_ ⟨rfl, qL, qL⟩ | exact qT | omega | refine zAc.bool ?_ | exact qP | fail)
   ·rw [zOf] at hb
    rw [h5, zAr _ _ ‹i < _›, List.any_cons, hb, Bool.true_or, if_pos rfl] at h3;rw [zDt, h3]
   ·rw [zOf] at hb
    refine ⟨by simp only; omega, ?_⟩;rw [h5, zAr _ _ ‹i < _›, List.any_cons, hb, Bool.false_or]
   ·rw [Bool.and_comm] at hb
    rw [h5, List.drop_of_length_le (by omega), List.any_nil, if_neg (by simp), if_pos hb, <- zGy] at h3;refine zL (k + 1, t ++ [l.getD k default], wr (o + (l.getD k default).Credits)) ?_ ?_ ⟨rfl, by simp only [go_sem]; repeat' (first | exact trivial | exact ⟨_, rfl, OLe.refl _⟩ | exact SLe.refl _ | (refine SLe.int ?_; rw [w64]; omega) | refine SLe.int ?_ | apply And.intro | exact ⟨_, rfl, OLe.accS (by simp) fun i hi => zI4 t _ i hi⟩), by simp only [go_sem]; repeat' (first | exact trivial | exact ⟨_, rfl, OLe.refl _⟩ | exact SLe.refl _ | (refine SLe.int ?_; rw [w64]; omega) | refine SLe.int ?_ | apply And.intro | exact ⟨_, rfl, OLe.accS (by simp) fun i hi => zI4 t _ i hi⟩)⟩
    ·exact ⟨by simp only; omega, by simp; omega, h3⟩
    ·simp only; omega
   ·rw [Bool.and_comm] at hb
    rw [h5, List.drop_of_length_le (by omega), List.any_nil, if_neg (by simp), if_neg (by rw [hb]; simp), <- zGy] at h3;refine zL (k + 1, t ++ [l.getD k default], o) ?_ ?_ ⟨rfl, by simp only [go_sem]; repeat' (first | exact trivial | exact ⟨_, rfl, OLe.refl _⟩ | exact SLe.refl _ | (refine SLe.int ?_; rw [w64]; omega) | refine SLe.int ?_ | apply And.intro | exact ⟨_, rfl, OLe.accS (by simp) fun i hi => zI4 t _ i hi⟩), by simp only [go_sem]; repeat' (first | exact trivial | exact ⟨_, rfl, OLe.refl _⟩ | exact SLe.refl _ | (refine SLe.int ?_; rw [w64]; omega) | refine SLe.int ?_ | apply And.intro | exact ⟨_, rfl, OLe.accS (by simp) fun i hi => zI4 t _ i hi⟩)⟩
    ·exact ⟨by simp only; omega, by simp; omega, h3⟩
    ·simp only; omega
 ·rw [List.drop_of_length_le (by omega), zE1] at h3
  repeat' (first | refine zI 1 qS ?_ | refine wA ?_ | refine zM qS qR ?_ ?_ | refine zJ qK qK ?_ | refine zP K16 qD ?_ ⟨_, rfl, rfl⟩ qS ?_ | refine zBv 72 qR qS K105 qD (fun hg => ?_) (fun _ => ⟨_, rfl, rfl⟩) qS ?_ | refine zE qR ?_ | refine zF qR ?_ | exact zz0 | refine zAc.bool ?_ | exact qP | fail)
  rw [zDt, h3]
def okB (n : Nat) : Prop := (65 <= n /\ n <= 90) \/ (48 <= n /\ n <= 57)
structure zD1 (s : ByteArray) : Prop where
 lo : 1 <= s.size
 hi : s.size <= 8
 ok : ∀ (i : Nat) (h : i < s.size), okB (s[i]'h).toNat
theorem getD_byte (s : ByteArray) (i : Nat) (h : i < s.size) : (s.data.toList.getD i 0) = s[i]'h := by
 have h' : i < s.data.toList.length := by simpa using h
 rw [zz2, zz5 h']; simp; rfl
def Asc (s : ByteArray) : Prop := s.size <= 100000 /\ ∀ (i : Nat) (h : i < s.size), (s[i]'h).toNat < 128
theorem zD1.asc {s : ByteArray} (h : zD1 s) : Asc s := ⟨by have := h.hi; omega, fun i hi => by
 have := h.ok i hi;unfold okB at this; omega⟩
def byB (n : Nat) : Bool := (decide (65 <= n) && decide (n <= 90)) || (decide (48 <= n) && decide (n <= 57))
def zY9 (s : ByteArray) : Bool := decide (1 <= (s.size : Int)) && decide ((s.size : Int) <= 8) && s.data.toList.all fun b => byB b.toNat
theorem zD1.code {s : ByteArray} (h : zD1 s) : zY9 s = true := by
 have h1 := h.lo;have h2 := h.hi;simp only [zY9, zz3, zyf, List.all_eq_true];refine ⟨⟨by omega, by omega⟩, fun b hb => ?_⟩;obtain ⟨i, hi, rfl⟩ := List.getElem_of_mem hb;have h3 := h.ok i (by simpa using hi);rw [show s[i] = s.data.toList[i] from by simp; rfl] at h3;unfold okB at h3;unfold byB;simp only [Bool.or_eq_true, zz3, zyf];exact h3
theorem yJs : prog.underlying 9 = some .string := by kernel_rfl
theorem yGa (z : Nat) : ((decide ((z : Int) < 65) || decide (90 < (z : Int))) && (decide ((z : Int) < 48) || decide (57 < (z : Int)))) = !byB z := by
 unfold byB;by_cases h1 : 65 <= z <;> by_cases h2 : z <= 90 <;> by_cases h3 : 48 <= z <;> by_cases h4 : z <= 57 <;> simp [*] <;> omega
theorem K194 : FnOK prog 194 (fun ds d => ∃ n : Nat, ds = [.int .i32 (n : Int)] /\ d = .bool (!byB n)) := by
 refine zAb call194 func194 rfl ntmps194 ?_;rintro ds d ⟨n, rfl, rfl⟩;refine ⟨by simp, fun w0 => ?_⟩
 repeat' (first | refine wB ?_ | refine zC (by simp only [go_sem, yGa]; rfl) qR ?_ ?_ | refine zE qR ?_ | exact qT | exact zAc.bool rfl | exact qP | fail)
def yDd (l : List UInt8) : Int := match l.findIdx? (fun b => !byB b.toNat) with | none => -1 | some i => (i : Int)
theorem K227 : FnOK prog 227 (fun ds d => ∃ s, Asc s /\ ds = [.str s, .fn 194 [], .bool true] /\ d = eInt (yDd s.data.toList)) := by
 refine zAb call227 func227 rfl ntmps227 ?_;rintro ds d ⟨s, hs, rfl, rfl⟩;refine ⟨by simp, fun w0 => ?_⟩;have hsz := hs.1;have h8 := hs.2
 repeat' (first | refine wA ?_ | exact qT | fail)
 refine yAa qS yJs qS ?_
 repeat' (first | refine wA ?_ | fail)
 refine zH [0, 1, 2, 6, 10] (fun x : Nat × Unit => []) (fun x => [(0, zZ8 s x.1)]) (fun x => x.1 <= s.size /\ ∀ j, j < x.1 -> byB (s.data.toList.getD j 0).toNat = true) (fun x => s.size - x.1) (0, ()) (fun x => qS) ?_ qL qL ?_
 ·exact ⟨zz7 _, fun j h => absurd h (zyi _)⟩
 rintro ⟨k, _⟩ ⟨h4, h5⟩;simp only at h4 h5;have hl : s.data.toList.length = s.size := by simp
 repeat' (first | refine wA ?_ | exact rfl | fail)
 refine yAb qS qS qR h8 (fun h6 => ?_) (fun h6 => ?_)
 ·have : yDd s.data.toList = -1 := by
   unfold yDd;rw [show s.data.toList.findIdx? (fun b => !byB b.toNat) = none from ?_];rw [List.findIdx?_eq_none_iff];intro b hb;obtain ⟨i, hi, rfl⟩ := List.getElem_of_mem hb;have := h5 i (by omega);rw [zz2, zz5 hi] at this;simpa using this
  rw [this]
  repeat' (first | refine wA ?_ | (refine zAa qS qC qC ?_ ?_ <;> intro hb hc <;> try (simp at hc; done)) | refine zE qR ?_ | refine zF qR ?_ | exact qT | refine zAc.int ?_ | fail)
 ·have h7 : FnV prog 194 [] [.int .i32 ((s[k]'h6).toNat : Int)] (.bool (!byB (s[k]'h6).toNat)) := ⟨_, K194, _, rfl, rfl⟩
  have h9 := getD_byte s k h6
  repeat' (first | refine wA ?_ | refine zW (h7) qZ qZ ?_ qS ?_ | (refine zAa qS qC qC ?_ ?_ <;> intro hb hc <;> try (simp at hc; done)) | refine zE qR ?_ | refine zL (k+1,()) ?_ ?_ ⟨rfl, qL, qL⟩ | exact qT | omega | refine zAc.int ?_ | fail)
  ·have : yDd s.data.toList = (k : Int) := by
    unfold yDd;rw [show s.data.toList.findIdx? (fun b => !byB b.toNat) = some k from ?_];rw [List.findIdx?_eq_some_iff_getElem];refine ⟨by omega, ?_, fun j hj => ?_⟩
    ·rw [zz2, zz5 (by omega)] at h9
     simp only [Option.getD_some] at h9;rw [h9, hc]; rfl
    ·have := h5 j hj
     rw [zz2, zz5 (by omega)] at this;simpa using this
   rw [this]
  ·refine ⟨by simp only; omega, fun j hj => ?_⟩
   simp only at hj;by_cases hjk : j = k
   ·subst hjk; rw [h9]; simpa using hc
   ·exact h5 j (by omega)
theorem K195 : FnOK prog 195 (fun ds d => ∃ s, Asc s /\ ds = [.str s, .fn 194 []] /\ d = eInt (yDd s.data.toList)) := by
 refine zAb call195 func195 rfl ntmps195 ?_;rintro ds d ⟨s, hs, rfl, rfl⟩;refine ⟨by simp, fun w0 => ?_⟩
 repeat' (first | refine wA ?_ | refine zG K227 qD ?_ ⟨s, hs, rfl, rfl⟩ qS ?_ | refine zE qR ?_ | exact qT | refine zAc.int ?_ | fail)
theorem zKu (l : List UInt8) : decide (yDd l < 0) = l.all fun b => byB b.toNat := by
 unfold yDd;cases h : l.findIdx? (fun b => !byB b.toNat) with
 | none =>
  rw [List.findIdx?_eq_none_iff] at h
  have : (l.all fun b => byB b.toNat) = true := by
   rw [List.all_eq_true]; intro b hb; simpa using h b hb
  rw [this]; rfl
 | some i =>
  have : (l.all fun b => byB b.toNat) = false := by
   rw [List.findIdx?_eq_some_iff_getElem] at h;obtain ⟨hi, h1, _⟩ := h;rw [List.all_eq_false];exact ⟨l[i], List.getElem_mem hi, by simpa using h1⟩
  rw [this];exact zyq (show ¬ ((i : Int) < 0) by omega)
theorem yKw : FnOK prog 146 (fun ds d => ∃ s, Asc s /\ ds = [.str s] /\ d = .bool (zY9 s)) := by
 refine zAb call146 func146 rfl ntmps146 ?_;rintro ds d ⟨s, hs, rfl, rfl⟩;refine ⟨by simp, fun w0 => ?_⟩
 have h2 : (s != (⟨#[]⟩ : ByteArray)) = decide (1 <= (s.size : Int)) := by
  by_cases hz : s = (⟨#[]⟩ : ByteArray)
  ·subst hz; rfl
  ·have h3 : 1 <= (s.size : Int) := by
    have : s.size ≠ 0 := fun hc => hz (by
     obtain ⟨x⟩ := s;have : x.size = 0 := hc;rw [Array.eq_empty_of_size_eq_zero this])
    omega
   rw [zyr h3]; simpa [bne] using hz
 repeat' (first | refine wB ?_ | refine zC (by simp only [go_sem, h2, zKu]; rfl) qR ?_ ?_ | refine zN 11 qR (by simp only [go_sem, h2, zKu]; rfl) K195 (by simp only [go_sem, h2, zKu]; first | done | rfl) (fun hg => ?_) (fun _ => ⟨s, hs, rfl, rfl⟩) (by simp only [go_sem, h2, zKu]; rfl) ?_ | refine zE qR ?_ | exact qT | refine zAc.bool ?_ | exact qP | fail)
 all_goals (rw [zY9, <- h2]; rfl)
def zGe (c : Course) : Bool := zY9 c.Code && (decide (1 <= c.School) && decide (c.School <= 8))
theorem K97 : FnOK prog 97 (fun ds d => ∃ c : Course, Asc c.Code /\ ds = [zAv c] /\ d = .bool (zGe c)) := by
 refine zAb call97 func97 rfl ntmps97 ?_;rintro ds d ⟨c, hc, rfl, rfl⟩;refine ⟨by simp, fun w0 => ?_⟩
 repeat' (first | refine wA ?_ | refine zC qS qR ?_ ?_ | refine zG K94 qD ?_ ⟨_, _, _, rfl, rfl⟩ qS ?_ | refine zN 6 qR qS yKw qD (fun hg => ?_) (fun _ => ⟨c.Code, hc, rfl, rfl⟩) qS ?_ | refine zE qR ?_ | exact qT | refine zAc.bool ?_ | exact qP | fail)
 all_goals rw [zGe, Bool.and_comm]
def zB4 (a b : Course) : Bool := decide (a.School < b.School) || (a.School == b.School && Op.bytesLess a.Code.toList b.Code.toList)
def yJh (a b : ByteArray) : Int := if Op.bytesLess a.toList b.toList then -1 else if a.toList = b.toList then 0 else 1
theorem K147 : FnOK prog 147 (fun ds d => ∃ a b, ds = [.str a, .str b] /\ d = eInt (yJh a b)) := by
 refine zAb call147 func147 rfl ntmps147 ?_;rintro ds d ⟨a, b, rfl, rfl⟩;refine ⟨by simp, fun w0 => ?_⟩
 repeat' (first | refine wA ?_ | refine zG K196 qD ?_ ⟨_, rfl, rfl⟩ qS ?_ | (refine zAa qS qC qC ?_ ?_ <;> intro hb hc <;> try (simp at hc; done)) | refine zE qR ?_ | exact qT | refine zAc.int ?_ | fail)
 all_goals simp_all [yJh]
def yKo (a b : Course) : Int := if zLt a.School b.School = 0 then yJh a.Code b.Code else zLt a.School b.School
theorem zF8 (a b : Course) : decide (0 <= yKo a b) = !zB4 a b := by
 unfold yKo zLt zB4 yJh;by_cases h1 : a.School < b.School
 ·have : ¬ a.School = b.School := by omega
  simp [h1, this]
 ·by_cases h2 : b.School < a.School
  ·have : ¬ a.School = b.School := by omega
   simp [h1, h2, this]
  ·have : a.School = b.School := by omega
   simp only [h1, h2, this];cases Op.bytesLess a.Code.toList b.Code.toList <;> by_cases h9 : a.Code.toList = b.Code.toList <;> simp [h9]
theorem yKx : FnOK prog 124 (fun ds d => ∃ x y : Int, ds = [ints [x, y]] /\ d = eInt (if x = 0 then y else x)) := by
 refine zAb call124 func124 rfl ntmps124 ?_;rintro ds d ⟨x, y, rfl, rfl⟩;refine ⟨by simp, fun w0 => ?_⟩
 repeat' (first | refine wA ?_ | exact qT | fail)
 refine zH [0] (fun i : Nat × Unit => [(6, ints [x, y]), (7, .int .i64 2), (8, .int .i64 i.1), (3, .int .i64 0)]) (fun i => []) (fun i => i.1 <= 2 /\ (0 < i.1 -> x = 0) /\ (1 < i.1 -> y = 0)) (fun i => 2 - i.1) (0, ()) (fun x => qS) ?_ qL qL ?_
 ·exact ⟨by decide, by simp, by simp⟩
 rintro ⟨k, _⟩ ⟨h1, h2, h3⟩;simp only at h1 h2 h3
 match k, h1 with
 | 0, _ =>
  repeat' (first | refine wA ?_ | refine zC qS qR ?_ ?_ | (refine zAa qS qC qC ?_ ?_ <;> intro hb hc <;> try (simp at hc; done)) | refine zE qR ?_ | refine zL (1,()) ?_ ?_ ⟨rfl, qL, qL⟩ | exact qT | omega | refine zAc.int ?_ | exact qP | fail)
  all_goals first | (rw [if_neg hc]; done) | exact ⟨by decide, fun _ => by simpa using hb, by simp⟩
 | 1, _ =>
  have h2 := h2 (by decide)
  repeat' (first | refine wA ?_ | refine zC qS qR ?_ ?_ | (refine zAa qS qC qC ?_ ?_ <;> intro hb hc <;> try (simp at hc; done)) | refine zE qR ?_ | refine zL (2,()) ?_ ?_ ⟨rfl, qL, qL⟩ | exact qT | omega | refine zAc.int ?_ | exact qP | fail)
  all_goals first | (rw [if_pos h2]; done) | exact ⟨by decide, fun _ => h2, fun _ => by simpa using hb⟩
 | 2, _ =>
  have h2 := h2 (by decide);have h3 := h3 (by decide)
  repeat' (first | refine wA ?_ | (refine zAa qS qC qC ?_ ?_ <;> intro hb hc <;> try (simp at hc; done)) | refine zE qR ?_ | refine zF qR ?_ | exact qT | omega | refine zAc.int ?_ | fail)
  all_goals (rw [if_pos h2, h3])
theorem K98 : FnOK prog 98 (fun ds d => ∃ a b : Course, ds = [zAv a, zAv b] /\ d = eInt (yKo a b)) := by
 refine zAb call98 func98 rfl ntmps98 ?_;rintro ds d ⟨a, b, rfl, rfl⟩;refine ⟨by simp, fun w0 => ?_⟩
 repeat' (first | refine wA ?_ | refine zM qS qR ?_ ?_ | refine zJ qK qK ?_ | refine zP yJp qD ?_ ⟨_, _, rfl, rfl⟩ qS ?_ | refine zP K147 qD ?_ ⟨_, _, rfl, rfl⟩ qS ?_ | refine zP yKx qD ?_ ⟨_, _, rfl, rfl⟩ qS ?_ | refine zE qR ?_ | exact qT | refine zAc.int ?_ | fail)
def zJ8 (n : Need) : Prop := ∀ c ∈ n.Set, Asc c.Code
theorem zJ8.get {n : Need} (h : zJ8 n) {i : Nat} (hi : i < n.Set.length) : Asc (n.Set.getD i default).Code := by
 refine h _ ?_;rw [zz2, zz5 hi];exact List.getElem_mem hi
def yFt (l : List Course) : Bool := (List.range l.length).all fun j => j == 0 || zB4 (l.getD (j - 1) default) (l.getD j default)
theorem zOa (l : List Course) : yFt l = true ↔ ∀ j, 1 <= j -> j < l.length -> zB4 (l.getD (j - 1) default) (l.getD j default) = true := by
 simp only [yFt, List.all_eq_true, zyp, Bool.or_eq_true, beq_iff_eq]
 constructor
 ·intro h j h1 h2
  rcases h j h2 with h3 | h3
  ·omega
  ·exact h3
 ·intro h j h1
  by_cases h2 : j = 0
  ·exact .inl h2
  ·exact .inr (h j (by omega) h1)
theorem yFs {l : List Course} {j : Nat} (h1 : 1 <= j) (h2 : j < l.length) (h3 : zB4 (l.getD (j - 1) default) (l.getD j default) = false) : yFt l = false := by
 cases h : yFt l
 ·rfl
 ·rw [(zOa l).1 h j h1 h2] at h3; cases h3
def zCx (n : Need) : Int :=
 if !(decide (-1000 <= n.Min) && decide (n.Min <= 1000)) then 3
 else if !(decide (1 <= (n.Set.length : Int)) && decide ((n.Set.length : Int) <= 12)) then 2
 else if n.Set.any (fun c => !zGe c) then 1
 else if yFt n.Set then 0 else 7
theorem K226 : FnOK prog 226 (fun ds d => ∃ c : Course, Asc c.Code /\ ds = [zAv c] /\ d = .bool (!zGe c)) := by
 refine zAb call226 func226 rfl ntmps226 ?_;rintro ds d ⟨c, hc, rfl, rfl⟩;refine ⟨by simp, fun w0 => ?_⟩
 repeat' (first | refine wA ?_ | refine zG K97 qD ?_ ⟨c, hc, rfl, rfl⟩ qS ?_ | refine zE qR ?_ | exact qT | exact zAc.bool rfl | fail)
theorem K190 : FnOK prog 190 (fun ds d => ∃ n : Need, zJ8 n /\ ds = [zFt n] /\ d = eInt (zCx n)) := by
 refine zAb call190 func190 rfl ntmps190 ?_;rintro ds d ⟨n, hn, rfl, rfl⟩;refine ⟨by simp, fun w0 => ?_⟩;refine zNi 0 3 rfl (by rw [zEp]; rfl) fun hl => ?_;have hp : ∀ i, i < n.Set.length -> FnV prog 226 [] [zAv (n.Set.getD i default)] (.bool (!zGe (n.Set.getD i default))) := fun i hi => ⟨_, K226, _, hn.get hi, rfl, rfl⟩
 repeat' (first | refine wA ?_ | refine zG K94 qD ?_ ⟨_, _, _, rfl, rfl⟩ qS ?_ | refine zG K225 qD ?_ ⟨n.Set, 226, [], (fun c => !zGe c), hp, rfl, rfl⟩ qS ?_ | (refine zAa qS qC qC ?_ ?_ <;> intro hb hc <;> try (simp at hc; done)) | refine zE qR ?_ | exact qT | refine zAc.int ?_ | fail)
 ·simp only [zCx]; rw [if_pos hb]
 ·rename_i h1 _; simp only [zCx]; rw [if_neg (by rw [h1]; simp), if_pos hb]
 ·rename_i h1 _ h2 _
  have h3 : (n.Set.any fun c => !zGe c) = false := hc;refine zH [0, 1, 22, 23] (fun x : Nat × Unit => [(24, .int .i64 x.1)]) (fun x => []) (fun x => x.1 <= n.Set.length /\ ∀ j, 1 <= j -> j < x.1 -> zB4 (n.Set.getD (j - 1) default) (n.Set.getD j default) = true) (fun x => n.Set.length - x.1) (0, ()) (fun x => qS) ?_ qL qL ?_
  ·exact ⟨zz7 _, fun j h1 h2 => absurd h2 (by simp)⟩
  rintro ⟨k, _⟩ ⟨g1, g2⟩;simp only at g1 g2;have e2 : 0 < k -> IntKind.i64.wrap ((k : Int) - 1) = ((k - 1 : Nat) : Int) := fun h => by rw [w64]; omega
  repeat' (first | refine wA ?_ | exact qT | fail)
  (refine zAa qS qC qC ?_ ?_ <;> intro hb hc <;> try (simp at hc; done))
  ·have hk : k < n.Set.length := by assumption
   by_cases hk0 : k = 0
   ·subst hk0
    repeat' (first | refine wA ?_ | refine zC qS qR ?_ ?_ | refine zM qS qR ?_ ?_ | refine zJ qK qK ?_ | refine zBv 31 qR qS K98 qD (fun hg => ?_) (fun _ => ⟨_, _, rfl, rfl⟩) qS ?_ | (refine zAa qS qC qC ?_ ?_ <;> intro hb hc <;> try (simp at hc; done)) | refine zL (1,()) ?_ ?_ ⟨rfl, qL, qL⟩ | exact qT | omega | exact qP | fail)
    exact ⟨by simp only; omega, fun j h1 h2 => absurd h2 (by simp only; omega)⟩
   ·have e1 := e2 (by omega)
    have e3 : decide ((0 : Int) < (k : Int)) = true := zyr (by omega)
    repeat' (first | refine wB ?_ | refine zC (by simp only [go_sem, e1, e3, zF8]; rfl) qR ?_ ?_ | refine zM (by simp only [go_sem, e1, e3, zF8]; rfl) qR ?_ ?_ | refine zJ qK qK ?_ | refine zBv 31 qR (by simp only [go_sem, e1, e3, zF8]; rfl) K98 (by simp only [go_sem, e1, e3, zF8]; first | done | rfl) (fun hg => ?_) (fun _ => ⟨_, _, rfl, rfl⟩) (by simp only [go_sem, e1, e3, zF8]; rfl) ?_ | (refine zAa (by simp only [go_sem, e1, e3, zF8]; rfl) qC qC ?_ ?_ <;> intro hb hc <;> try (simp at hc; done)) | refine zE qR ?_ | refine zL (k+1,()) ?_ ?_ ⟨rfl, qL, qL⟩ | exact qT | omega | refine zAc.int ?_ | exact qP | fail)
    ·simp only [zCx]; rw [if_neg (by rw [h1]; simp), if_neg (by rw [h2]; simp), if_neg (by rw [h3]; simp)]
     rw [yFs (j := k) (by omega) hk (by simpa using hb)]; rfl
    ·refine ⟨by simp only; omega, fun j h1 h2 => ?_⟩
     simp only at h2;by_cases hj : j = k
     ·subst hj; simpa using hb
     ·exact g2 j h1 (by omega)
  ·repeat' (first | refine wA ?_ | refine zE qR ?_ | refine zF qR ?_ | exact qT | refine zAc.int ?_ | fail)
   have h4 : yFt n.Set = true := (zOa _).2 fun j j1 j2 => g2 j j1 (by omega);simp only [zCx]; rw [if_neg (by rw [h1]; simp), if_neg (by rw [h2]; simp), if_neg (by rw [h3]; simp), h4]; rfl
 ·rename_i h1 _ h2 _
  simp only [zCx]; rw [if_neg (by rw [h1]; simp), if_neg (by rw [h2]; simp), if_pos hc]
end Go.Sx
