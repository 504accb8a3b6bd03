/- Part of the proof that the laws of the judge return true for every input: J20, J21. -/
import Derived.Test.YtmbocmonhcplhaaGreatJ15
import Derived.Test.YtmbocmonhcplhaaGreatJ8a
import Derived.Test.YtmbocmonhcplhaaGreatJ13
import Derived.Test.YtmbocmonhcplhaaGreatS3
import Derived.Test.YtmbocmonhcplhaaGreatS4
set_option linter.all false
namespace Go.Sx
open Go.Proofs Go.RowKit
attribute [local irreducible] Run zAi zAy zAc SLe OLe
set_option maxHeartbeats 2000000
set_option maxRecDepth 8000
def okB (n : Nat) : Prop := (65 ≤ n ∧ n ≤ 90) ∨ (48 ≤ n ∧ n ≤ 57)
structure zCe (s : ByteArray) : Prop where
 lo : 1 ≤ s.size
 hi : s.size ≤ 8
 ok : ∀ (i : Nat) (h : i < s.size), okB (s[i]'h).toNat
theorem getD_byte (s : ByteArray) (i : Nat) (h : i < s.size) : (s.data.toList.getD i 0) = s[i]'h := by
 have h' : i < s.data.toList.length := by simpa using h
 rw [zz2, List.getElem?_eq_getElem h']; simp; rfl
def Asc (s : ByteArray) : Prop := s.size ≤ 100000 ∧ ∀ (i : Nat) (h : i < s.size), (s[i]'h).toNat < 128
theorem zCe.asc {s : ByteArray} (h : zCe s) : Asc s := ⟨by have := h.hi; omega, fun i hi => by
 have := h.ok i hi
 unfold okB at this; omega⟩
def byB (n : Nat) : Bool := (decide (65 ≤ n) && decide (n ≤ 90)) || (decide (48 ≤ n) && decide (n ≤ 57))
def zWu (s : ByteArray) : Bool := decide (1 ≤ (s.size : Int)) && decide ((s.size : Int) ≤ 8) && s.data.toList.all fun b => byB b.toNat
theorem zCe.code {s : ByteArray} (h : zCe s) : zWu s = true := by
 have h1 := h.lo
 have h2 := h.hi
 simp only [zWu, zz3, decide_eq_true_eq, List.all_eq_true]
 refine ⟨⟨by omega, by omega⟩, fun b hb => ?_⟩
 obtain ⟨i, hi, rfl⟩ := List.getElem_of_mem hb
 have h3 := h.ok i (by simpa using hi)
 rw [show s[i] = s.data.toList[i] from by simp; rfl] at h3
 unfold okB at h3
 unfold byB
 simp only [Bool.or_eq_true, zz3, decide_eq_true_eq]
 exact h3
theorem yC9 : Tryz.prog.underlying 9 = some .string := by kernel_rfl
theorem yCt (z : Nat) : ((decide ((z : Int) < 65) || decide (90 < (z : Int))) && (decide ((z : Int) < 48) || decide (57 < (z : Int)))) = !byB z := by
 unfold byB
 by_cases h1 : 65 ≤ z <;> by_cases h2 : z ≤ 90 <;> by_cases h3 : 48 ≤ z <;> by_cases h4 : z ≤ 57 <;> simp [*] <;> omega
theorem K194 : FnOK Tryz.prog 194 (fun ds d => ∃ n : Nat, ds = [.int .i32 (n : Int)] ∧ d = .bool (!byB n)) := by
 refine zAa Tryz.call194 Tryz.func194 rfl Tryz.ntmps194 ?_
 rintro ds d ⟨n, rfl, rfl⟩
 refine ⟨by simp, fun w0 => ?_⟩
 repeat' (first | apply zC | apply zA | apply zB | refine zF (by simp only [go_sem, yCt]; rfl) qR ?_ ?_ | refine zI qR ?_ | exact zz0 | exact rfl | exact zAc.bool rfl | exact qP | fail)
def zZ6 (l : List UInt8) : Int := match l.findIdx? (fun b => !byB b.toNat) with | none => -1 | some i => (i : Int)
theorem K227 : FnOK Tryz.prog 227 (fun ds d => ∃ s, Asc s ∧ ds = [.str s, .fn 194 [], .bool true] ∧ d = eInt (zZ6 s.data.toList)) := by
 refine zAa Tryz.call227 Tryz.func227 rfl Tryz.ntmps227 ?_
 rintro ds d ⟨s, hs, rfl, rfl⟩
 refine ⟨by simp, fun w0 => ?_⟩
 have hsz := hs.1
 have h8 := hs.2
 repeat' (first | apply zC | apply zA | apply zB | refine zF qS qR ?_ ?_ | exact zz0 | exact rfl | fail)
 refine zXj qS yC9 qS ?_
 repeat' (first | apply zD | apply zB | fail)
 refine zN [0, 1, 2, 6, 10] (fun x : Nat × Unit => []) (fun x : Nat × Unit => [(0, zXh s x.1)]) (fun x : Nat × Unit => x.1 ≤ s.size ∧ ∀ j, j < x.1 → byB (s.data.toList.getD j 0).toNat = true) (fun x : Nat × Unit => s.size - x.1) (0, ()) (fun x => qS) ?_ qL qL ?_
 ·exact ⟨Nat.zero_le _, fun j h => absurd h (Nat.not_lt_zero _)⟩
 rintro ⟨k, _⟩ ⟨h4, h5⟩
 simp only at h4 h5
 have hl : s.data.toList.length = s.size := by simp
 repeat' (first | apply zC | apply zA | exact rfl | fail)
 refine zXk qS qS qR h8 (fun h6 => ?_) (fun h6 => ?_)
 ·have : zZ6 s.data.toList = -1 := by
   unfold zZ6;rw [show s.data.toList.findIdx? (fun b => !byB b.toNat) = none from ?_];rw [List.findIdx?_eq_none_iff];intro b hb;obtain ⟨i, hi, rfl⟩ := List.getElem_of_mem hb;have := h5 i (by omega);rw [zz2, List.getElem?_eq_getElem hi] at this;simpa using this
  rw [this]
  repeat' (first | apply zC | apply zA | apply zB | refine zF qS qR ?_ ?_ | (refine zE qS ?_ ?_ <;> intro hb <;> have hc := hb <;> (try simp only [bF] at hc) <;> (try (exfalso; simp at hc; done))) | refine zI qR ?_ | refine zK qR ?_ | exact zz0 | exact rfl | refine zAc.int ?_ | fail)
 ·have h7 : FnV Tryz.prog 194 [] [.int .i32 ((s[k]'h6).toNat : Int)] (.bool (!byB (s[k]'h6).toNat)) := ⟨_, K194, _, rfl, rfl⟩
  have h9 := getD_byte s k h6
  repeat' (first | apply zC | apply zG | apply zD | apply zL | apply zA | apply zB | refine zF qS qR ?_ ?_ | refine yD (h7) qZ qZ ?_ qS ?_ | (refine zE qS ?_ ?_ <;> intro hb <;> have hc := hb <;> (try simp only [bF] at hc) <;> (try (exfalso; simp at hc; done))) | refine zI qR ?_ | refine zS (k+1,()) ?_ ?_ ⟨rfl, qL, qL⟩ | exact zz0 | exact rfl | omega | refine zAc.int ?_ | fail)
  ·have : zZ6 s.data.toList = (k : Int) := by
    unfold zZ6;rw [show s.data.toList.findIdx? (fun b => !byB b.toNat) = some k from ?_];rw [List.findIdx?_eq_some_iff_getElem];refine ⟨by omega, ?_, fun j hj => ?_⟩
    ·rw [zz2, List.getElem?_eq_getElem (by omega)] at h9
     simp only [Option.getD_some] at h9;rw [h9, hc]; rfl
    ·have := h5 j hj
     rw [zz2, List.getElem?_eq_getElem (by omega)] at this;simpa using this
   rw [this]
  ·refine ⟨by simp only; omega, fun j hj => ?_⟩
   simp only at hj;by_cases hjk : j = k
   ·subst hjk; rw [h9]; simpa using hc
   ·exact h5 j (by omega)
theorem K195 : FnOK Tryz.prog 195 (fun ds d => ∃ s, Asc s ∧ ds = [.str s, .fn 194 []] ∧ d = eInt (zZ6 s.data.toList)) := by
 refine zAa Tryz.call195 Tryz.func195 rfl Tryz.ntmps195 ?_
 rintro ds d ⟨s, hs, rfl, rfl⟩
 refine ⟨by simp, fun w0 => ?_⟩
 repeat' (first | apply zC | apply zA | apply zB | refine zF qS qR ?_ ?_ | refine zM K227 qD ?_ ⟨s, hs, rfl, rfl⟩ qS ?_ | refine zI qR ?_ | exact zz0 | exact rfl | refine zAc.int ?_ | fail)
theorem zJz (l : List UInt8) : decide (zZ6 l < 0) = l.all fun b => byB b.toNat := by
 unfold zZ6
 cases h : l.findIdx? (fun b => !byB b.toNat) with
 | none =>
  rw [List.findIdx?_eq_none_iff] at h
  have : (l.all fun b => byB b.toNat) = true := by
   rw [List.all_eq_true]; intro b hb; simpa using h b hb
  rw [this]; rfl
 | some i =>
  have : (l.all fun b => byB b.toNat) = false := by
   rw [List.findIdx?_eq_some_iff_getElem] at h;obtain ⟨hi, h1, _⟩ := h;rw [List.all_eq_false];exact ⟨l[i], List.getElem_mem hi, by simpa using h1⟩
  rw [this];exact decide_eq_false (show ¬ ((i : Int) < 0) by omega)
theorem K146 : FnOK Tryz.prog 146 (fun ds d => ∃ s, Asc s ∧ ds = [.str s] ∧ d = .bool (zWu s)) := by
 refine zAa Tryz.call146 Tryz.func146 rfl Tryz.ntmps146 ?_
 rintro ds d ⟨s, hs, rfl, rfl⟩
 refine ⟨by simp, fun w0 => ?_⟩
 have h2 : (s != (⟨#[]⟩ : ByteArray)) = decide (1 ≤ (s.size : Int)) := by
  by_cases hz : s = (⟨#[]⟩ : ByteArray)
  ·subst hz; rfl
  ·have h3 : 1 ≤ (s.size : Int) := by
    have : s.size ≠ 0 := fun hc => hz (by
     obtain ⟨x⟩ := s;have : x.size = 0 := hc;rw [Array.eq_empty_of_size_eq_zero this])
    omega
   rw [decide_eq_true h3]; simpa [bne] using hz
 repeat' (first | apply zC | apply zA | apply zB | refine zF (by simp only [go_sem, h2, zJz]; rfl) qR ?_ ?_ | refine zV 11 qR (by simp only [go_sem, h2, zJz]; rfl) K195 (by simp only [go_sem, h2, zJz]; first | done | rfl) (fun hg => ?_) (fun _ => ⟨s, hs, rfl, rfl⟩) (by simp only [go_sem, h2, zJz]; rfl) ?_ | refine zI qR ?_ | exact zz0 | exact rfl | refine zAc.bool ?_ | exact qP | fail)
 all_goals (rw [zWu, ← h2]; rfl)
def zHy (c : Course) : Bool := zWu c.Code && (decide (1 ≤ c.School) && decide (c.School ≤ 8))
theorem K97 : FnOK Tryz.prog 97 (fun ds d => ∃ c : Course, Asc c.Code ∧ ds = [zAe c] ∧ d = .bool (zHy c)) := by
 refine zAa Tryz.call97 Tryz.func97 rfl Tryz.ntmps97 ?_
 rintro ds d ⟨c, hc, rfl, rfl⟩
 refine ⟨by simp, fun w0 => ?_⟩
 repeat' (first | apply zC | apply zA | apply zB | refine zF qS qR ?_ ?_ | refine zM K94 qD ?_ ⟨_, _, _, rfl, rfl⟩ qS ?_ | refine zV 6 qR qS K146 qD (fun hg => ?_) (fun _ => ⟨c.Code, hc, rfl, rfl⟩) qS ?_ | refine zI qR ?_ | exact zz0 | exact rfl | refine zAc.bool ?_ | exact qP | fail)
 all_goals rw [zHy, Bool.and_comm]
def zMg (a b : Course) : Bool := decide (a.School < b.School) || (a.School == b.School && Op.bytesLess a.Code.toList b.Code.toList)
def yFw (a b : ByteArray) : Int := if Op.bytesLess a.toList b.toList then -1 else if a.toList = b.toList then 0 else 1
theorem K147 : FnOK Tryz.prog 147 (fun ds d => ∃ a b, ds = [.str a, .str b] ∧ d = eInt (yFw a b)) := by
 refine zAa Tryz.call147 Tryz.func147 rfl Tryz.ntmps147 ?_
 rintro ds d ⟨a, b, rfl, rfl⟩
 refine ⟨by simp, fun w0 => ?_⟩
 repeat' (first | apply zC | apply zG | apply zA | apply zB | refine zF qS qR ?_ ?_ | refine zM K196 qD ?_ ⟨_, rfl, rfl⟩ qS ?_ | (refine zE qS ?_ ?_ <;> intro hb <;> have hc := hb <;> (try simp only [bF] at hc) <;> (try (exfalso; simp at hc; done))) | refine zI qR ?_ | exact zz0 | exact rfl | refine zAc.int ?_ | fail)
 all_goals simp_all [yFw]
def yGx (a b : Course) : Int := if zO1 a.School b.School = 0 then yFw a.Code b.Code else zO1 a.School b.School
theorem zFj (a b : Course) : decide (0 ≤ yGx a b) = !zMg a b := by
 unfold yGx zO1 zMg yFw
 by_cases h1 : a.School < b.School
 ·have : ¬ a.School = b.School := by omega
  simp [h1, this]
 ·by_cases h2 : b.School < a.School
  ·have : ¬ a.School = b.School := by omega
   simp [h1, h2, this]
  ·have : a.School = b.School := by omega
   simp only [h1, h2, this];cases Op.bytesLess a.Code.toList b.Code.toList <;> by_cases h9 : a.Code.toList = b.Code.toList <;> simp [h9]
theorem K124 : FnOK Tryz.prog 124 (fun ds d => ∃ x y : Int, ds = [ints [x, y]] ∧ d = eInt (if x = 0 then y else x)) := by
 refine zAa Tryz.call124 Tryz.func124 rfl Tryz.ntmps124 ?_
 rintro ds d ⟨x, y, rfl, rfl⟩
 refine ⟨by simp, fun w0 => ?_⟩
 repeat' (first | apply zC | apply zD | apply zA | apply zB | refine zF qS qR ?_ ?_ | exact zz0 | exact rfl | fail)
 refine zN [0] (fun i : Nat × Unit => [(6, ints [x, y]), (7, .int .i64 2), (8, .int .i64 i.1), (3, .int .i64 0)]) (fun i : Nat × Unit => []) (fun i : Nat × Unit => i.1 ≤ 2 ∧ (0 < i.1 → x = 0) ∧ (1 < i.1 → y = 0)) (fun i : Nat × Unit => 2 - i.1) (0, ()) (fun x => qS) ?_ qL qL ?_
 ·exact ⟨by decide, by simp, by simp⟩
 rintro ⟨k, _⟩ ⟨h1, h2, h3⟩
 simp only at h1 h2 h3
 match k, h1 with
 | 0, _ =>
  repeat' (first | apply zC | apply zG | apply zD | apply zL | apply zA | apply zB | refine zF qS qR ?_ ?_ | (refine zE qS ?_ ?_ <;> intro hb <;> have hc := hb <;> (try simp only [bF] at hc) <;> (try (exfalso; simp at hc; done))) | refine zI qR ?_ | refine zS (1,()) ?_ ?_ ⟨rfl, qL, qL⟩ | exact zz0 | exact rfl | omega | refine zAc.int ?_ | exact qP | fail)
  all_goals first | (rw [if_neg hc]; done) | exact ⟨by decide, fun _ => by simpa using hb, by simp⟩
 | 1, _ =>
  have h2 := h2 (by decide)
  repeat' (first | apply zC | apply zG | apply zD | apply zL | apply zA | apply zB | refine zF qS qR ?_ ?_ | (refine zE qS ?_ ?_ <;> intro hb <;> have hc := hb <;> (try simp only [bF] at hc) <;> (try (exfalso; simp at hc; done))) | refine zI qR ?_ | refine zS (2,()) ?_ ?_ ⟨rfl, qL, qL⟩ | exact zz0 | exact rfl | omega | refine zAc.int ?_ | exact qP | fail)
  all_goals first | (rw [if_pos h2]; done) | exact ⟨by decide, fun _ => h2, fun _ => by simpa using hb⟩
 | 2, _ =>
  have h2 := h2 (by decide);have h3 := h3 (by decide)
  repeat' (first | apply zC | apply zA | apply zB | refine zF qS qR ?_ ?_ | (refine zE qS ?_ ?_ <;> intro hb <;> have hc := hb <;> (try simp only [bF] at hc) <;> (try (exfalso; simp at hc; done))) | refine zI qR ?_ | refine zK qR ?_ | exact zz0 | exact rfl | omega | refine zAc.int ?_ | fail)
  all_goals (rw [if_pos h2, h3])
theorem K98 : FnOK Tryz.prog 98 (fun ds d => ∃ a b : Course, ds = [zAe a, zAe b] ∧ d = eInt (yGx a b)) := by
 refine zAa Tryz.call98 Tryz.func98 rfl Tryz.ntmps98 ?_
 rintro ds d ⟨a, b, rfl, rfl⟩
 refine ⟨by simp, fun w0 => ?_⟩
 repeat' (first | apply zC | apply zA | apply zP | apply zB | refine zF qS qR ?_ ?_ | refine zU qS qR ?_ ?_ | refine zQ qK qK ?_ | refine zX yHg qD ?_ ⟨_, _, rfl, rfl⟩ qS ?_ | refine zX K147 qD ?_ ⟨_, _, rfl, rfl⟩ qS ?_ | refine zX K124 qD ?_ ⟨_, _, rfl, rfl⟩ qS ?_ | refine zI qR ?_ | exact zz0 | exact rfl | refine zAc.int ?_ | fail)
end Go.Sx
namespace Go.Sx
open Go.Proofs Go.RowKit
attribute [local irreducible] Run zAi zAy zAc SLe OLe
set_option maxHeartbeats 2000000
set_option maxRecDepth 8000
def zGc (n : Need) : Prop := ∀ c ∈ n.Set, Asc c.Code
theorem zGc.get {n : Need} (h : zGc n) {i : Nat} (hi : i < n.Set.length) : Asc (n.Set.getD i default).Code := by
 refine h _ ?_
 rw [zz2, List.getElem?_eq_getElem hi]
 exact List.getElem_mem hi
def yDf (l : List Course) : Bool := (List.range l.length).all fun j => j == 0 || zMg (l.getD (j - 1) default) (l.getD j default)
theorem zRx (l : List Course) : yDf l = true ↔ ∀ j, 1 ≤ j → j < l.length → zMg (l.getD (j - 1) default) (l.getD j default) = true := by
 simp only [yDf, List.all_eq_true, List.mem_range, Bool.or_eq_true, beq_iff_eq]
 constructor
 ·intro h j h1 h2
  rcases h j h2 with h3 | h3
  ·omega
  ·exact h3
 ·intro h j h1
  by_cases h2 : j = 0
  ·exact .inl h2
  ·exact .inr (h j (by omega) h1)
theorem yCc {l : List Course} {j : Nat} (h1 : 1 ≤ j) (h2 : j < l.length) (h3 : zMg (l.getD (j - 1) default) (l.getD j default) = false) : yDf l = false := by
 cases h : yDf l
 ·rfl
 ·rw [(zRx l).1 h j h1 h2] at h3; cases h3
def zDe (n : Need) : Int :=
 if !(decide (-1000 ≤ n.Min) && decide (n.Min ≤ 1000)) then 3
 else if !(decide (1 ≤ (n.Set.length : Int)) && decide ((n.Set.length : Int) ≤ 12)) then 2
 else if n.Set.any (fun c => !zHy c) then 1
 else if yDf n.Set then 0 else 7
theorem K226 : FnOK Tryz.prog 226 (fun ds d => ∃ c : Course, Asc c.Code ∧ ds = [zAe c] ∧ d = .bool (!zHy c)) := by
 refine zAa Tryz.call226 Tryz.func226 rfl Tryz.ntmps226 ?_
 rintro ds d ⟨c, hc, rfl, rfl⟩
 refine ⟨by simp, fun w0 => ?_⟩
 repeat' (first | apply zC | apply zA | apply zB | refine zF qS qR ?_ ?_ | refine zM K97 qD ?_ ⟨c, hc, rfl, rfl⟩ qS ?_ | refine zI qR ?_ | exact zz0 | exact rfl | exact zAc.bool rfl | fail)
theorem K190 : FnOK Tryz.prog 190 (fun ds d => ∃ n : Need, zGc n ∧ ds = [zDz n] ∧ d = eInt (zDe n)) := by
 refine zAa Tryz.call190 Tryz.func190 rfl Tryz.ntmps190 ?_
 rintro ds d ⟨n, hn, rfl, rfl⟩
 refine ⟨by simp, fun w0 => ?_⟩
 refine yE 0 3 rfl (by rw [zB5]; rfl) fun hl => ?_
 have hp : ∀ i, i < n.Set.length → FnV Tryz.prog 226 [] [zAe (n.Set.getD i default)] (.bool (!zHy (n.Set.getD i default))) := fun i hi => ⟨_, K226, _, hn.get hi, rfl, rfl⟩
 repeat' (first | apply zC | apply zG | apply zD | apply zL | apply zA | apply zB | refine zF qS qR ?_ ?_ | refine zM K94 qD ?_ ⟨_, _, _, rfl, rfl⟩ qS ?_ | refine zM K225 qD ?_ ⟨n.Set, 226, [], (fun c => !zHy c), hp, rfl, rfl⟩ qS ?_ | (refine zE qS ?_ ?_ <;> intro hb <;> have hc := hb <;> (try simp only [bF] at hc) <;> (try (exfalso; simp at hc; done))) | refine zI qR ?_ | exact zz0 | exact rfl | refine zAc.int ?_ | fail)
 ·simp only [zDe]; rw [if_pos hb]
 ·rename_i h1 _; simp only [zDe]; rw [if_neg (by rw [h1]; simp), if_pos hb]
 ·rename_i h1 _ h2 _
  have h3 : (n.Set.any fun c => !zHy c) = false := hc;refine zN [0, 1, 22, 23] (fun x : Nat × Unit => [(24, .int .i64 x.1)]) (fun x : Nat × Unit => []) (fun x : Nat × Unit => x.1 ≤ n.Set.length ∧ ∀ j, 1 ≤ j → j < x.1 → zMg (n.Set.getD (j - 1) default) (n.Set.getD j default) = true) (fun x : Nat × Unit => n.Set.length - x.1) (0, ()) (fun x => qS) ?_ qL qL ?_
  ·exact ⟨Nat.zero_le _, fun j h1 h2 => absurd h2 (by simp)⟩
  rintro ⟨k, _⟩ ⟨g1, g2⟩;simp only at g1 g2;have e2 : 0 < k → IntKind.i64.wrap ((k : Int) - 1) = ((k - 1 : Nat) : Int) := fun h => by rw [w64]; omega
  repeat' (first | apply zC | apply zA | apply zB | refine zF qS qR ?_ ?_ | exact zz0 | exact rfl | fail)
  (refine zE qS ?_ ?_ <;> intro hb <;> have hc := hb <;> (try simp only [bF] at hc) <;> (try (exfalso; simp at hc; done)))
  ·have hk : k < n.Set.length := by assumption
   by_cases hk0 : k = 0
   ·subst hk0
    repeat' (first | apply zC | apply zG | apply zD | apply zL | apply zA | apply zP | apply zB | refine zF qS qR ?_ ?_ | refine zU qS qR ?_ ?_ | refine zQ qK qK ?_ | refine zBx 31 qR qS K98 qD (fun hg => ?_) (fun _ => ⟨_, _, rfl, rfl⟩) qS ?_ | (refine zE qS ?_ ?_ <;> intro hb <;> have hc := hb <;> (try simp only [bF] at hc) <;> (try (exfalso; simp at hc; done))) | refine zS (1,()) ?_ ?_ ⟨rfl, qL, qL⟩ | exact zz0 | exact rfl | omega | exact qP | fail)
    exact ⟨by simp only; omega, fun j h1 h2 => absurd h2 (by simp only; omega)⟩
   ·have e1 := e2 (by omega)
    have e3 : decide ((0 : Int) < (k : Int)) = true := decide_eq_true (by omega)
    repeat' (first | apply zC | apply zG | apply zD | apply zL | apply zA | apply zP | apply zB | refine zF (by simp only [go_sem, e1, e3, zFj]; rfl) qR ?_ ?_ | refine zU (by simp only [go_sem, e1, e3, zFj]; rfl) qR ?_ ?_ | refine zQ qK qK ?_ | refine zBx 31 qR (by simp only [go_sem, e1, e3, zFj]; rfl) K98 (by simp only [go_sem, e1, e3, zFj]; first | done | rfl) (fun hg => ?_) (fun _ => ⟨_, _, rfl, rfl⟩) (by simp only [go_sem, e1, e3, zFj]; rfl) ?_ | (refine zE (by simp only [go_sem, e1, e3, zFj]; rfl) ?_ ?_ <;> intro hb <;> have hc := hb <;> (try simp only [bF] at hc) <;> (try (exfalso; simp at hc; done))) | refine zI qR ?_ | refine zS (k+1,()) ?_ ?_ ⟨rfl, qL, qL⟩ | exact zz0 | exact rfl | omega | refine zAc.int ?_ | exact qP | fail)
    ·simp only [zDe]; rw [if_neg (by rw [h1]; simp), if_neg (by rw [h2]; simp), if_neg (by rw [h3]; simp)]
     rw [yCc (j := k) (by omega) hk (by simpa using hb)]; rfl
    ·refine ⟨by simp only; omega, fun j h1 h2 => ?_⟩
     simp only at h2;by_cases hj : j = k
     ·subst hj; simpa using hb
     ·exact g2 j h1 (by omega)
  ·repeat' (first | apply zC | apply zA | apply zB | refine zF qS qR ?_ ?_ | refine zI qR ?_ | refine zK qR ?_ | exact zz0 | exact rfl | refine zAc.int ?_ | fail)
   have h4 : yDf n.Set = true := (zRx _).2 fun j j1 j2 => g2 j j1 (by omega);simp only [zDe]; rw [if_neg (by rw [h1]; simp), if_neg (by rw [h2]; simp), if_neg (by rw [h3]; simp), h4]; rfl
 ·rename_i h1 _ h2 _
  simp only [zDe]; rw [if_neg (by rw [h1]; simp), if_neg (by rw [h2]; simp), if_pos hc]
end Go.Sx
