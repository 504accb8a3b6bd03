/- Part of the proof that the laws of the judge return true for every input: J20. -/
import Derived.Test.YtmbocmonhcplhaaGreatJ19
import Derived.Test.YtmbocmonhcplhaaGreatJ5
import Derived.Test.YtmbocmonhcplhaaGreatJ6
import Derived.Test.YtmbocmonhcplhaaGreatJ7
import Derived.Test.YtmbocmonhcplhaaGreatJ9
import Derived.Test.YtmbocmonhcplhaaGreatJ11
import Derived.Test.YtmbocmonhcplhaaGreatS4
set_option linter.all false
namespace Go.Sx
open Go.Proofs Go.RowKit
attribute [local irreducible] Run RunL RunD SLe0 SLe OLe
set_option maxHeartbeats 2000000
set_option maxRecDepth 8000
def okB (n : Nat) : Prop := (65 ≤ n ∧ n ≤ 90) ∨ (48 ≤ n ∧ n ≤ 57)
structure CodeOk (s : ByteArray) : Prop where
 lo : 1 ≤ s.size
 hi : s.size ≤ 8
 ok : ∀ (i : Nat) (h : i < s.size), okB (s[i]'h).toNat
theorem getD_byte (s : ByteArray) (i : Nat) (h : i < s.size) : (s.data.toList.getD i 0) = s[i]'h := by
 have h' : i < s.data.toList.length := by simpa using h
 rw [List.getD_eq_getElem?_getD, List.getElem?_eq_getElem h']; simp; rfl
theorem K154 : FnOK Tryz.prog 154 (fun ds d => ∃ s, CodeOk s ∧ ds = [.str s] ∧ d = .bool true) := by
 refine fn_intro Tryz.call154 Tryz.func154 rfl Tryz.ntmps154 ?_
 rintro ds d ⟨s, hs, rfl, rfl⟩
 refine ⟨by simp, fun w0 => ?_⟩
 obtain ⟨h1, h2, h3⟩ := hs
 repeat' (first | apply zC | apply zD | apply zA | apply zB | refine zF qS qR ?_ ?_ | exact True.intro | exact rfl | fail)
 refine zM [0] (fun x : Nat × Unit => [(3, .int .i64 x.1)]) (fun x : Nat × Unit => []) (fun x : Nat × Unit => x.1 ≤ s.size) (fun x : Nat × Unit => s.size - x.1) (0, ()) (fun x => qS) ?_ qL qL ?_
 ·exact Nat.zero_le _
 rintro ⟨k, _⟩ h4
 simp only at h4
 repeat' (first | apply zC | apply zA | apply zB | refine zF qS qR ?_ ?_ | exact True.intro | exact rfl | fail)
 (refine zE qS ?_ ?_ <;> intro hb <;> have hc := hb <;> (try simp only [bF] at hc) <;> (try (exfalso; simp at hc; done)))
 ·have h5 := h3 k ‹_›
  rw [← getD_byte s k ‹_›] at h5
  unfold okB at h5
  generalize hz : (s.data.toList.getD k 0).toNat = z at h5
  rcases h5 with h5 | h5
  ·repeat' (first | apply zC | apply zG | apply zD | apply zK | apply zA | apply zB | refine zF (by simp only [go_sem, hz]; rfl) qR ?_ ?_ | (refine zE (by simp only [go_sem, hz]; rfl) ?_ ?_ <;> intro hb <;> have hc := hb <;> (try simp only [bF] at hc) <;> (try (exfalso; simp at hc; done))) | refine zI qR ?_ | refine zR (k+1,()) ?_ ?_ ⟨rfl, qL, qL⟩ | exact True.intro | exact rfl | omega | refine SLe0.bool ?_ | exact qP | fail)
   all_goals (exfalso; simp at hc; omega)
  ·repeat' (first | apply zC | apply zG | apply zD | apply zK | apply zA | apply zB | refine zF (by simp only [go_sem, hz]; rfl) qR ?_ ?_ | (refine zE (by simp only [go_sem, hz]; rfl) ?_ ?_ <;> intro hb <;> have hc := hb <;> (try simp only [bF] at hc) <;> (try (exfalso; simp at hc; done))) | refine zI qR ?_ | refine zR (k+1,()) ?_ ?_ ⟨rfl, qL, qL⟩ | exact True.intro | exact rfl | omega | refine SLe0.bool ?_ | exact qP | fail)
   all_goals (exfalso; simp at hc; omega)
 ·repeat' (first | apply zC | apply zA | apply zB | refine zF qS qR ?_ ?_ | refine zI qR ?_ | refine zJ qR ?_ | exact rfl | refine SLe0.bool ?_ | exact qP | fail)
  all_goals (simp only [Bool.and_eq_true, decide_eq_true_eq]; omega)
theorem tU9s : Tryz.prog.underlying 9 = some .string := by kernel_rfl
theorem K194 : FnOK Tryz.prog 194 (fun ds d => ∃ n : Nat, okB n ∧ ds = [.int .i32 (n : Int)] ∧ d = .bool false) := by
 refine fn_intro Tryz.call194 Tryz.func194 rfl Tryz.ntmps194 ?_
 rintro ds d ⟨n, hn, rfl, rfl⟩
 refine ⟨by simp, fun w0 => ?_⟩
 unfold okB at hn
 rcases hn with hn | hn
 ·repeat' (first | apply zC | apply zA | apply zB | refine zF qS qR ?_ ?_ | refine zI qR ?_ | exact True.intro | exact rfl | refine SLe0.bool ?_ | exact qP | fail)
  all_goals simp
  all_goals omega
 ·repeat' (first | apply zC | apply zA | apply zB | refine zF qS qR ?_ ?_ | refine zI qR ?_ | exact True.intro | exact rfl | refine SLe0.bool ?_ | exact qP | fail)
  all_goals simp
  all_goals omega
theorem K227 : FnOK Tryz.prog 227 (fun ds d => ∃ s, CodeOk s ∧ ds = [.str s, .fn 194 [], .bool true] ∧ d = eInt (-1)) := by
 refine fn_intro Tryz.call227 Tryz.func227 rfl Tryz.ntmps227 ?_
 rintro ds d ⟨s, hs, rfl, rfl⟩
 refine ⟨by simp, fun w0 => ?_⟩
 have h3 := hs.ok
 have h8 : ∀ i (h : i < s.size), (s[i]'h).toNat < 128 := fun i h => by have := h3 i h; unfold okB at this; omega
 repeat' (first | apply zC | apply zA | apply zB | refine zF qS qR ?_ ?_ | exact True.intro | exact rfl | fail)
 refine steprngS qS tU9s qS ?_
 repeat' (first | apply zD | apply zB | fail)
 refine zM [0, 1, 2, 6, 10] (fun x : Nat × Unit => []) (fun x : Nat × Unit => [(0, strIt s x.1)]) (fun x : Nat × Unit => x.1 ≤ s.size) (fun x : Nat × Unit => s.size - x.1) (0, ()) (fun x => qS) ?_ qL qL ?_
 ·exact Nat.zero_le _
 rintro ⟨k, _⟩ h4
 simp only at h4
 repeat' (first | apply zC | apply zA | exact rfl | fail)
 refine stepnxtS qS qS qR h8 (fun h5 => ?_) (fun h5 => ?_)
 ·repeat' (first | apply zC | apply zA | apply zB | refine zF qS qR ?_ ?_ | (refine zE qS ?_ ?_ <;> intro hb <;> have hc := hb <;> (try simp only [bF] at hc) <;> (try (exfalso; simp at hc; done))) | refine zI qR ?_ | refine zJ qR ?_ | exact True.intro | exact rfl | refine SLe0.int ?_ | fail)
 ·have h6 : FnV Tryz.prog 194 [] [.int .i32 ((s[k]'h5).toNat : Int)] (.bool false) := ⟨_, K194, _, h3 k h5, rfl, rfl⟩
  repeat' (first | apply zC | apply zG | apply zD | apply zK | apply zA | apply zB | refine zF qS qR ?_ ?_ | refine yC (h6) qZ qZ ?_ qS ?_ | (refine zE qS ?_ ?_ <;> intro hb <;> have hc := hb <;> (try simp only [bF] at hc) <;> (try (exfalso; simp at hc; done))) | refine zR (k+1,()) ?_ ?_ ⟨rfl, qL, qL⟩ | exact True.intro | exact rfl | omega)
theorem K195 : FnOK Tryz.prog 195 (fun ds d => ∃ s, CodeOk s ∧ ds = [.str s, .fn 194 []] ∧ d = eInt (-1)) := by
 refine fn_intro Tryz.call195 Tryz.func195 rfl Tryz.ntmps195 ?_
 rintro ds d ⟨s, hs, rfl, rfl⟩
 refine ⟨by simp, fun w0 => ?_⟩
 repeat' (first | apply zC | apply zA | apply zB | refine zF qS qR ?_ ?_ | refine zL K227 qD ?_ ⟨s, hs, rfl, rfl⟩ qS ?_ | refine zI qR ?_ | exact True.intro | exact rfl | refine SLe0.int ?_ | fail)
theorem K146 : FnOK Tryz.prog 146 (fun ds d => ∃ s, CodeOk s ∧ ds = [.str s] ∧ d = .bool true) := by
 refine fn_intro Tryz.call146 Tryz.func146 rfl Tryz.ntmps146 ?_
 rintro ds d ⟨s, hs, rfl, rfl⟩
 refine ⟨by simp, fun w0 => ?_⟩
 have h1 : decide (((s.size : Nat) : Int) ≤ 8) = true := decide_eq_true (by have := hs.hi; omega)
 have h2 : (s != (⟨#[]⟩ : ByteArray)) = true := by
  cases hb : (s != (⟨#[]⟩ : ByteArray))
  ·have : s = (⟨#[]⟩ : ByteArray) := by simpa using hb
   subst this
   exact absurd hs.lo (by decide)
  ·rfl
 have h2' : (s == (⟨#[]⟩ : ByteArray)) = false := by simpa [bne] using h2
 repeat' (first | apply zC | apply zA | apply zB | refine zF (by simp only [go_sem, h1, h2, h2']; rfl) qR ?_ ?_ | refine zU 11 qR (by simp only [go_sem, h1, h2, h2']; rfl) K195 (by simp only [go_sem, h1, h2, h2']; first | done | rfl) (fun hg => ?_) (fun _ => ⟨s, hs, rfl, rfl⟩) (by simp only [go_sem, h1, h2, h2']; rfl) ?_ | refine zI qR ?_ | exact True.intro | exact rfl | exact SLe0.bool rfl | exact qP | fail)
def rightR (c : Course) : Bool := decide (1 ≤ c.School) && decide (c.School ≤ 8)
theorem K97 : FnOK Tryz.prog 97 (fun ds d => ∃ c : Course, CodeOk c.Code ∧ ds = [eCourse c] ∧ d = .bool (rightR c)) := by
 refine fn_intro Tryz.call97 Tryz.func97 rfl Tryz.ntmps97 ?_
 rintro ds d ⟨c, hc, rfl, rfl⟩
 refine ⟨by simp, fun w0 => ?_⟩
 repeat' (first | apply zC | apply zA | apply zB | refine zF qS qR ?_ ?_ | refine zL K94 qD ?_ ⟨_, _, _, rfl, rfl⟩ qS ?_ | refine zU 6 qR qS K146 qD (fun hg => ?_) (fun _ => ⟨c.Code, hc, rfl, rfl⟩) qS ?_ | refine zI qR ?_ | exact True.intro | exact rfl | exact SLe0.bool rfl | exact qP | fail)
theorem K109 : FnOK Tryz.prog 109 (fun ds d => ∃ c : Course, CodeOk c.Code ∧ ds = [eCourse c] ∧ d = .bool (rightR c)) := by
 refine fn_intro Tryz.call109 Tryz.func109 rfl Tryz.ntmps109 ?_
 rintro ds d ⟨c, hc, rfl, rfl⟩
 refine ⟨by simp, fun w0 => ?_⟩
 repeat' (first | apply zC | apply zA | apply zB | refine zF qS qR ?_ ?_ | refine zL K154 qD ?_ ⟨c.Code, hc, rfl, rfl⟩ qS ?_ | refine zI qR ?_ | exact True.intro | exact rfl | exact SLe0.bool rfl | exact qP | fail)
def precR (a b : Course) : Bool := decide (a.School < b.School) || (a.School == b.School && Op.bytesLess a.Code.toList b.Code.toList)
def cmpS (a b : ByteArray) : Int := if Op.bytesLess a.toList b.toList then -1 else if a.toList = b.toList then 0 else 1
theorem K147 : FnOK Tryz.prog 147 (fun ds d => ∃ a b, ds = [.str a, .str b] ∧ d = eInt (cmpS a b)) := by
 refine fn_intro Tryz.call147 Tryz.func147 rfl Tryz.ntmps147 ?_
 rintro ds d ⟨a, b, rfl, rfl⟩
 refine ⟨by simp, fun w0 => ?_⟩
 repeat' (first | apply zC | apply zG | apply zA | apply zB | refine zF qS qR ?_ ?_ | refine zL K196 qD ?_ ⟨_, rfl, rfl⟩ qS ?_ | (refine zE qS ?_ ?_ <;> intro hb <;> have hc := hb <;> (try simp only [bF] at hc) <;> (try (exfalso; simp at hc; done))) | refine zI qR ?_ | exact True.intro | exact rfl | refine SLe0.int ?_ | fail)
 all_goals simp_all [cmpS]
def cmpC (a b : Course) : Int := if cmpI a.School b.School = 0 then cmpS a.Code b.Code else cmpI a.School b.School
theorem cmpC_ge (a b : Course) : decide (0 ≤ cmpC a b) = !precR a b := by
 unfold cmpC cmpI precR cmpS
 by_cases h1 : a.School < b.School
 ·have : ¬ a.School = b.School := by omega
  simp [h1, this]
 ·by_cases h2 : b.School < a.School
  ·have : ¬ a.School = b.School := by omega
   simp [h1, h2, this]
  ·have : a.School = b.School := by omega
   simp only [h1, h2, this]
   cases Op.bytesLess a.Code.toList b.Code.toList <;> by_cases h9 : a.Code.toList = b.Code.toList <;> simp [h9]
theorem K124 : FnOK Tryz.prog 124 (fun ds d => ∃ x y : Int, ds = [ints [x, y]] ∧ d = eInt (if x = 0 then y else x)) := by
 refine fn_intro Tryz.call124 Tryz.func124 rfl Tryz.ntmps124 ?_
 rintro ds d ⟨x, y, rfl, rfl⟩
 refine ⟨by simp, fun w0 => ?_⟩
 repeat' (first | apply zC | apply zD | apply zA | apply zB | refine zF qS qR ?_ ?_ | exact True.intro | exact rfl | fail)
 refine zM [0] (fun i : Nat × Unit => [(6, ints [x, y]), (7, .int .i64 2), (8, .int .i64 i.1), (3, .int .i64 0)]) (fun i : Nat × Unit => []) (fun i : Nat × Unit => i.1 ≤ 2 ∧ (0 < i.1 → x = 0) ∧ (1 < i.1 → y = 0)) (fun i : Nat × Unit => 2 - i.1) (0, ()) (fun x => qS) ?_ qL qL ?_
 ·exact ⟨by decide, by simp, by simp⟩
 rintro ⟨k, _⟩ ⟨h1, h2, h3⟩
 simp only at h1 h2 h3
 match k, h1 with
 | 0, _ =>
  repeat' (first | apply zC | apply zG | apply zD | apply zK | apply zA | apply zB | refine zF qS qR ?_ ?_ | (refine zE qS ?_ ?_ <;> intro hb <;> have hc := hb <;> (try simp only [bF] at hc) <;> (try (exfalso; simp at hc; done))) | refine zI qR ?_ | refine zR (1,()) ?_ ?_ ⟨rfl, qL, qL⟩ | exact True.intro | exact rfl | omega | refine SLe0.int ?_ | exact qP | fail)
  all_goals first | (rw [if_neg hc]; done) | exact ⟨by decide, fun _ => by simpa using hb, by simp⟩
 | 1, _ =>
  have h2 := h2 (by decide)
  repeat' (first | apply zC | apply zG | apply zD | apply zK | apply zA | apply zB | refine zF qS qR ?_ ?_ | (refine zE qS ?_ ?_ <;> intro hb <;> have hc := hb <;> (try simp only [bF] at hc) <;> (try (exfalso; simp at hc; done))) | refine zI qR ?_ | refine zR (2,()) ?_ ?_ ⟨rfl, qL, qL⟩ | exact True.intro | exact rfl | omega | refine SLe0.int ?_ | exact qP | fail)
  all_goals first | (rw [if_pos h2]; done) | exact ⟨by decide, fun _ => h2, fun _ => by simpa using hb⟩
 | 2, _ =>
  have h2 := h2 (by decide)
  have h3 := h3 (by decide)
  repeat' (first | apply zC | apply zA | apply zB | refine zF qS qR ?_ ?_ | (refine zE qS ?_ ?_ <;> intro hb <;> have hc := hb <;> (try simp only [bF] at hc) <;> (try (exfalso; simp at hc; done))) | refine zI qR ?_ | refine zJ qR ?_ | exact True.intro | exact rfl | omega | refine SLe0.int ?_ | fail)
  all_goals (rw [if_pos h2, h3])
theorem K98 : FnOK Tryz.prog 98 (fun ds d => ∃ a b : Course, ds = [eCourse a, eCourse b] ∧ d = eInt (cmpC a b)) := by
 refine fn_intro Tryz.call98 Tryz.func98 rfl Tryz.ntmps98 ?_
 rintro ds d ⟨a, b, rfl, rfl⟩
 refine ⟨by simp, fun w0 => ?_⟩
 repeat' (first | apply zC | apply zA | apply zO | apply zB | refine zF qS qR ?_ ?_ | refine zT qS qR ?_ ?_ | refine zP qK qK ?_ | refine zW K125 qD ?_ ⟨_, _, rfl, rfl⟩ qS ?_ | refine zW K147 qD ?_ ⟨_, _, rfl, rfl⟩ qS ?_ | refine zW K124 qD ?_ ⟨_, _, rfl, rfl⟩ qS ?_ | refine zI qR ?_ | exact True.intro | exact rfl | refine SLe0.int ?_ | fail)
end Go.Sx
