/- Part of the proof that the laws of the judge return true for every input: J5, J6, J7, J8a. -/
import Derived.Test.YtmbocmonhcplhaaGreatJ4
set_option linter.all false
namespace Go.Sx
open Go.Proofs Go.RowKit
attribute [local irreducible] Run zAi zAy zAc SLe OLe
set_option maxHeartbeats 2000000
set_option maxRecDepth 8000
theorem A137 : zKz Tryz.prog 137 (fun ds T es n g => ∃ l, ds = [ints l] ∧ T = 3 ∧ es = 1 ∧ n = l.length ∧ g = fun i => eInt (l.getD i default)) := by
 refine zE3 Tryz.call137 Tryz.func137 rfl Tryz.ntmps137 ?_
 rintro ds T es n g ⟨l, rfl, rfl, rfl, rfl, rfl⟩
 refine ⟨by simp, fun w0 => ?_⟩
 refine zB3 0 rfl fun hl => ?_
 rcases l with _ | ⟨x, r⟩
 ·repeat' (first | apply zC | apply zG | apply zA | apply zB | refine zF qS qR ?_ ?_ | refine yG qS qZ qZ (fun bn hbn => ?_) | (refine zE qS ?_ ?_ <;> intro hb <;> have hc := hb <;> (try simp only [bF] at hc) <;> (try (exfalso; simp at hc; done))) | refine zCw qR qR qR ?_ ?_ | refine zFz qR qR ?_ | exact zz0 | exact rfl | omega | exact qP | fail)
  all_goals first | exact hbn hc | exact rfl | (intro i hi; exact absurd hi (by simp)) | (intro i _; simp only [zA3, Nat.not_lt_zero, if_false, Nat.sub_zero]; rfl)
 ·have hl' : r.length + 1 ≤ 68719476736 := by simpa using hl
  repeat' (first | apply zC | apply zG | apply zA | apply zB | refine zF qS qR ?_ ?_ | (refine zE qS ?_ ?_ <;> intro hb <;> have hc := hb <;> (try simp only [bF] at hc) <;> (try (exfalso; simp at hc; done))) | refine zCw qR qR qR ?_ ?_ | exact zz0 | exact rfl | exact qP | fail)
  all_goals first | (show zAn _; simp only [zAn]; omega) | (simp only [List.length_cons]; omega) | (intro i _; simp only [zA3, Nat.not_lt_zero, if_false, Nat.sub_zero]; rfl)
theorem K137 : FnOK Tryz.prog 137 (fun ds d => ∃ l, ds = [ints l] ∧ d = ints l) :=
 A137.toOK.weaken fun ds d h => by
  obtain ⟨l, rfl, rfl⟩ := h;exact ⟨_, _, _, _, ⟨l, rfl, rfl, rfl, rfl, rfl⟩, rfl⟩
theorem A138 : zKz Tryz.prog 138 (fun ds T es n g => ∃ l, ds = [strs l] ∧ T = 9 ∧ es = 1 ∧ n = l.length ∧ g = fun i => eStr (l.getD i default)) := by
 refine zE3 Tryz.call138 Tryz.func138 rfl Tryz.ntmps138 ?_
 rintro ds T es n g ⟨l, rfl, rfl, rfl, rfl, rfl⟩
 refine ⟨by simp, fun w0 => ?_⟩
 refine zB3 0 rfl fun hl => ?_
 rcases l with _ | ⟨x, r⟩
 ·repeat' (first | apply zC | apply zG | apply zA | apply zB | refine zF qS qR ?_ ?_ | refine yG qS qZ qZ (fun bn hbn => ?_) | (refine zE qS ?_ ?_ <;> intro hb <;> have hc := hb <;> (try simp only [bF] at hc) <;> (try (exfalso; simp at hc; done))) | refine zCw qR qR qR ?_ ?_ | refine zFz qR qR ?_ | exact zz0 | exact rfl | omega | exact qP | fail)
  all_goals first | exact hbn hc | exact rfl | (intro i hi; exact absurd hi (by simp)) | (intro i _; simp only [zA3, Nat.not_lt_zero, if_false, Nat.sub_zero]; rfl)
 ·have hl' : r.length + 1 ≤ 68719476736 := by simpa using hl
  repeat' (first | apply zC | apply zG | apply zA | apply zB | refine zF qS qR ?_ ?_ | (refine zE qS ?_ ?_ <;> intro hb <;> have hc := hb <;> (try simp only [bF] at hc) <;> (try (exfalso; simp at hc; done))) | refine zCw qR qR qR ?_ ?_ | exact zz0 | exact rfl | exact qP | fail)
  all_goals first | (show zAn _; simp only [zAn]; omega) | (simp only [List.length_cons]; omega) | (intro i _; simp only [zA3, Nat.not_lt_zero, if_false, Nat.sub_zero]; rfl)
theorem K138 : FnOK Tryz.prog 138 (fun ds d => ∃ l, ds = [strs l] ∧ d = strs l) :=
 A138.toOK.weaken fun ds d h => by
  obtain ⟨l, rfl, rfl⟩ := h;exact ⟨_, _, _, _, ⟨l, rfl, rfl, rfl, rfl, rfl⟩, rfl⟩
theorem A223 : zKz Tryz.prog 223 (fun ds T es n g => ∃ l, ds = [zAo 2 zAe l] ∧ T = 63 ∧ es = 2 ∧ n = l.length ∧ g = fun i => zAe (l.getD i default)) := by
 refine zE3 Tryz.call223 Tryz.func223 rfl Tryz.ntmps223 ?_
 rintro ds T es n g ⟨l, rfl, rfl, rfl, rfl, rfl⟩
 refine ⟨by simp, fun w0 => ?_⟩
 refine zB3 0 rfl fun hl => ?_
 rcases l with _ | ⟨x, r⟩
 ·repeat' (first | apply zC | apply zG | apply zA | apply zB | refine zF qS qR ?_ ?_ | refine yG qS qZ qZ (fun bn hbn => ?_) | (refine zE qS ?_ ?_ <;> intro hb <;> have hc := hb <;> (try simp only [bF] at hc) <;> (try (exfalso; simp at hc; done))) | refine zCw qR qR qR ?_ ?_ | refine zFz qR qR ?_ | exact zz0 | exact rfl | omega | exact qP | fail)
  all_goals first | exact hbn hc | exact rfl | (intro i hi; exact absurd hi (by simp)) | (intro i _; simp only [zA3, Nat.not_lt_zero, if_false, Nat.sub_zero]; rfl)
 ·have hl' : r.length + 1 ≤ 68719476736 := by simpa using hl
  repeat' (first | apply zC | apply zG | apply zA | apply zB | refine zF qS qR ?_ ?_ | (refine zE qS ?_ ?_ <;> intro hb <;> have hc := hb <;> (try simp only [bF] at hc) <;> (try (exfalso; simp at hc; done))) | refine zCw qR qR qR ?_ ?_ | exact zz0 | exact rfl | exact qP | fail)
  all_goals first | (show zAn _; simp only [zAn]; omega) | (simp only [List.length_cons]; omega) | (intro i _; simp only [zA3, Nat.not_lt_zero, if_false, Nat.sub_zero]; rfl)
theorem K223 : FnOK Tryz.prog 223 (fun ds d => ∃ l, ds = [zAo 2 zAe l] ∧ d = zAo 2 zAe l) :=
 A223.toOK.weaken fun ds d h => by
  obtain ⟨l, rfl, rfl⟩ := h;exact ⟨_, _, _, _, ⟨l, rfl, rfl, rfl, rfl, rfl⟩, rfl⟩
theorem A27 : zKz Tryz.prog 27 (fun ds T es n g => ∃ l, ds = [zAo 8 zBp l] ∧ T = 65 ∧ es = 8 ∧ n = l.length ∧ g = fun i => zBp (l.getD i default)) := by
 refine zE3 Tryz.call27 Tryz.func27 rfl Tryz.ntmps27 ?_
 rintro ds T es n g ⟨l, rfl, rfl, rfl, rfl, rfl⟩
 refine ⟨by simp, fun w0 => ?_⟩
 refine zB3 0 rfl fun hl => ?_
 rcases l with _ | ⟨x, r⟩
 ·repeat' (first | apply zC | apply zG | apply zA | apply zB | refine zF qS qR ?_ ?_ | refine yG qS qZ qZ (fun bn hbn => ?_) | (refine zE qS ?_ ?_ <;> intro hb <;> have hc := hb <;> (try simp only [bF] at hc) <;> (try (exfalso; simp at hc; done))) | refine zCw qR qR qR ?_ ?_ | refine zFz qR qR ?_ | exact zz0 | exact rfl | omega | exact qP | fail)
  all_goals first | exact hbn hc | exact rfl | (intro i hi; exact absurd hi (by simp)) | (intro i _; simp only [zA3, Nat.not_lt_zero, if_false, Nat.sub_zero]; rfl)
 ·have hl' : r.length + 1 ≤ 68719476736 := by simpa using hl
  repeat' (first | apply zC | apply zG | apply zA | apply zB | refine zF qS qR ?_ ?_ | (refine zE qS ?_ ?_ <;> intro hb <;> have hc := hb <;> (try simp only [bF] at hc) <;> (try (exfalso; simp at hc; done))) | refine zCw qR qR qR ?_ ?_ | exact zz0 | exact rfl | exact qP | fail)
  all_goals first | (show zAn _; simp only [zAn]; omega) | (simp only [List.length_cons]; omega) | (intro i _; simp only [zA3, Nat.not_lt_zero, if_false, Nat.sub_zero]; rfl)
theorem K79 : FnOK Tryz.prog 79 (fun ds d => ∃ l f caps p, (∀ i, i < l.length → FnV Tryz.prog f caps [zC7 (l.getD i default)] (.bool (p (l.getD i default)))) ∧ ds = [zAo 5 zC7 l, .fn f caps] ∧ d = eInt (zEv p l 0)) := by
 refine zAa Tryz.call79 Tryz.func79 rfl Tryz.ntmps79 ?_
 rintro ds d ⟨l, f, caps, p, hp, rfl, rfl⟩
 refine ⟨by simp, fun w0 => ?_⟩
 refine zB3 0 rfl fun hl => ?_
 repeat' (first | apply zC | apply zD | apply zA | apply zB | refine zF qS qR ?_ ?_ | exact zz0 | exact rfl | fail)
 refine zN [0, 1, 6, 7] (fun k : Nat => [(8, .int .i64 k)]) (fun k : Nat => []) (fun k : Nat => k ≤ l.length ∧ zEv p l 0 = zEv p (l.drop k) k) (fun k : Nat => l.length - k) 0 (fun x => qS) ?_ qL qL ?_
 ·exact ⟨Nat.zero_le _, rfl⟩
 rintro k ⟨h1, h2⟩
 repeat' (first | apply zC | apply zG | apply zD | apply zL | apply zA | apply zB | refine zF qS qR ?_ ?_ | refine yD (hp k (by assumption)) qZ qZ ?_ qS ?_ | (refine zE qS ?_ ?_ <;> intro hb <;> have hc := hb <;> (try simp only [bF] at hc) <;> (try (exfalso; simp at hc; done))) | refine zI qR ?_ | refine zK qR ?_ | refine zS (k+1) ?_ ?_ ⟨rfl, qL, qL⟩ | exact zz0 | exact rfl | omega | refine zAc.int ?_ | exact qP | fail)
 ·rw [h2, zBd _ _ _ ‹k < _›, if_pos hb]
 ·exact ⟨by omega, by rw [h2, zBd _ _ _ ‹k < _›, if_neg (by rw [Bool.not_eq_true]; exact hb)]⟩
 ·rw [h2, zEf _ _ _ (by omega)]
theorem K101 : FnOK Tryz.prog 101 (fun ds d => ∃ l f caps p, (∀ i, i < l.length → FnV Tryz.prog f caps [zBp (l.getD i default)] (.bool (p (l.getD i default)))) ∧ ds = [zAo 8 zBp l, .fn f caps] ∧ d = eInt (zEv p l 0)) := by
 refine zAa Tryz.call101 Tryz.func101 rfl Tryz.ntmps101 ?_
 rintro ds d ⟨l, f, caps, p, hp, rfl, rfl⟩
 refine ⟨by simp, fun w0 => ?_⟩
 refine zB3 0 rfl fun hl => ?_
 repeat' (first | apply zC | apply zD | apply zA | apply zB | refine zF qS qR ?_ ?_ | exact zz0 | exact rfl | fail)
 refine zN [0, 1, 6, 7] (fun k : Nat => [(8, .int .i64 k)]) (fun k : Nat => []) (fun k : Nat => k ≤ l.length ∧ zEv p l 0 = zEv p (l.drop k) k) (fun k : Nat => l.length - k) 0 (fun x => qS) ?_ qL qL ?_
 ·exact ⟨Nat.zero_le _, rfl⟩
 rintro k ⟨h1, h2⟩
 repeat' (first | apply zC | apply zG | apply zD | apply zL | apply zA | apply zB | refine zF qS qR ?_ ?_ | refine yD (hp k (by assumption)) qZ qZ ?_ qS ?_ | (refine zE qS ?_ ?_ <;> intro hb <;> have hc := hb <;> (try simp only [bF] at hc) <;> (try (exfalso; simp at hc; done))) | refine zI qR ?_ | refine zK qR ?_ | refine zS (k+1) ?_ ?_ ⟨rfl, qL, qL⟩ | exact zz0 | exact rfl | omega | refine zAc.int ?_ | exact qP | fail)
 ·rw [h2, zBd _ _ _ ‹k < _›, if_pos hb]
 ·exact ⟨by omega, by rw [h2, zBd _ _ _ ‹k < _›, if_neg (by rw [Bool.not_eq_true]; exact hb)]⟩
 ·rw [h2, zEf _ _ _ (by omega)]
theorem K141 : FnOK Tryz.prog 141 (fun ds d => ∃ l f caps p, (∀ i, i < l.length → FnV Tryz.prog f caps [zIh (l.getD i default)] (.bool (p (l.getD i default)))) ∧ ds = [zAo 2 zIh l, .fn f caps] ∧ d = eInt (zEv p l 0)) := by
 refine zAa Tryz.call141 Tryz.func141 rfl Tryz.ntmps141 ?_
 rintro ds d ⟨l, f, caps, p, hp, rfl, rfl⟩
 refine ⟨by simp, fun w0 => ?_⟩
 refine zB3 0 rfl fun hl => ?_
 repeat' (first | apply zC | apply zD | apply zA | apply zB | refine zF qS qR ?_ ?_ | exact zz0 | exact rfl | fail)
 refine zN [0, 1, 6, 7] (fun k : Nat => [(8, .int .i64 k)]) (fun k : Nat => []) (fun k : Nat => k ≤ l.length ∧ zEv p l 0 = zEv p (l.drop k) k) (fun k : Nat => l.length - k) 0 (fun x => qS) ?_ qL qL ?_
 ·exact ⟨Nat.zero_le _, rfl⟩
 rintro k ⟨h1, h2⟩
 repeat' (first | apply zC | apply zG | apply zD | apply zL | apply zA | apply zB | refine zF qS qR ?_ ?_ | refine yD (hp k (by assumption)) qZ qZ ?_ qS ?_ | (refine zE qS ?_ ?_ <;> intro hb <;> have hc := hb <;> (try simp only [bF] at hc) <;> (try (exfalso; simp at hc; done))) | refine zI qR ?_ | refine zK qR ?_ | refine zS (k+1) ?_ ?_ ⟨rfl, qL, qL⟩ | exact zz0 | exact rfl | omega | refine zAc.int ?_ | exact qP | fail)
 ·rw [h2, zBd _ _ _ ‹k < _›, if_pos hb]
 ·exact ⟨by omega, by rw [h2, zBd _ _ _ ‹k < _›, if_neg (by rw [Bool.not_eq_true]; exact hb)]⟩
 ·rw [h2, zEf _ _ _ (by omega)]
theorem K184 : FnOK Tryz.prog 184 (fun ds d => ∃ l f caps p, (∀ i, i < l.length → FnV Tryz.prog f caps [eInt (l.getD i default)] (.bool (p (l.getD i default)))) ∧ ds = [ints l, .fn f caps] ∧ d = eInt (zEv p l 0)) := by
 refine zAa Tryz.call184 Tryz.func184 rfl Tryz.ntmps184 ?_
 rintro ds d ⟨l, f, caps, p, hp, rfl, rfl⟩
 refine ⟨by simp, fun w0 => ?_⟩
 refine zB3 0 rfl fun hl => ?_
 repeat' (first | apply zC | apply zD | apply zA | apply zB | refine zF qS qR ?_ ?_ | exact zz0 | exact rfl | fail)
 refine zN [0, 1, 6, 7] (fun k : Nat => [(8, .int .i64 k)]) (fun k : Nat => []) (fun k : Nat => k ≤ l.length ∧ zEv p l 0 = zEv p (l.drop k) k) (fun k : Nat => l.length - k) 0 (fun x => qS) ?_ qL qL ?_
 ·exact ⟨Nat.zero_le _, rfl⟩
 rintro k ⟨h1, h2⟩
 repeat' (first | apply zC | apply zG | apply zD | apply zL | apply zA | apply zB | refine zF qS qR ?_ ?_ | refine yD (hp k (by assumption)) qZ qZ ?_ qS ?_ | (refine zE qS ?_ ?_ <;> intro hb <;> have hc := hb <;> (try simp only [bF] at hc) <;> (try (exfalso; simp at hc; done))) | refine zI qR ?_ | refine zK qR ?_ | refine zS (k+1) ?_ ?_ ⟨rfl, qL, qL⟩ | exact zz0 | exact rfl | omega | refine zAc.int ?_ | exact qP | fail)
 ·rw [h2, zBd _ _ _ ‹k < _›, if_pos hb]
 ·exact ⟨by omega, by rw [h2, zBd _ _ _ ‹k < _›, if_neg (by rw [Bool.not_eq_true]; exact hb)]⟩
 ·rw [h2, zEf _ _ _ (by omega)]
theorem K238 : FnOK Tryz.prog 238 (fun ds d => ∃ l f caps p, (∀ i, i < l.length → FnV Tryz.prog f caps [zAe (l.getD i default)] (.bool (p (l.getD i default)))) ∧ ds = [zAo 2 zAe l, .fn f caps] ∧ d = eInt (zEv p l 0)) := by
 refine zAa Tryz.call238 Tryz.func238 rfl Tryz.ntmps238 ?_
 rintro ds d ⟨l, f, caps, p, hp, rfl, rfl⟩
 refine ⟨by simp, fun w0 => ?_⟩
 refine zB3 0 rfl fun hl => ?_
 repeat' (first | apply zC | apply zD | apply zA | apply zB | refine zF qS qR ?_ ?_ | exact zz0 | exact rfl | fail)
 refine zN [0, 1, 6, 7] (fun k : Nat => [(8, .int .i64 k)]) (fun k : Nat => []) (fun k : Nat => k ≤ l.length ∧ zEv p l 0 = zEv p (l.drop k) k) (fun k : Nat => l.length - k) 0 (fun x => qS) ?_ qL qL ?_
 ·exact ⟨Nat.zero_le _, rfl⟩
 rintro k ⟨h1, h2⟩
 repeat' (first | apply zC | apply zG | apply zD | apply zL | apply zA | apply zB | refine zF qS qR ?_ ?_ | refine yD (hp k (by assumption)) qZ qZ ?_ qS ?_ | (refine zE qS ?_ ?_ <;> intro hb <;> have hc := hb <;> (try simp only [bF] at hc) <;> (try (exfalso; simp at hc; done))) | refine zI qR ?_ | refine zK qR ?_ | refine zS (k+1) ?_ ?_ ⟨rfl, qL, qL⟩ | exact zz0 | exact rfl | omega | refine zAc.int ?_ | exact qP | fail)
 ·rw [h2, zBd _ _ _ ‹k < _›, if_pos hb]
 ·exact ⟨by omega, by rw [h2, zBd _ _ _ ‹k < _›, if_neg (by rw [Bool.not_eq_true]; exact hb)]⟩
 ·rw [h2, zEf _ _ _ (by omega)]
theorem K85 : FnOK Tryz.prog 85 (fun ds d => ∃ l f caps p, (∀ i, i < l.length → FnV Tryz.prog f caps [zIh (l.getD i default)] (.bool (p (l.getD i default)))) ∧ ds = [zAo 2 zIh l, .fn f caps] ∧ d = .bool (l.any p)) := by
 refine zAa Tryz.call85 Tryz.func85 rfl Tryz.ntmps85 ?_
 rintro ds d ⟨l, f, caps, p, hp, rfl, rfl⟩
 refine ⟨by simp, fun w0 => ?_⟩
 repeat' (first | apply zC | apply zA | apply zB | refine zF qS qR ?_ ?_ | refine zM K141 qD ?_ ⟨l, f, caps, p, hp, rfl, rfl⟩ qS ?_ | refine zI qR ?_ | exact zz0 | exact rfl | refine zAc.bool ?_ | fail)
 exact zFf _ _ _
theorem yHf : FnOK Tryz.prog 139 (fun ds d => ∃ l f caps p, (∀ i, i < l.length → FnV Tryz.prog f caps [eInt (l.getD i default)] (.bool (p (l.getD i default)))) ∧ ds = [ints l, .fn f caps] ∧ d = .bool (l.any p)) := by
 refine zAa Tryz.call139 Tryz.func139 rfl Tryz.ntmps139 ?_
 rintro ds d ⟨l, f, caps, p, hp, rfl, rfl⟩
 refine ⟨by simp, fun w0 => ?_⟩
 repeat' (first | apply zC | apply zA | apply zB | refine zF qS qR ?_ ?_ | refine zM K184 qD ?_ ⟨l, f, caps, p, hp, rfl, rfl⟩ qS ?_ | refine zI qR ?_ | exact zz0 | exact rfl | refine zAc.bool ?_ | fail)
 exact zFf _ _ _
theorem K225 : FnOK Tryz.prog 225 (fun ds d => ∃ l f caps p, (∀ i, i < l.length → FnV Tryz.prog f caps [zAe (l.getD i default)] (.bool (p (l.getD i default)))) ∧ ds = [zAo 2 zAe l, .fn f caps] ∧ d = .bool (l.any p)) := by
 refine zAa Tryz.call225 Tryz.func225 rfl Tryz.ntmps225 ?_
 rintro ds d ⟨l, f, caps, p, hp, rfl, rfl⟩
 refine ⟨by simp, fun w0 => ?_⟩
 repeat' (first | apply zC | apply zA | apply zB | refine zF qS qR ?_ ?_ | refine zM K238 qD ?_ ⟨l, f, caps, p, hp, rfl, rfl⟩ qS ?_ | refine zI qR ?_ | exact zz0 | exact rfl | refine zAc.bool ?_ | fail)
 exact zFf _ _ _
end Go.Sx
namespace Go.Sx
open Go.Proofs Go.RowKit
attribute [local irreducible] Run zAi zAy zAc SLe OLe
set_option maxHeartbeats 2000000
set_option maxRecDepth 8000
theorem K80 : FnOK Tryz.prog 80 (fun ds d => ∃ o c, ds = [zC7 o, .fp [.str c]] ∧ d = .bool (o.Code == c)) := by
 refine zAa Tryz.call80 Tryz.func80 rfl Tryz.ntmps80 ?_
 rintro ds d ⟨o, c, rfl, rfl⟩
 refine ⟨by simp, fun w0 => ?_⟩
 repeat' (first | apply zC | apply zA | apply zB | refine zF qS qR ?_ ?_ | refine zI qR ?_ | exact zz0 | exact rfl | exact zAc.bool rfl | fail)
theorem K140 : FnOK Tryz.prog 140 (fun ds d => ∃ (n : Int) (o : Offer), ds = [eInt n, .fp [.str o.Code, .int .i64 o.Credits, .int .i64 o.Places, ints o.Slots, strs o.Needs]] ∧ d = .bool (o.Slots.any fun y => n == y)) := by
 refine zAa Tryz.call140 Tryz.func140 rfl Tryz.ntmps140 ?_
 rintro ds d ⟨n, o, rfl, rfl⟩
 refine ⟨by simp, fun w0 => ?_⟩
 repeat' (first | apply zC | apply zA | apply zB | refine zF qS qR ?_ ?_ | refine zM yHh qD ?_ ⟨_, _, rfl, rfl⟩ qS ?_ | refine zI qR ?_ | exact zz0 | exact rfl | exact zAc.bool rfl | fail)
theorem K83 : FnOK Tryz.prog 83 (fun ds d => ∃ a b, ds = [zC7 a, zC7 b] ∧ d = .bool (a.Slots.any fun n => b.Slots.any fun y => n == y)) := by
 refine zAa Tryz.call83 Tryz.func83 rfl Tryz.ntmps83 ?_
 rintro ds d ⟨a, b, rfl, rfl⟩
 refine ⟨by simp, fun w0 => ?_⟩
 repeat' (first | refine zDv 1 qS ?_ | apply zC | apply zA | apply zB | refine zF qS qR ?_ ?_ | refine zM yHf qD ?_ ⟨a.Slots, 140, [.fp [.str b.Code, .int .i64 b.Credits, .int .i64 b.Places, ints b.Slots, strs b.Needs]], fun n => b.Slots.any fun y => n == y, fun i _ => ⟨_, K140, _, b, rfl, rfl⟩, rfl, rfl⟩ qS ?_ | refine zI qR ?_ | exact zz0 | exact rfl | exact zAc.bool rfl | fail)
theorem K81 : FnOK Tryz.prog 81 (fun ds d => ∃ o, ds = [zC7 o] ∧ d = zC7 o) := by
 refine zAa Tryz.call81 Tryz.func81 rfl Tryz.ntmps81 ?_
 rintro ds d ⟨o, rfl, rfl⟩
 refine ⟨by simp, fun w0 => ?_⟩
 repeat' (first | apply zC | apply zA | apply zP | apply zB | refine zF qS qR ?_ ?_ | refine zU qS qR ?_ ?_ | refine zQ qK qK ?_ | refine zX K137 qD ?_ ⟨_, rfl, rfl⟩ qS ?_ | refine zX K138 qD ?_ ⟨_, rfl, rfl⟩ qS ?_ | refine yA qR qS ?_ | exact zz0 | exact rfl | exact zAc.pure rfl | fail)
def zHb (c : ByteArray) : List Offer → Option Offer
 | [] => none
 | o :: r => if o.Code == c then some o else zHb c r
def zWj (x : Option Offer) : SD := .tup [zC7 (x.getD default), .bool x.isSome]
theorem zOv (c : ByteArray) : ∀ (l : List Offer) (k : Nat), (zEv (fun o => o.Code == c) l k = -1 ∧ zHb c l = none) ∨ ∃ j, j < l.length ∧ zEv (fun o => o.Code == c) l k = ((k + j : Nat) : Int) ∧ zHb c l = some (l.getD j default)
 | [], k => .inl ⟨rfl, rfl⟩
 | o :: r, k => by
  by_cases h : (o.Code == c) = true
  ·exact .inr ⟨0, by simp, by simp [zEv, h], by simp [zHb, h]⟩
  ·rcases zOv c r (k + 1) with ⟨h1, h2⟩ | ⟨j, h1, h2, h3⟩
   ·exact .inl ⟨by simp only [zEv, h]; exact h1, by simp only [zHb, h]; exact h2⟩
   ·refine .inr ⟨j + 1, by simp; omega, ?_, ?_⟩
    ·simp only [zEv, h, Bool.false_eq_true, if_false, h2]
     omega
    ·simp only [zHb, h, Bool.false_eq_true, if_false, h3, List.getD_cons_succ]
theorem K28 : FnOK Tryz.prog 28 (fun ds d => ∃ l c, ds = [zAo 5 zC7 l, eStr c] ∧ d = zWj (zHb c l)) := by
 refine zAa Tryz.call28 Tryz.func28 rfl Tryz.ntmps28 ?_
 rintro ds d ⟨l, c, rfl, rfl⟩
 refine ⟨by simp, fun w0 => ?_⟩
 rcases zOv c l 0 with ⟨g1, g2⟩ | ⟨j, g0, g1, g2⟩
 ·repeat' (first | refine zDv 0 qS ?_ | apply zC | apply zG | apply zA | apply zB | refine zF qS qR ?_ ?_ | refine zM K79 qD ?_ ⟨l, 80, [.fp [.str c]], fun o => o.Code == c, fun i _ => ⟨_, K80, _, c, rfl, rfl⟩, rfl, rfl⟩ qS ?_ | refine zM K81 qD ?_ ⟨_, rfl, rfl⟩ qS ?_ | (refine zE qS ?_ ?_ <;> intro hb <;> have hc := hb <;> (try simp only [bF] at hc) <;> (try (exfalso; simp at hc; done))) | refine yA qR qS ?_ | exact zz0 | exact rfl | omega)
  rw [g2]
  (refine zAc.le qZ ?_; repeat' (first | exact zz0 | exact SLe.refl _ | refine SLe.agg ?_ | refine SLe.tup ?_ | refine And.intro ?_ ?_ | exact SLe.nils | refine SLe.int ?_ | refine SLe.bool ?_ | refine SLe.str ?_))
 ·repeat' (first | refine zDv 0 qS ?_ | apply zC | apply zG | apply zA | apply zB | refine zF (by simp only [go_sem, g1, Nat.zero_add]; rfl) qR ?_ ?_ | refine zM K79 (by simp only [go_sem, g1, Nat.zero_add]; first | done | rfl) ?_ ⟨l, 80, [.fp [.str c]], fun o => o.Code == c, fun i _ => ⟨_, K80, _, c, rfl, rfl⟩, rfl, rfl⟩ (by simp only [go_sem, g1, Nat.zero_add]; rfl) ?_ | refine zM K81 (by simp only [go_sem, g1, Nat.zero_add]; first | done | rfl) ?_ ⟨_, rfl, rfl⟩ (by simp only [go_sem, g1, Nat.zero_add]; rfl) ?_ | (refine zE (by simp only [go_sem, g1, Nat.zero_add]; rfl) ?_ ?_ <;> intro hb <;> have hc := hb <;> (try simp only [bF] at hc) <;> (try (exfalso; simp at hc; done))) | refine yA qR (by simp only [go_sem, g1, Nat.zero_add]; rfl) ?_ | exact zz0 | exact rfl | omega | exact qP | fail)
  rw [g2];exact zAc.pure rfl
def credits : List Ach → Int → Int
 | [], n => n
 | a :: r, n => credits r (wr (n + a.Credits))
theorem K105 : FnOK Tryz.prog 105 (fun ds d => ∃ l, ds = [zAo 8 zBp l] ∧ d = eInt (credits l 0)) := by
 refine zAa Tryz.call105 Tryz.func105 rfl Tryz.ntmps105 ?_
 rintro ds d ⟨l, rfl, rfl⟩
 refine ⟨by simp, fun w0 => ?_⟩
 refine zB3 0 rfl fun hl => ?_
 repeat' (first | apply zC | apply zD | apply zA | apply zB | refine zF qS qR ?_ ?_ | exact zz0 | exact rfl | fail)
 refine zN [6, 7] (fun x : Nat × Int => [(8, .int .i64 x.1), (3, .int .i64 x.2)]) (fun x : Nat × Int => []) (fun x : Nat × Int => x.1 ≤ l.length ∧ credits l 0 = credits (l.drop x.1) x.2) (fun x : Nat × Int => l.length - x.1) (0, 0) (fun x => qS) ?_ qL qL ?_
 ·exact ⟨Nat.zero_le _, rfl⟩
 rintro ⟨k, n⟩ ⟨h1, h2⟩
 simp only at h1 h2
 repeat' (first | apply zC | apply zG | apply zD | apply zL | apply zA | apply zB | refine zF qS qR ?_ ?_ | (refine zE qS ?_ ?_ <;> intro hb <;> have hc := hb <;> (try simp only [bF] at hc) <;> (try (exfalso; simp at hc; done))) | refine zI qR ?_ | refine zK qR ?_ | refine zS (k+1,wr (n+(l.getD k default).Credits)) ?_ ?_ ⟨rfl, qL, qL⟩ | exact zz0 | exact rfl | omega | refine zAc.int ?_ | exact qP | fail)
 ·refine ⟨by simp only; omega, ?_⟩
  rw [h2, zAv _ _ ‹k < _›]; rfl
 ·rw [h2, List.drop_of_length_le (by omega)]; rfl
end Go.Sx
namespace Go.Sx
open Go.Proofs Go.RowKit
attribute [local irreducible] Run zAi zAy zAc SLe OLe
set_option maxHeartbeats 2000000
set_option maxRecDepth 8000
theorem K84 : FnOK Tryz.prog 84 (fun ds d => ∃ (y : Item) (n : ByteArray) (x : Item), ds = [zIh y, .fp [.str n], .fp [.int .i64 x.Term, .str x.Code]] ∧ d = .bool (y.Code == n && decide (y.Term < x.Term))) := by
 refine zAa Tryz.call84 Tryz.func84 rfl Tryz.ntmps84 ?_
 rintro ds d ⟨y, n, x, rfl, rfl⟩
 refine ⟨by simp, fun w0 => ?_⟩
 repeat' (first | apply zC | apply zA | apply zB | refine zF qS qR ?_ ?_ | refine zI qR ?_ | exact zz0 | exact rfl | exact zAc.bool rfl | exact qP | fail)
def zWd (c : Case) (code : ByteArray) : Bool := c.Has.any fun a => zEk a.Course ⟨c.Programme.School, code⟩
def excl (p : Programme) (a b : Course) : Bool := p.Exclude.any fun x => zE8 x (a, b) || zE8 x (b, a)
def zI8 (c : Case) (l : List Item) (x : Item) (o : Offer) : Bool := o.Needs.all fun n => zWd c n || l.any fun y => y.Code == n && decide (y.Term < x.Term)
end Go.Sx
namespace Go.Sx
theorem zXd (x : Int) (h1 : 0 ≤ x) (h2 : x < 9223372036854775808) : IntKind.i64.wrap x = x := by rw [w64]; omega
theorem zEz (a : Nat) : BitVec.ofInt 64 (a : Int) = BitVec.ofNat 64 a := by simp
theorem band (a b : Nat) (ha : a < 9223372036854775808) (hb : b < 9223372036854775808) : zO8 .i64 (a : Int) (b : Int) = ((a &&& b : Nat) : Int) := by
 show IntKind.i64.wrap ((BitVec.ofInt 64 (a : Int) &&& BitVec.ofInt 64 (b : Int)).toNat : Int) = _
 rw [zEz, zEz]
 have e : (BitVec.ofNat 64 a &&& BitVec.ofNat 64 b).toNat = a &&& b := by
  rw [BitVec.toNat_and, BitVec.toNat_ofNat, BitVec.toNat_ofNat, Nat.mod_eq_of_lt (by omega), Nat.mod_eq_of_lt (by omega)]
 have hle : a &&& b ≤ a := Nat.and_le_left
 rw [e, zXd] <;> omega
theorem bor (a b : Nat) (ha : a < 4611686018427387904) (hb : b < 4611686018427387904) : orI .i64 (a : Int) (b : Int) = ((a ||| b : Nat) : Int) := by
 show IntKind.i64.wrap ((BitVec.ofInt 64 (a : Int) ||| BitVec.ofInt 64 (b : Int)).toNat : Int) = _
 rw [zEz, zEz]
 have e : (BitVec.ofNat 64 a ||| BitVec.ofNat 64 b).toNat = a ||| b := by
  rw [BitVec.toNat_or, BitVec.toNat_ofNat, BitVec.toNat_ofNat, Nat.mod_eq_of_lt (by omega), Nat.mod_eq_of_lt (by omega)]
 have hle : a ||| b < 2 ^ 62 := Nat.or_lt_two_pow (by omega) (by omega)
 rw [e, zXd] <;> omega
theorem bshr (a k : Nat) (hk : k < 64) : zMa .i64 (a : Int) (k : Int) = ((a >>> k : Nat) : Int) := by
 show (a : Int).fdiv (2 ^ (min (k : Int).toNat 64)) = _
 have : min (k : Int).toNat 64 = k := by simp; omega
 rw [this, Int.fdiv_eq_ediv_of_nonneg _ (by exact_mod_cast Nat.zero_le _), Nat.shiftRight_eq_div_pow]
 simp
theorem yCu (k : Nat) (hk : k < 62) : yFq .i64 1 (k : Int) = ((2 ^ k : Nat) : Int) := by
 show IntKind.i64.wrap (1 * 2 ^ (min (k : Int).toNat 64)) = _
 have : min (k : Int).toNat 64 = k := by simp; omega
 rw [this, Int.one_mul]
 have h : (2 : Nat) ^ k < 2 ^ 62 := Nat.pow_lt_pow_right (by omega) hk
 have e : ((2 : Int) ^ k) = ((2 ^ k : Nat) : Int) := by simp
 rw [e]
 generalize (2 : Nat) ^ k = z at h ⊢
 exact zXd _ (Int.natCast_nonneg _) (by omega)
theorem zZc (a k : Nat) (ha : a < 9223372036854775808) (hk : k < 64) : zO8 .i64 (zMa .i64 (a : Int) (k : Int)) 1 = if a.testBit k then 1 else 0 := by
 rw [bshr a k hk]
 have h1 : a >>> k ≤ a := by rw [Nat.shiftRight_eq_div_pow]; exact Nat.div_le_self _ _
 have := band (a >>> k) 1 (by omega) (by omega)
 rw [show ((1 : Nat) : Int) = 1 from rfl] at this
 rw [this, Nat.and_one_is_mod, Nat.testBit_eq_decide_div_mod_eq, ← Nat.shiftRight_eq_div_pow]
 rcases Nat.mod_two_eq_zero_or_one (a >>> k) with h | h <;> simp [h]
end Go.Sx
