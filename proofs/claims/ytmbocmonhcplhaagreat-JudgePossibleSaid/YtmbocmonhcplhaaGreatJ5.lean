/- Part of the proof that the laws of the judge return true for every input: J5. -/
import Derived.Test.YtmbocmonhcplhaaGreatJ4
set_option linter.all false
namespace Go.Sx
open Go.Proofs Go.RowKit
attribute [local irreducible] Run RunL RunD SLe0 SLe OLe
set_option maxHeartbeats 2000000
set_option maxRecDepth 8000
theorem A137 : FnAcc Tryz.prog 137 (fun ds T es n g => ∃ l, ds = [ints l] ∧ T = 3 ∧ es = 1 ∧ n = l.length ∧ g = fun i => eInt (l.getD i default)) := by
 refine fn_introA Tryz.call137 Tryz.func137 rfl Tryz.ntmps137 ?_
 rintro ds T es n g ⟨l, rfl, rfl, rfl, rfl, rfl⟩
 refine ⟨by simp, fun w0 => ?_⟩
 refine run_len 0 rfl fun hl => ?_
 rcases l with _ | ⟨x, r⟩
 ·repeat' (first | apply zC | apply zG | apply zA | apply zB | refine zF qS qR ?_ ?_ | refine yF qS qZ qZ (fun bn hbn => ?_) | (refine zE qS ?_ ?_ <;> intro hb <;> have hc := hb <;> (try simp only [bF] at hc) <;> (try (exfalso; simp at hc; done))) | refine run_retA qR qR qR ?_ ?_ | refine run_retA0 qR qR ?_ | exact True.intro | exact rfl | omega | exact qP | fail)
  all_goals first | exact hbn hc | exact rfl | (intro i hi; exact absurd hi (by simp)) | (intro i _; simp only [joinF, Nat.not_lt_zero, if_false, Nat.sub_zero]; rfl)
 ·have hl' : r.length + 1 ≤ 68719476736 := by simpa using hl
  repeat' (first | apply zC | apply zG | apply zA | apply zB | refine zF qS qR ?_ ?_ | (refine zE qS ?_ ?_ <;> intro hb <;> have hc := hb <;> (try simp only [bF] at hc) <;> (try (exfalso; simp at hc; done))) | refine run_retA qR qR qR ?_ ?_ | exact True.intro | exact rfl | exact qP | fail)
  all_goals first | (show allP _; simp only [allP]; omega) | (simp only [List.length_cons]; omega) | (intro i _; simp only [joinF, Nat.not_lt_zero, if_false, Nat.sub_zero]; rfl)
theorem K137 : FnOK Tryz.prog 137 (fun ds d => ∃ l, ds = [ints l] ∧ d = ints l) :=
 A137.toOK.weaken fun ds d h => by
  obtain ⟨l, rfl, rfl⟩ := h
  exact ⟨_, _, _, _, ⟨l, rfl, rfl, rfl, rfl, rfl⟩, rfl⟩
theorem A138 : FnAcc Tryz.prog 138 (fun ds T es n g => ∃ l, ds = [strs l] ∧ T = 9 ∧ es = 1 ∧ n = l.length ∧ g = fun i => eStr (l.getD i default)) := by
 refine fn_introA Tryz.call138 Tryz.func138 rfl Tryz.ntmps138 ?_
 rintro ds T es n g ⟨l, rfl, rfl, rfl, rfl, rfl⟩
 refine ⟨by simp, fun w0 => ?_⟩
 refine run_len 0 rfl fun hl => ?_
 rcases l with _ | ⟨x, r⟩
 ·repeat' (first | apply zC | apply zG | apply zA | apply zB | refine zF qS qR ?_ ?_ | refine yF qS qZ qZ (fun bn hbn => ?_) | (refine zE qS ?_ ?_ <;> intro hb <;> have hc := hb <;> (try simp only [bF] at hc) <;> (try (exfalso; simp at hc; done))) | refine run_retA qR qR qR ?_ ?_ | refine run_retA0 qR qR ?_ | exact True.intro | exact rfl | omega | exact qP | fail)
  all_goals first | exact hbn hc | exact rfl | (intro i hi; exact absurd hi (by simp)) | (intro i _; simp only [joinF, Nat.not_lt_zero, if_false, Nat.sub_zero]; rfl)
 ·have hl' : r.length + 1 ≤ 68719476736 := by simpa using hl
  repeat' (first | apply zC | apply zG | apply zA | apply zB | refine zF qS qR ?_ ?_ | (refine zE qS ?_ ?_ <;> intro hb <;> have hc := hb <;> (try simp only [bF] at hc) <;> (try (exfalso; simp at hc; done))) | refine run_retA qR qR qR ?_ ?_ | exact True.intro | exact rfl | exact qP | fail)
  all_goals first | (show allP _; simp only [allP]; omega) | (simp only [List.length_cons]; omega) | (intro i _; simp only [joinF, Nat.not_lt_zero, if_false, Nat.sub_zero]; rfl)
theorem K138 : FnOK Tryz.prog 138 (fun ds d => ∃ l, ds = [strs l] ∧ d = strs l) :=
 A138.toOK.weaken fun ds d h => by
  obtain ⟨l, rfl, rfl⟩ := h
  exact ⟨_, _, _, _, ⟨l, rfl, rfl, rfl, rfl, rfl⟩, rfl⟩
theorem A223 : FnAcc Tryz.prog 223 (fun ds T es n g => ∃ l, ds = [eList 2 eCourse l] ∧ T = 63 ∧ es = 2 ∧ n = l.length ∧ g = fun i => eCourse (l.getD i default)) := by
 refine fn_introA Tryz.call223 Tryz.func223 rfl Tryz.ntmps223 ?_
 rintro ds T es n g ⟨l, rfl, rfl, rfl, rfl, rfl⟩
 refine ⟨by simp, fun w0 => ?_⟩
 refine run_len 0 rfl fun hl => ?_
 rcases l with _ | ⟨x, r⟩
 ·repeat' (first | apply zC | apply zG | apply zA | apply zB | refine zF qS qR ?_ ?_ | refine yF qS qZ qZ (fun bn hbn => ?_) | (refine zE qS ?_ ?_ <;> intro hb <;> have hc := hb <;> (try simp only [bF] at hc) <;> (try (exfalso; simp at hc; done))) | refine run_retA qR qR qR ?_ ?_ | refine run_retA0 qR qR ?_ | exact True.intro | exact rfl | omega | exact qP | fail)
  all_goals first | exact hbn hc | exact rfl | (intro i hi; exact absurd hi (by simp)) | (intro i _; simp only [joinF, Nat.not_lt_zero, if_false, Nat.sub_zero]; rfl)
 ·have hl' : r.length + 1 ≤ 68719476736 := by simpa using hl
  repeat' (first | apply zC | apply zG | apply zA | apply zB | refine zF qS qR ?_ ?_ | (refine zE qS ?_ ?_ <;> intro hb <;> have hc := hb <;> (try simp only [bF] at hc) <;> (try (exfalso; simp at hc; done))) | refine run_retA qR qR qR ?_ ?_ | exact True.intro | exact rfl | exact qP | fail)
  all_goals first | (show allP _; simp only [allP]; omega) | (simp only [List.length_cons]; omega) | (intro i _; simp only [joinF, Nat.not_lt_zero, if_false, Nat.sub_zero]; rfl)
theorem K223 : FnOK Tryz.prog 223 (fun ds d => ∃ l, ds = [eList 2 eCourse l] ∧ d = eList 2 eCourse l) :=
 A223.toOK.weaken fun ds d h => by
  obtain ⟨l, rfl, rfl⟩ := h
  exact ⟨_, _, _, _, ⟨l, rfl, rfl, rfl, rfl, rfl⟩, rfl⟩
theorem A27 : FnAcc Tryz.prog 27 (fun ds T es n g => ∃ l, ds = [eList 8 eAch l] ∧ T = 65 ∧ es = 8 ∧ n = l.length ∧ g = fun i => eAch (l.getD i default)) := by
 refine fn_introA Tryz.call27 Tryz.func27 rfl Tryz.ntmps27 ?_
 rintro ds T es n g ⟨l, rfl, rfl, rfl, rfl, rfl⟩
 refine ⟨by simp, fun w0 => ?_⟩
 refine run_len 0 rfl fun hl => ?_
 rcases l with _ | ⟨x, r⟩
 ·repeat' (first | apply zC | apply zG | apply zA | apply zB | refine zF qS qR ?_ ?_ | refine yF qS qZ qZ (fun bn hbn => ?_) | (refine zE qS ?_ ?_ <;> intro hb <;> have hc := hb <;> (try simp only [bF] at hc) <;> (try (exfalso; simp at hc; done))) | refine run_retA qR qR qR ?_ ?_ | refine run_retA0 qR qR ?_ | exact True.intro | exact rfl | omega | exact qP | fail)
  all_goals first | exact hbn hc | exact rfl | (intro i hi; exact absurd hi (by simp)) | (intro i _; simp only [joinF, Nat.not_lt_zero, if_false, Nat.sub_zero]; rfl)
 ·have hl' : r.length + 1 ≤ 68719476736 := by simpa using hl
  repeat' (first | apply zC | apply zG | apply zA | apply zB | refine zF qS qR ?_ ?_ | (refine zE qS ?_ ?_ <;> intro hb <;> have hc := hb <;> (try simp only [bF] at hc) <;> (try (exfalso; simp at hc; done))) | refine run_retA qR qR qR ?_ ?_ | exact True.intro | exact rfl | exact qP | fail)
  all_goals first | (show allP _; simp only [allP]; omega) | (simp only [List.length_cons]; omega) | (intro i _; simp only [joinF, Nat.not_lt_zero, if_false, Nat.sub_zero]; rfl)
theorem K79 : FnOK Tryz.prog 79 (fun ds d => ∃ l f caps p, (∀ i, i < l.length → FnV Tryz.prog f caps [eOffer (l.getD i default)] (.bool (p (l.getD i default)))) ∧ ds = [eList 5 eOffer l, .fn f caps] ∧ d = eInt (idxF p l 0)) := by
 refine fn_intro Tryz.call79 Tryz.func79 rfl Tryz.ntmps79 ?_
 rintro ds d ⟨l, f, caps, p, hp, rfl, rfl⟩
 refine ⟨by simp, fun w0 => ?_⟩
 refine run_len 0 rfl fun hl => ?_
 repeat' (first | apply zC | apply zD | apply zA | apply zB | refine zF qS qR ?_ ?_ | exact True.intro | exact rfl | fail)
 refine zM [0, 1, 6, 7] (fun k : Nat => [(8, .int .i64 k)]) (fun k : Nat => []) (fun k : Nat => k ≤ l.length ∧ idxF p l 0 = idxF p (l.drop k) k) (fun k : Nat => l.length - k) 0 (fun x => qS) ?_ qL qL ?_
 ·exact ⟨Nat.zero_le _, rfl⟩
 rintro k ⟨h1, h2⟩
 repeat' (first | apply zC | apply zG | apply zD | apply zK | apply zA | apply zB | refine zF qS qR ?_ ?_ | refine yC (hp k (by assumption)) qZ qZ ?_ qS ?_ | (refine zE qS ?_ ?_ <;> intro hb <;> have hc := hb <;> (try simp only [bF] at hc) <;> (try (exfalso; simp at hc; done))) | refine zI qR ?_ | refine zJ qR ?_ | refine zR (k+1) ?_ ?_ ⟨rfl, qL, qL⟩ | exact True.intro | exact rfl | omega | refine SLe0.int ?_ | exact qP | fail)
 ·rw [h2, idxF_step _ _ _ ‹k < _›, if_pos hb]
 ·exact ⟨by omega, by rw [h2, idxF_step _ _ _ ‹k < _›, if_neg (by rw [Bool.not_eq_true]; exact hb)]⟩
 ·rw [h2, idxF_end _ _ _ (by omega)]
theorem K101 : FnOK Tryz.prog 101 (fun ds d => ∃ l f caps p, (∀ i, i < l.length → FnV Tryz.prog f caps [eAch (l.getD i default)] (.bool (p (l.getD i default)))) ∧ ds = [eList 8 eAch l, .fn f caps] ∧ d = eInt (idxF p l 0)) := by
 refine fn_intro Tryz.call101 Tryz.func101 rfl Tryz.ntmps101 ?_
 rintro ds d ⟨l, f, caps, p, hp, rfl, rfl⟩
 refine ⟨by simp, fun w0 => ?_⟩
 refine run_len 0 rfl fun hl => ?_
 repeat' (first | apply zC | apply zD | apply zA | apply zB | refine zF qS qR ?_ ?_ | exact True.intro | exact rfl | fail)
 refine zM [0, 1, 6, 7] (fun k : Nat => [(8, .int .i64 k)]) (fun k : Nat => []) (fun k : Nat => k ≤ l.length ∧ idxF p l 0 = idxF p (l.drop k) k) (fun k : Nat => l.length - k) 0 (fun x => qS) ?_ qL qL ?_
 ·exact ⟨Nat.zero_le _, rfl⟩
 rintro k ⟨h1, h2⟩
 repeat' (first | apply zC | apply zG | apply zD | apply zK | apply zA | apply zB | refine zF qS qR ?_ ?_ | refine yC (hp k (by assumption)) qZ qZ ?_ qS ?_ | (refine zE qS ?_ ?_ <;> intro hb <;> have hc := hb <;> (try simp only [bF] at hc) <;> (try (exfalso; simp at hc; done))) | refine zI qR ?_ | refine zJ qR ?_ | refine zR (k+1) ?_ ?_ ⟨rfl, qL, qL⟩ | exact True.intro | exact rfl | omega | refine SLe0.int ?_ | exact qP | fail)
 ·rw [h2, idxF_step _ _ _ ‹k < _›, if_pos hb]
 ·exact ⟨by omega, by rw [h2, idxF_step _ _ _ ‹k < _›, if_neg (by rw [Bool.not_eq_true]; exact hb)]⟩
 ·rw [h2, idxF_end _ _ _ (by omega)]
theorem K141 : FnOK Tryz.prog 141 (fun ds d => ∃ l f caps p, (∀ i, i < l.length → FnV Tryz.prog f caps [eItem (l.getD i default)] (.bool (p (l.getD i default)))) ∧ ds = [eList 2 eItem l, .fn f caps] ∧ d = eInt (idxF p l 0)) := by
 refine fn_intro Tryz.call141 Tryz.func141 rfl Tryz.ntmps141 ?_
 rintro ds d ⟨l, f, caps, p, hp, rfl, rfl⟩
 refine ⟨by simp, fun w0 => ?_⟩
 refine run_len 0 rfl fun hl => ?_
 repeat' (first | apply zC | apply zD | apply zA | apply zB | refine zF qS qR ?_ ?_ | exact True.intro | exact rfl | fail)
 refine zM [0, 1, 6, 7] (fun k : Nat => [(8, .int .i64 k)]) (fun k : Nat => []) (fun k : Nat => k ≤ l.length ∧ idxF p l 0 = idxF p (l.drop k) k) (fun k : Nat => l.length - k) 0 (fun x => qS) ?_ qL qL ?_
 ·exact ⟨Nat.zero_le _, rfl⟩
 rintro k ⟨h1, h2⟩
 repeat' (first | apply zC | apply zG | apply zD | apply zK | apply zA | apply zB | refine zF qS qR ?_ ?_ | refine yC (hp k (by assumption)) qZ qZ ?_ qS ?_ | (refine zE qS ?_ ?_ <;> intro hb <;> have hc := hb <;> (try simp only [bF] at hc) <;> (try (exfalso; simp at hc; done))) | refine zI qR ?_ | refine zJ qR ?_ | refine zR (k+1) ?_ ?_ ⟨rfl, qL, qL⟩ | exact True.intro | exact rfl | omega | refine SLe0.int ?_ | exact qP | fail)
 ·rw [h2, idxF_step _ _ _ ‹k < _›, if_pos hb]
 ·exact ⟨by omega, by rw [h2, idxF_step _ _ _ ‹k < _›, if_neg (by rw [Bool.not_eq_true]; exact hb)]⟩
 ·rw [h2, idxF_end _ _ _ (by omega)]
theorem K184 : FnOK Tryz.prog 184 (fun ds d => ∃ l f caps p, (∀ i, i < l.length → FnV Tryz.prog f caps [eInt (l.getD i default)] (.bool (p (l.getD i default)))) ∧ ds = [ints l, .fn f caps] ∧ d = eInt (idxF p l 0)) := by
 refine fn_intro Tryz.call184 Tryz.func184 rfl Tryz.ntmps184 ?_
 rintro ds d ⟨l, f, caps, p, hp, rfl, rfl⟩
 refine ⟨by simp, fun w0 => ?_⟩
 refine run_len 0 rfl fun hl => ?_
 repeat' (first | apply zC | apply zD | apply zA | apply zB | refine zF qS qR ?_ ?_ | exact True.intro | exact rfl | fail)
 refine zM [0, 1, 6, 7] (fun k : Nat => [(8, .int .i64 k)]) (fun k : Nat => []) (fun k : Nat => k ≤ l.length ∧ idxF p l 0 = idxF p (l.drop k) k) (fun k : Nat => l.length - k) 0 (fun x => qS) ?_ qL qL ?_
 ·exact ⟨Nat.zero_le _, rfl⟩
 rintro k ⟨h1, h2⟩
 repeat' (first | apply zC | apply zG | apply zD | apply zK | apply zA | apply zB | refine zF qS qR ?_ ?_ | refine yC (hp k (by assumption)) qZ qZ ?_ qS ?_ | (refine zE qS ?_ ?_ <;> intro hb <;> have hc := hb <;> (try simp only [bF] at hc) <;> (try (exfalso; simp at hc; done))) | refine zI qR ?_ | refine zJ qR ?_ | refine zR (k+1) ?_ ?_ ⟨rfl, qL, qL⟩ | exact True.intro | exact rfl | omega | refine SLe0.int ?_ | exact qP | fail)
 ·rw [h2, idxF_step _ _ _ ‹k < _›, if_pos hb]
 ·exact ⟨by omega, by rw [h2, idxF_step _ _ _ ‹k < _›, if_neg (by rw [Bool.not_eq_true]; exact hb)]⟩
 ·rw [h2, idxF_end _ _ _ (by omega)]
theorem K238 : FnOK Tryz.prog 238 (fun ds d => ∃ l f caps p, (∀ i, i < l.length → FnV Tryz.prog f caps [eCourse (l.getD i default)] (.bool (p (l.getD i default)))) ∧ ds = [eList 2 eCourse l, .fn f caps] ∧ d = eInt (idxF p l 0)) := by
 refine fn_intro Tryz.call238 Tryz.func238 rfl Tryz.ntmps238 ?_
 rintro ds d ⟨l, f, caps, p, hp, rfl, rfl⟩
 refine ⟨by simp, fun w0 => ?_⟩
 refine run_len 0 rfl fun hl => ?_
 repeat' (first | apply zC | apply zD | apply zA | apply zB | refine zF qS qR ?_ ?_ | exact True.intro | exact rfl | fail)
 refine zM [0, 1, 6, 7] (fun k : Nat => [(8, .int .i64 k)]) (fun k : Nat => []) (fun k : Nat => k ≤ l.length ∧ idxF p l 0 = idxF p (l.drop k) k) (fun k : Nat => l.length - k) 0 (fun x => qS) ?_ qL qL ?_
 ·exact ⟨Nat.zero_le _, rfl⟩
 rintro k ⟨h1, h2⟩
 repeat' (first | apply zC | apply zG | apply zD | apply zK | apply zA | apply zB | refine zF qS qR ?_ ?_ | refine yC (hp k (by assumption)) qZ qZ ?_ qS ?_ | (refine zE qS ?_ ?_ <;> intro hb <;> have hc := hb <;> (try simp only [bF] at hc) <;> (try (exfalso; simp at hc; done))) | refine zI qR ?_ | refine zJ qR ?_ | refine zR (k+1) ?_ ?_ ⟨rfl, qL, qL⟩ | exact True.intro | exact rfl | omega | refine SLe0.int ?_ | exact qP | fail)
 ·rw [h2, idxF_step _ _ _ ‹k < _›, if_pos hb]
 ·exact ⟨by omega, by rw [h2, idxF_step _ _ _ ‹k < _›, if_neg (by rw [Bool.not_eq_true]; exact hb)]⟩
 ·rw [h2, idxF_end _ _ _ (by omega)]
theorem K85 : FnOK Tryz.prog 85 (fun ds d => ∃ l f caps p, (∀ i, i < l.length → FnV Tryz.prog f caps [eItem (l.getD i default)] (.bool (p (l.getD i default)))) ∧ ds = [eList 2 eItem l, .fn f caps] ∧ d = .bool (l.any p)) := by
 refine fn_intro Tryz.call85 Tryz.func85 rfl Tryz.ntmps85 ?_
 rintro ds d ⟨l, f, caps, p, hp, rfl, rfl⟩
 refine ⟨by simp, fun w0 => ?_⟩
 repeat' (first | apply zC | apply zA | apply zB | refine zF qS qR ?_ ?_ | refine zL K141 qD ?_ ⟨l, f, caps, p, hp, rfl, rfl⟩ qS ?_ | refine zI qR ?_ | exact True.intro | exact rfl | refine SLe0.bool ?_ | fail)
 exact idxF_any _ _ _
theorem K139 : FnOK Tryz.prog 139 (fun ds d => ∃ l f caps p, (∀ i, i < l.length → FnV Tryz.prog f caps [eInt (l.getD i default)] (.bool (p (l.getD i default)))) ∧ ds = [ints l, .fn f caps] ∧ d = .bool (l.any p)) := by
 refine fn_intro Tryz.call139 Tryz.func139 rfl Tryz.ntmps139 ?_
 rintro ds d ⟨l, f, caps, p, hp, rfl, rfl⟩
 refine ⟨by simp, fun w0 => ?_⟩
 repeat' (first | apply zC | apply zA | apply zB | refine zF qS qR ?_ ?_ | refine zL K184 qD ?_ ⟨l, f, caps, p, hp, rfl, rfl⟩ qS ?_ | refine zI qR ?_ | exact True.intro | exact rfl | refine SLe0.bool ?_ | fail)
 exact idxF_any _ _ _
theorem K225 : FnOK Tryz.prog 225 (fun ds d => ∃ l f caps p, (∀ i, i < l.length → FnV Tryz.prog f caps [eCourse (l.getD i default)] (.bool (p (l.getD i default)))) ∧ ds = [eList 2 eCourse l, .fn f caps] ∧ d = .bool (l.any p)) := by
 refine fn_intro Tryz.call225 Tryz.func225 rfl Tryz.ntmps225 ?_
 rintro ds d ⟨l, f, caps, p, hp, rfl, rfl⟩
 refine ⟨by simp, fun w0 => ?_⟩
 repeat' (first | apply zC | apply zA | apply zB | refine zF qS qR ?_ ?_ | refine zL K238 qD ?_ ⟨l, f, caps, p, hp, rfl, rfl⟩ qS ?_ | refine zI qR ?_ | exact True.intro | exact rfl | refine SLe0.bool ?_ | fail)
 exact idxF_any _ _ _
end Go.Sx
