/- Part of the proof that the laws of the judge return true for every input: J5, J6, J7. -/
import Derived.Test.YtmbocmonhcplhaaGreatJ4
set_option linter.all false
namespace Go.Sx
open Go.Proofs Go.RowKit
attribute [local irreducible] Run RunL RunD SLe0 SLe OLe
set_option maxHeartbeats 2000000
set_option maxRecDepth 8000
theorem A137 : FnAcc Tryz.prog 137 (fun ds T es n g => ∃ l, ds = [ints l] ∧ T = 3 ∧ es = 1 ∧ n = l.length ∧ g = fun i => eInt (l.getD i default)) := by
 refine fn_introA Tryz.call137 Tryz.func137 rfl Tryz.ntmps137 ?_
 rintro ds T es n g ⟨l, rfl, rfl, rfl, rfl, rfl⟩
 refine ⟨by simp, fun w0 => ?_⟩
 refine run_len 0 rfl fun hl => ?_
 rcases l with _ | ⟨x, r⟩
 ·repeat' (first | apply zC | apply zG | apply zA | apply zB | refine zF qS qR ?_ ?_ | refine yG qS qZ qZ (fun bn hbn => ?_) | (refine zE qS ?_ ?_ <;> intro hb <;> have hc := hb <;> (try simp only [bF] at hc) <;> (try (exfalso; simp at hc; done))) | refine run_retA qR qR qR ?_ ?_ | refine run_retA0 qR qR ?_ | exact True.intro | exact rfl | omega | exact qP | fail)
  all_goals first | exact hbn hc | exact rfl | (intro i hi; exact absurd hi (by simp)) | (intro i _; simp only [joinF, Nat.not_lt_zero, if_false, Nat.sub_zero]; rfl)
 ·have hl' : r.length + 1 ≤ 68719476736 := by simpa using hl
  repeat' (first | apply zC | apply zG | apply zA | apply zB | refine zF qS qR ?_ ?_ | (refine zE qS ?_ ?_ <;> intro hb <;> have hc := hb <;> (try simp only [bF] at hc) <;> (try (exfalso; simp at hc; done))) | refine run_retA qR qR qR ?_ ?_ | exact True.intro | exact rfl | exact qP | fail)
  all_goals first | (show allP _; simp only [allP]; omega) | (simp only [List.length_cons]; omega) | (intro i _; simp only [joinF, Nat.not_lt_zero, if_false, Nat.sub_zero]; rfl)
theorem K137 : FnOK Tryz.prog 137 (fun ds d => ∃ l, ds = [ints l] ∧ d = ints l) :=
 A137.toOK.weaken fun ds d h => by
  obtain ⟨l, rfl, rfl⟩ := h
  exact ⟨_, _, _, _, ⟨l, rfl, rfl, rfl, rfl, rfl⟩, rfl⟩
theorem A138 : FnAcc Tryz.prog 138 (fun ds T es n g => ∃ l, ds = [strs l] ∧ T = 9 ∧ es = 1 ∧ n = l.length ∧ g = fun i => eStr (l.getD i default)) := by
 refine fn_introA Tryz.call138 Tryz.func138 rfl Tryz.ntmps138 ?_
 rintro ds T es n g ⟨l, rfl, rfl, rfl, rfl, rfl⟩
 refine ⟨by simp, fun w0 => ?_⟩
 refine run_len 0 rfl fun hl => ?_
 rcases l with _ | ⟨x, r⟩
 ·repeat' (first | apply zC | apply zG | apply zA | apply zB | refine zF qS qR ?_ ?_ | refine yG qS qZ qZ (fun bn hbn => ?_) | (refine zE qS ?_ ?_ <;> intro hb <;> have hc := hb <;> (try simp only [bF] at hc) <;> (try (exfalso; simp at hc; done))) | refine run_retA qR qR qR ?_ ?_ | refine run_retA0 qR qR ?_ | exact True.intro | exact rfl | omega | exact qP | fail)
  all_goals first | exact hbn hc | exact rfl | (intro i hi; exact absurd hi (by simp)) | (intro i _; simp only [joinF, Nat.not_lt_zero, if_false, Nat.sub_zero]; rfl)
 ·have hl' : r.length + 1 ≤ 68719476736 := by simpa using hl
  repeat' (first | apply zC | apply zG | apply zA | apply zB | refine zF qS qR ?_ ?_ | (refine zE qS ?_ ?_ <;> intro hb <;> have hc := hb <;> (try simp only [bF] at hc) <;> (try (exfalso; simp at hc; done))) | refine run_retA qR qR qR ?_ ?_ | exact True.intro | exact rfl | exact qP | fail)
  all_goals first | (show allP _; simp only [allP]; omega) | (simp only [List.length_cons]; omega) | (intro i _; simp only [joinF, Nat.not_lt_zero, if_false, Nat.sub_zero]; rfl)
theorem K138 : FnOK Tryz.prog 138 (fun ds d => ∃ l, ds = [strs l] ∧ d = strs l) :=
 A138.toOK.weaken fun ds d h => by
  obtain ⟨l, rfl, rfl⟩ := h
  exact ⟨_, _, _, _, ⟨l, rfl, rfl, rfl, rfl, rfl⟩, rfl⟩
theorem A223 : FnAcc Tryz.prog 223 (fun ds T es n g => ∃ l, ds = [eList 2 eCourse l] ∧ T = 63 ∧ es = 2 ∧ n = l.length ∧ g = fun i => eCourse (l.getD i default)) := by
 refine fn_introA Tryz.call223 Tryz.func223 rfl Tryz.ntmps223 ?_
 rintro ds T es n g ⟨l, rfl, rfl, rfl, rfl, rfl⟩
 refine ⟨by simp, fun w0 => ?_⟩
 refine run_len 0 rfl fun hl => ?_
 rcases l with _ | ⟨x, r⟩
 ·repeat' (first | apply zC | apply zG | apply zA | apply zB | refine zF qS qR ?_ ?_ | refine yG qS qZ qZ (fun bn hbn => ?_) | (refine zE qS ?_ ?_ <;> intro hb <;> have hc := hb <;> (try simp only [bF] at hc) <;> (try (exfalso; simp at hc; done))) | refine run_retA qR qR qR ?_ ?_ | refine run_retA0 qR qR ?_ | exact True.intro | exact rfl | omega | exact qP | fail)
  all_goals first | exact hbn hc | exact rfl | (intro i hi; exact absurd hi (by simp)) | (intro i _; simp only [joinF, Nat.not_lt_zero, if_false, Nat.sub_zero]; rfl)
 ·have hl' : r.length + 1 ≤ 68719476736 := by simpa using hl
  repeat' (first | apply zC | apply zG | apply zA | apply zB | refine zF qS qR ?_ ?_ | (refine zE qS ?_ ?_ <;> intro hb <;> have hc := hb <;> (try simp only [bF] at hc) <;> (try (exfalso; simp at hc; done))) | refine run_retA qR qR qR ?_ ?_ | exact True.intro | exact rfl | exact qP | fail)
  all_goals first | (show allP _; simp only [allP]; omega) | (simp only [List.length_cons]; omega) | (intro i _; simp only [joinF, Nat.not_lt_zero, if_false, Nat.sub_zero]; rfl)
theorem K223 : FnOK Tryz.prog 223 (fun ds d => ∃ l, ds = [eList 2 eCourse l] ∧ d = eList 2 eCourse l) :=
 A223.toOK.weaken fun ds d h => by
  obtain ⟨l, rfl, rfl⟩ := h
  exact ⟨_, _, _, _, ⟨l, rfl, rfl, rfl, rfl, rfl⟩, rfl⟩
theorem A27 : FnAcc Tryz.prog 27 (fun ds T es n g => ∃ l, ds = [eList 8 eAch l] ∧ T = 65 ∧ es = 8 ∧ n = l.length ∧ g = fun i => eAch (l.getD i default)) := by
 refine fn_introA Tryz.call27 Tryz.func27 rfl Tryz.ntmps27 ?_
 rintro ds T es n g ⟨l, rfl, rfl, rfl, rfl, rfl⟩
 refine ⟨by simp, fun w0 => ?_⟩
 refine run_len 0 rfl fun hl => ?_
 rcases l with _ | ⟨x, r⟩
 ·repeat' (first | apply zC | apply zG | apply zA | apply zB | refine zF qS qR ?_ ?_ | refine yG qS qZ qZ (fun bn hbn => ?_) | (refine zE qS ?_ ?_ <;> intro hb <;> have hc := hb <;> (try simp only [bF] at hc) <;> (try (exfalso; simp at hc; done))) | refine run_retA qR qR qR ?_ ?_ | refine run_retA0 qR qR ?_ | exact True.intro | exact rfl | omega | exact qP | fail)
  all_goals first | exact hbn hc | exact rfl | (intro i hi; exact absurd hi (by simp)) | (intro i _; simp only [joinF, Nat.not_lt_zero, if_false, Nat.sub_zero]; rfl)
 ·have hl' : r.length + 1 ≤ 68719476736 := by simpa using hl
  repeat' (first | apply zC | apply zG | apply zA | apply zB | refine zF qS qR ?_ ?_ | (refine zE qS ?_ ?_ <;> intro hb <;> have hc := hb <;> (try simp only [bF] at hc) <;> (try (exfalso; simp at hc; done))) | refine run_retA qR qR qR ?_ ?_ | exact True.intro | exact rfl | exact qP | fail)
  all_goals first | (show allP _; simp only [allP]; omega) | (simp only [List.length_cons]; omega) | (intro i _; simp only [joinF, Nat.not_lt_zero, if_false, Nat.sub_zero]; rfl)
theorem K79 : FnOK Tryz.prog 79 (fun ds d => ∃ l f caps p, (∀ i, i < l.length → FnV Tryz.prog f caps [eOffer (l.getD i default)] (.bool (p (l.getD i default)))) ∧ ds = [eList 5 eOffer l, .fn f caps] ∧ d = eInt (idxF p l 0)) := by
 refine fn_intro Tryz.call79 Tryz.func79 rfl Tryz.ntmps79 ?_
 rintro ds d ⟨l, f, caps, p, hp, rfl, rfl⟩
 refine ⟨by simp, fun w0 => ?_⟩
 refine run_len 0 rfl fun hl => ?_
 repeat' (first | apply zC | apply zD | apply zA | apply zB | refine zF qS qR ?_ ?_ | exact True.intro | exact rfl | fail)
 refine zN [0, 1, 6, 7] (fun k : Nat => [(8, .int .i64 k)]) (fun k : Nat => []) (fun k : Nat => k ≤ l.length ∧ idxF p l 0 = idxF p (l.drop k) k) (fun k : Nat => l.length - k) 0 (fun x => qS) ?_ qL qL ?_
 ·exact ⟨Nat.zero_le _, rfl⟩
 rintro k ⟨h1, h2⟩
 repeat' (first | apply zC | apply zG | apply zD | apply zL | apply zA | apply zB | refine zF qS qR ?_ ?_ | refine yD (hp k (by assumption)) qZ qZ ?_ qS ?_ | (refine zE qS ?_ ?_ <;> intro hb <;> have hc := hb <;> (try simp only [bF] at hc) <;> (try (exfalso; simp at hc; done))) | refine zI qR ?_ | refine zK qR ?_ | refine zS (k+1) ?_ ?_ ⟨rfl, qL, qL⟩ | exact True.intro | exact rfl | omega | refine SLe0.int ?_ | exact qP | fail)
 ·rw [h2, idxF_step _ _ _ ‹k < _›, if_pos hb]
 ·exact ⟨by omega, by rw [h2, idxF_step _ _ _ ‹k < _›, if_neg (by rw [Bool.not_eq_true]; exact hb)]⟩
 ·rw [h2, idxF_end _ _ _ (by omega)]
theorem K101 : FnOK Tryz.prog 101 (fun ds d => ∃ l f caps p, (∀ i, i < l.length → FnV Tryz.prog f caps [eAch (l.getD i default)] (.bool (p (l.getD i default)))) ∧ ds = [eList 8 eAch l, .fn f caps] ∧ d = eInt (idxF p l 0)) := by
 refine fn_intro Tryz.call101 Tryz.func101 rfl Tryz.ntmps101 ?_
 rintro ds d ⟨l, f, caps, p, hp, rfl, rfl⟩
 refine ⟨by simp, fun w0 => ?_⟩
 refine run_len 0 rfl fun hl => ?_
 repeat' (first | apply zC | apply zD | apply zA | apply zB | refine zF qS qR ?_ ?_ | exact True.intro | exact rfl | fail)
 refine zN [0, 1, 6, 7] (fun k : Nat => [(8, .int .i64 k)]) (fun k : Nat => []) (fun k : Nat => k ≤ l.length ∧ idxF p l 0 = idxF p (l.drop k) k) (fun k : Nat => l.length - k) 0 (fun x => qS) ?_ qL qL ?_
 ·exact ⟨Nat.zero_le _, rfl⟩
 rintro k ⟨h1, h2⟩
 repeat' (first | apply zC | apply zG | apply zD | apply zL | apply zA | apply zB | refine zF qS qR ?_ ?_ | refine yD (hp k (by assumption)) qZ qZ ?_ qS ?_ | (refine zE qS ?_ ?_ <;> intro hb <;> have hc := hb <;> (try simp only [bF] at hc) <;> (try (exfalso; simp at hc; done))) | refine zI qR ?_ | refine zK qR ?_ | refine zS (k+1) ?_ ?_ ⟨rfl, qL, qL⟩ | exact True.intro | exact rfl | omega | refine SLe0.int ?_ | exact qP | fail)
 ·rw [h2, idxF_step _ _ _ ‹k < _›, if_pos hb]
 ·exact ⟨by omega, by rw [h2, idxF_step _ _ _ ‹k < _›, if_neg (by rw [Bool.not_eq_true]; exact hb)]⟩
 ·rw [h2, idxF_end _ _ _ (by omega)]
theorem K141 : FnOK Tryz.prog 141 (fun ds d => ∃ l f caps p, (∀ i, i < l.length → FnV Tryz.prog f caps [eItem (l.getD i default)] (.bool (p (l.getD i default)))) ∧ ds = [eList 2 eItem l, .fn f caps] ∧ d = eInt (idxF p l 0)) := by
 refine fn_intro Tryz.call141 Tryz.func141 rfl Tryz.ntmps141 ?_
 rintro ds d ⟨l, f, caps, p, hp, rfl, rfl⟩
 refine ⟨by simp, fun w0 => ?_⟩
 refine run_len 0 rfl fun hl => ?_
 repeat' (first | apply zC | apply zD | apply zA | apply zB | refine zF qS qR ?_ ?_ | exact True.intro | exact rfl | fail)
 refine zN [0, 1, 6, 7] (fun k : Nat => [(8, .int .i64 k)]) (fun k : Nat => []) (fun k : Nat => k ≤ l.length ∧ idxF p l 0 = idxF p (l.drop k) k) (fun k : Nat => l.length - k) 0 (fun x => qS) ?_ qL qL ?_
 ·exact ⟨Nat.zero_le _, rfl⟩
 rintro k ⟨h1, h2⟩
 repeat' (first | apply zC | apply zG | apply zD | apply zL | apply zA | apply zB | refine zF qS qR ?_ ?_ | refine yD (hp k (by assumption)) qZ qZ ?_ qS ?_ | (refine zE qS ?_ ?_ <;> intro hb <;> have hc := hb <;> (try simp only [bF] at hc) <;> (try (exfalso; simp at hc; done))) | refine zI qR ?_ | refine zK qR ?_ | refine zS (k+1) ?_ ?_ ⟨rfl, qL, qL⟩ | exact True.intro | exact rfl | omega | refine SLe0.int ?_ | exact qP | fail)
 ·rw [h2, idxF_step _ _ _ ‹k < _›, if_pos hb]
 ·exact ⟨by omega, by rw [h2, idxF_step _ _ _ ‹k < _›, if_neg (by rw [Bool.not_eq_true]; exact hb)]⟩
 ·rw [h2, idxF_end _ _ _ (by omega)]
theorem K184 : FnOK Tryz.prog 184 (fun ds d => ∃ l f caps p, (∀ i, i < l.length → FnV Tryz.prog f caps [eInt (l.getD i default)] (.bool (p (l.getD i default)))) ∧ ds = [ints l, .fn f caps] ∧ d = eInt (idxF p l 0)) := by
 refine fn_intro Tryz.call184 Tryz.func184 rfl Tryz.ntmps184 ?_
 rintro ds d ⟨l, f, caps, p, hp, rfl, rfl⟩
 refine ⟨by simp, fun w0 => ?_⟩
 refine run_len 0 rfl fun hl => ?_
 repeat' (first | apply zC | apply zD | apply zA | apply zB | refine zF qS qR ?_ ?_ | exact True.intro | exact rfl | fail)
 refine zN [0, 1, 6, 7] (fun k : Nat => [(8, .int .i64 k)]) (fun k : Nat => []) (fun k : Nat => k ≤ l.length ∧ idxF p l 0 = idxF p (l.drop k) k) (fun k : Nat => l.length - k) 0 (fun x => qS) ?_ qL qL ?_
 ·exact ⟨Nat.zero_le _, rfl⟩
 rintro k ⟨h1, h2⟩
 repeat' (first | apply zC | apply zG | apply zD | apply zL | apply zA | apply zB | refine zF qS qR ?_ ?_ | refine yD (hp k (by assumption)) qZ qZ ?_ qS ?_ | (refine zE qS ?_ ?_ <;> intro hb <;> have hc := hb <;> (try simp only [bF] at hc) <;> (try (exfalso; simp at hc; done))) | refine zI qR ?_ | refine zK qR ?_ | refine zS (k+1) ?_ ?_ ⟨rfl, qL, qL⟩ | exact True.intro | exact rfl | omega | refine SLe0.int ?_ | exact qP | fail)
 ·rw [h2, idxF_step _ _ _ ‹k < _›, if_pos hb]
 ·exact ⟨by omega, by rw [h2, idxF_step _ _ _ ‹k < _›, if_neg (by rw [Bool.not_eq_true]; exact hb)]⟩
 ·rw [h2, idxF_end _ _ _ (by omega)]
theorem K238 : FnOK Tryz.prog 238 (fun ds d => ∃ l f caps p, (∀ i, i < l.length → FnV Tryz.prog f caps [eCourse (l.getD i default)] (.bool (p (l.getD i default)))) ∧ ds = [eList 2 eCourse l, .fn f caps] ∧ d = eInt (idxF p l 0)) := by
 refine fn_intro Tryz.call238 Tryz.func238 rfl Tryz.ntmps238 ?_
 rintro ds d ⟨l, f, caps, p, hp, rfl, rfl⟩
 refine ⟨by simp, fun w0 => ?_⟩
 refine run_len 0 rfl fun hl => ?_
 repeat' (first | apply zC | apply zD | apply zA | apply zB | refine zF qS qR ?_ ?_ | exact True.intro | exact rfl | fail)
 refine zN [0, 1, 6, 7] (fun k : Nat => [(8, .int .i64 k)]) (fun k : Nat => []) (fun k : Nat => k ≤ l.length ∧ idxF p l 0 = idxF p (l.drop k) k) (fun k : Nat => l.length - k) 0 (fun x => qS) ?_ qL qL ?_
 ·exact ⟨Nat.zero_le _, rfl⟩
 rintro k ⟨h1, h2⟩
 repeat' (first | apply zC | apply zG | apply zD | apply zL | apply zA | apply zB | refine zF qS qR ?_ ?_ | refine yD (hp k (by assumption)) qZ qZ ?_ qS ?_ | (refine zE qS ?_ ?_ <;> intro hb <;> have hc := hb <;> (try simp only [bF] at hc) <;> (try (exfalso; simp at hc; done))) | refine zI qR ?_ | refine zK qR ?_ | refine zS (k+1) ?_ ?_ ⟨rfl, qL, qL⟩ | exact True.intro | exact rfl | omega | refine SLe0.int ?_ | exact qP | fail)
 ·rw [h2, idxF_step _ _ _ ‹k < _›, if_pos hb]
 ·exact ⟨by omega, by rw [h2, idxF_step _ _ _ ‹k < _›, if_neg (by rw [Bool.not_eq_true]; exact hb)]⟩
 ·rw [h2, idxF_end _ _ _ (by omega)]
theorem K85 : FnOK Tryz.prog 85 (fun ds d => ∃ l f caps p, (∀ i, i < l.length → FnV Tryz.prog f caps [eItem (l.getD i default)] (.bool (p (l.getD i default)))) ∧ ds = [eList 2 eItem l, .fn f caps] ∧ d = .bool (l.any p)) := by
 refine fn_intro Tryz.call85 Tryz.func85 rfl Tryz.ntmps85 ?_
 rintro ds d ⟨l, f, caps, p, hp, rfl, rfl⟩
 refine ⟨by simp, fun w0 => ?_⟩
 repeat' (first | apply zC | apply zA | apply zB | refine zF qS qR ?_ ?_ | refine zM K141 qD ?_ ⟨l, f, caps, p, hp, rfl, rfl⟩ qS ?_ | refine zI qR ?_ | exact True.intro | exact rfl | refine SLe0.bool ?_ | fail)
 exact idxF_any _ _ _
theorem K139 : FnOK Tryz.prog 139 (fun ds d => ∃ l f caps p, (∀ i, i < l.length → FnV Tryz.prog f caps [eInt (l.getD i default)] (.bool (p (l.getD i default)))) ∧ ds = [ints l, .fn f caps] ∧ d = .bool (l.any p)) := by
 refine fn_intro Tryz.call139 Tryz.func139 rfl Tryz.ntmps139 ?_
 rintro ds d ⟨l, f, caps, p, hp, rfl, rfl⟩
 refine ⟨by simp, fun w0 => ?_⟩
 repeat' (first | apply zC | apply zA | apply zB | refine zF qS qR ?_ ?_ | refine zM K184 qD ?_ ⟨l, f, caps, p, hp, rfl, rfl⟩ qS ?_ | refine zI qR ?_ | exact True.intro | exact rfl | refine SLe0.bool ?_ | fail)
 exact idxF_any _ _ _
theorem K225 : FnOK Tryz.prog 225 (fun ds d => ∃ l f caps p, (∀ i, i < l.length → FnV Tryz.prog f caps [eCourse (l.getD i default)] (.bool (p (l.getD i default)))) ∧ ds = [eList 2 eCourse l, .fn f caps] ∧ d = .bool (l.any p)) := by
 refine fn_intro Tryz.call225 Tryz.func225 rfl Tryz.ntmps225 ?_
 rintro ds d ⟨l, f, caps, p, hp, rfl, rfl⟩
 refine ⟨by simp, fun w0 => ?_⟩
 repeat' (first | apply zC | apply zA | apply zB | refine zF qS qR ?_ ?_ | refine zM K238 qD ?_ ⟨l, f, caps, p, hp, rfl, rfl⟩ qS ?_ | refine zI qR ?_ | exact True.intro | exact rfl | refine SLe0.bool ?_ | fail)
 exact idxF_any _ _ _
end Go.Sx
namespace Go.Sx
open Go.Proofs Go.RowKit
attribute [local irreducible] Run RunL RunD SLe0 SLe OLe
set_option maxHeartbeats 2000000
set_option maxRecDepth 8000
theorem K80 : FnOK Tryz.prog 80 (fun ds d => ∃ o c, ds = [eOffer o, .fp [.str c]] ∧ d = .bool (o.Code == c)) := by
 refine fn_intro Tryz.call80 Tryz.func80 rfl Tryz.ntmps80 ?_
 rintro ds d ⟨o, c, rfl, rfl⟩
 refine ⟨by simp, fun w0 => ?_⟩
 repeat' (first | apply zC | apply zA | apply zB | refine zF qS qR ?_ ?_ | refine zI qR ?_ | exact True.intro | exact rfl | exact SLe0.bool rfl | fail)
theorem K140 : FnOK Tryz.prog 140 (fun ds d => ∃ (n : Int) (o : Offer), ds = [eInt n, .fp [.str o.Code, .int .i64 o.Credits, .int .i64 o.Places, ints o.Slots, strs o.Needs]] ∧ d = .bool (o.Slots.any fun y => n == y)) := by
 refine fn_intro Tryz.call140 Tryz.func140 rfl Tryz.ntmps140 ?_
 rintro ds d ⟨n, o, rfl, rfl⟩
 refine ⟨by simp, fun w0 => ?_⟩
 repeat' (first | apply zC | apply zA | apply zB | refine zF qS qR ?_ ?_ | refine zM K115 qD ?_ ⟨_, _, rfl, rfl⟩ qS ?_ | refine zI qR ?_ | exact True.intro | exact rfl | exact SLe0.bool rfl | fail)
theorem K83 : FnOK Tryz.prog 83 (fun ds d => ∃ a b, ds = [eOffer a, eOffer b] ∧ d = .bool (a.Slots.any fun n => b.Slots.any fun y => n == y)) := by
 refine fn_intro Tryz.call83 Tryz.func83 rfl Tryz.ntmps83 ?_
 rintro ds d ⟨a, b, rfl, rfl⟩
 refine ⟨by simp, fun w0 => ?_⟩
 repeat' (first | refine runL_frz 1 qS ?_ | apply zC | apply zA | apply zB | refine zF qS qR ?_ ?_ | refine zM K139 qD ?_ ⟨a.Slots, 140, [.fp [.str b.Code, .int .i64 b.Credits, .int .i64 b.Places, ints b.Slots, strs b.Needs]], fun n => b.Slots.any fun y => n == y, fun i _ => ⟨_, K140, _, b, rfl, rfl⟩, rfl, rfl⟩ qS ?_ | refine zI qR ?_ | exact True.intro | exact rfl | exact SLe0.bool rfl | fail)
theorem K81 : FnOK Tryz.prog 81 (fun ds d => ∃ o, ds = [eOffer o] ∧ d = eOffer o) := by
 refine fn_intro Tryz.call81 Tryz.func81 rfl Tryz.ntmps81 ?_
 rintro ds d ⟨o, rfl, rfl⟩
 refine ⟨by simp, fun w0 => ?_⟩
 repeat' (first | apply zC | apply zA | apply zP | apply zB | refine zF qS qR ?_ ?_ | refine zU qS qR ?_ ?_ | refine zQ qK qK ?_ | refine zX K137 qD ?_ ⟨_, rfl, rfl⟩ qS ?_ | refine zX K138 qD ?_ ⟨_, rfl, rfl⟩ qS ?_ | refine yA qR qS ?_ | exact True.intro | exact rfl | exact SLe0.pure rfl | fail)
def findO (c : ByteArray) : List Offer → Option Offer
 | [] => none
 | o :: r => if o.Code == c then some o else findO c r
def eFound (x : Option Offer) : SD := .tup [eOffer (x.getD default), .bool x.isSome]
theorem findO_idx (c : ByteArray) : ∀ (l : List Offer) (k : Nat), (idxF (fun o => o.Code == c) l k = -1 ∧ findO c l = none) ∨ ∃ j, j < l.length ∧ idxF (fun o => o.Code == c) l k = ((k + j : Nat) : Int) ∧ findO c l = some (l.getD j default)
 | [], k => .inl ⟨rfl, rfl⟩
 | o :: r, k => by
  by_cases h : (o.Code == c) = true
  ·exact .inr ⟨0, by simp, by simp [idxF, h], by simp [findO, h]⟩
  ·rcases findO_idx c r (k + 1) with ⟨h1, h2⟩ | ⟨j, h1, h2, h3⟩
   ·exact .inl ⟨by simp only [idxF, h]; exact h1, by simp only [findO, h]; exact h2⟩
   ·refine .inr ⟨j + 1, by simp; omega, ?_, ?_⟩
    ·simp only [idxF, h, Bool.false_eq_true, if_false, h2]
     omega
    ·simp only [findO, h, Bool.false_eq_true, if_false, h3, List.getD_cons_succ]
theorem K28 : FnOK Tryz.prog 28 (fun ds d => ∃ l c, ds = [eList 5 eOffer l, eStr c] ∧ d = eFound (findO c l)) := by
 refine fn_intro Tryz.call28 Tryz.func28 rfl Tryz.ntmps28 ?_
 rintro ds d ⟨l, c, rfl, rfl⟩
 refine ⟨by simp, fun w0 => ?_⟩
 rcases findO_idx c l 0 with ⟨g1, g2⟩ | ⟨j, g0, g1, g2⟩
 ·repeat' (first | refine runL_frz 0 qS ?_ | apply zC | apply zG | apply zA | apply zB | refine zF qS qR ?_ ?_ | refine zM K79 qD ?_ ⟨l, 80, [.fp [.str c]], fun o => o.Code == c, fun i _ => ⟨_, K80, _, c, rfl, rfl⟩, rfl, rfl⟩ qS ?_ | refine zM K81 qD ?_ ⟨_, rfl, rfl⟩ qS ?_ | (refine zE qS ?_ ?_ <;> intro hb <;> have hc := hb <;> (try simp only [bF] at hc) <;> (try (exfalso; simp at hc; done))) | refine yA qR qS ?_ | exact True.intro | exact rfl | omega)
  rw [g2]
  (refine SLe0.le qZ ?_; repeat' (first | exact True.intro | exact SLe.refl _ | refine SLe.agg ?_ | refine SLe.tup ?_ | refine And.intro ?_ ?_ | exact SLe.nils | refine SLe.int ?_ | refine SLe.bool ?_ | refine SLe.str ?_))
 ·repeat' (first | refine runL_frz 0 qS ?_ | apply zC | apply zG | apply zA | apply zB | refine zF (by simp only [go_sem, g1, Nat.zero_add]; rfl) qR ?_ ?_ | refine zM K79 (by simp only [go_sem, g1, Nat.zero_add]; first | done | rfl) ?_ ⟨l, 80, [.fp [.str c]], fun o => o.Code == c, fun i _ => ⟨_, K80, _, c, rfl, rfl⟩, rfl, rfl⟩ (by simp only [go_sem, g1, Nat.zero_add]; rfl) ?_ | refine zM K81 (by simp only [go_sem, g1, Nat.zero_add]; first | done | rfl) ?_ ⟨_, rfl, rfl⟩ (by simp only [go_sem, g1, Nat.zero_add]; rfl) ?_ | (refine zE (by simp only [go_sem, g1, Nat.zero_add]; rfl) ?_ ?_ <;> intro hb <;> have hc := hb <;> (try simp only [bF] at hc) <;> (try (exfalso; simp at hc; done))) | refine yA qR (by simp only [go_sem, g1, Nat.zero_add]; rfl) ?_ | exact True.intro | exact rfl | omega | exact qP | fail)
  rw [g2]
  exact SLe0.pure rfl
def credits : List Ach → Int → Int
 | [], n => n
 | a :: r, n => credits r (wr (n + a.Credits))
theorem K105 : FnOK Tryz.prog 105 (fun ds d => ∃ l, ds = [eList 8 eAch l] ∧ d = eInt (credits l 0)) := by
 refine fn_intro Tryz.call105 Tryz.func105 rfl Tryz.ntmps105 ?_
 rintro ds d ⟨l, rfl, rfl⟩
 refine ⟨by simp, fun w0 => ?_⟩
 refine run_len 0 rfl fun hl => ?_
 repeat' (first | apply zC | apply zD | apply zA | apply zB | refine zF qS qR ?_ ?_ | exact True.intro | exact rfl | fail)
 refine zN [6, 7] (fun x : Nat × Int => [(8, .int .i64 x.1), (3, .int .i64 x.2)]) (fun x : Nat × Int => []) (fun x : Nat × Int => x.1 ≤ l.length ∧ credits l 0 = credits (l.drop x.1) x.2) (fun x : Nat × Int => l.length - x.1) (0, 0) (fun x => qS) ?_ qL qL ?_
 ·exact ⟨Nat.zero_le _, rfl⟩
 rintro ⟨k, n⟩ ⟨h1, h2⟩
 simp only at h1 h2
 repeat' (first | apply zC | apply zG | apply zD | apply zL | apply zA | apply zB | refine zF qS qR ?_ ?_ | (refine zE qS ?_ ?_ <;> intro hb <;> have hc := hb <;> (try simp only [bF] at hc) <;> (try (exfalso; simp at hc; done))) | refine zI qR ?_ | refine zK qR ?_ | refine zS (k+1,wr (n+(l.getD k default).Credits)) ?_ ?_ ⟨rfl, qL, qL⟩ | exact True.intro | exact rfl | omega | refine SLe0.int ?_ | exact qP | fail)
 ·refine ⟨by simp only; omega, ?_⟩
  rw [h2, drop_get _ _ ‹k < _›]; rfl
 ·rw [h2, List.drop_of_length_le (by omega)]; rfl
end Go.Sx
namespace Go.Sx
open Go.Proofs Go.RowKit
attribute [local irreducible] Run RunL RunD SLe0 SLe OLe
set_option maxHeartbeats 2000000
set_option maxRecDepth 8000
theorem K84 : FnOK Tryz.prog 84 (fun ds d => ∃ (y : Item) (n : ByteArray) (x : Item), ds = [eItem y, .fp [.str n], .fp [.int .i64 x.Term, .str x.Code]] ∧ d = .bool (y.Code == n && decide (y.Term < x.Term))) := by
 refine fn_intro Tryz.call84 Tryz.func84 rfl Tryz.ntmps84 ?_
 rintro ds d ⟨y, n, x, rfl, rfl⟩
 refine ⟨by simp, fun w0 => ?_⟩
 repeat' (first | apply zC | apply zA | apply zB | refine zF qS qR ?_ ?_ | refine zI qR ?_ | exact True.intro | exact rfl | exact SLe0.bool rfl | exact qP | fail)
def hasC (c : Case) (code : ByteArray) : Bool := c.Has.any fun a => sameC a.Course ⟨c.Programme.School, code⟩
def excl (p : Programme) (a b : Course) : Bool := p.Exclude.any fun x => sameP x (a, b) || sameP x (b, a)
theorem K113 : FnOK Tryz.prog 113 (fun ds d => ∃ p a b, ds = [eProg p, eCourse a, eCourse b] ∧ d = .bool (excl p a b)) := by
 refine fn_intro Tryz.call113 Tryz.func113 rfl Tryz.ntmps113 ?_
 rintro ds d ⟨p, a, b, rfl, rfl⟩
 refine ⟨by simp, fun w0 => ?_⟩
 refine yE 0 13 rfl rfl fun la => ?_
 repeat' (first | apply zC | apply zD | apply zA | apply zB | refine zF qS qR ?_ ?_ | exact True.intro | exact rfl | fail)
 refine zN [3, 4, 5] (fun k : Nat => [(7, .int .i64 k)]) (fun k : Nat => []) (fun k : Nat => k ≤ p.Exclude.length ∧ excl p a b = (p.Exclude.drop k).any (fun x => sameP x (a, b) || sameP x (b, a))) (fun k : Nat => p.Exclude.length - k) 0 (fun x => qS) ?_ qL qL ?_
 ·exact ⟨Nat.zero_le _, rfl⟩
 rintro k ⟨h1, h2⟩
 repeat' (first | apply zC | apply zG | apply zD | apply zL | apply zA | apply zB | refine zF qS qR ?_ ?_ | (refine zE qS ?_ ?_ <;> intro hb <;> have hc := hb <;> (try simp only [bF] at hc) <;> (try (exfalso; simp at hc; done))) | refine zI qR ?_ | refine zK qR ?_ | refine zS (k+1) ?_ ?_ ⟨rfl, qL, qL⟩ | exact True.intro | exact rfl | omega | refine SLe0.bool ?_ | exact qP | fail)
 ·rw [h2, drop_get _ _ ‹k < _›, List.any_cons, show (sameP (p.Exclude.getD k default) (a, b) || sameP (p.Exclude.getD k default) (b, a)) = true from hb]; rfl
 ·refine ⟨by omega, ?_⟩
  rw [h2, drop_get _ _ ‹k < _›, List.any_cons, show (sameP (p.Exclude.getD k default) (a, b) || sameP (p.Exclude.getD k default) (b, a)) = false from hb]; rfl
 ·rw [h2, List.drop_of_length_le (by omega)]; rfl
def needsP (c : Case) (l : List Item) (x : Item) (o : Offer) : Bool := o.Needs.all fun n => hasC c n || l.any fun y => y.Code == n && decide (y.Term < x.Term)
end Go.Sx
