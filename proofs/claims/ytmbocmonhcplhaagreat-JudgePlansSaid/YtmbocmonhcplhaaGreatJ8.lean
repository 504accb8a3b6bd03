/- Lemmas on the judge: J5, J6, J7, J8a, J8. -/
import Derived.Test.YtmbocmonhcplhaaGreatJ15
set_option linter.all false
set_option maxHeartbeats 2000000
set_option maxRecDepth 8000
namespace Go.Sx
open Go.Proofs Tryz Go.RowKit
attribute [local irreducible] Run zAg zAs zAc SLe OLe
theorem A137 : zL0 prog 137 (fun ds T es n g => ∃ l, ds = [ints l] /\ T = 3 /\ es = 1 /\ n = l.length /\ g = fun i => eInt (l.getD i default)) := by
 refine zFp call137 func137 rfl ntmps137 ?_;rintro ds T es n g ⟨l, rfl, rfl, rfl, rfl, rfl⟩;refine ⟨by simp, fun w0 => ?_⟩;refine zBf 0 rfl fun hl => ?_
 rcases l with _ | ⟨x, r⟩
 ·repeat' (first | refine wA ?_ | refine zC qS qR ?_ ?_ | refine zY qS qZ qZ (fun bn hbn => ?_) | (refine zAa qS qC qC ?_ ?_ <;> intro hb hc <;> try (simp at hc; done)) | refine zBj qR qR qR ?_ ?_ | refine zCd qR qR ?_ | exact qT | omega | exact qP | fail)
  all_goals first | exact hbn hc | exact rfl | (intro i hi; exact absurd hi (by simp)) | (intro i _; simp only [zBm, zyi, if_false, Nat.sub_zero]; rfl)
 ·have hl' : r.length + 1 <= 68719476736 := by simpa using hl
  repeat' (first | refine wA ?_ | refine zC qS qR ?_ ?_ | (refine zAa qS qC qC ?_ ?_ <;> intro hb hc <;> try (simp at hc; done)) | refine zBj qR qR qR ?_ ?_ | exact qT | exact qP | fail)
  all_goals first | (show zAl _; simp only [zAl]; omega) | (simp only [List.length_cons]; omega) | (intro i _; simp only [zBm, zyi, if_false, Nat.sub_zero]; rfl)
theorem K137 : FnOK prog 137 (fun ds d => ∃ l, ds = [ints l] /\ d = ints l) :=
 A137.toOK.weaken fun ds d h => by
  obtain ⟨l, rfl, rfl⟩ := h;exact ⟨_, _, _, _, ⟨l, rfl, rfl, rfl, rfl, rfl⟩, rfl⟩
theorem A138 : zL0 prog 138 (fun ds T es n g => ∃ l, ds = [strs l] /\ T = 9 /\ es = 1 /\ n = l.length /\ g = fun i => eStr (l.getD i default)) := by
 refine zFp call138 func138 rfl ntmps138 ?_;rintro ds T es n g ⟨l, rfl, rfl, rfl, rfl, rfl⟩;refine ⟨by simp, fun w0 => ?_⟩;refine zBf 0 rfl fun hl => ?_
 rcases l with _ | ⟨x, r⟩
 ·repeat' (first | refine wA ?_ | refine zC qS qR ?_ ?_ | refine zY qS qZ qZ (fun bn hbn => ?_) | (refine zAa qS qC qC ?_ ?_ <;> intro hb hc <;> try (simp at hc; done)) | refine zBj qR qR qR ?_ ?_ | refine zCd qR qR ?_ | exact qT | omega | exact qP | fail)
  all_goals first | exact hbn hc | exact rfl | (intro i hi; exact absurd hi (by simp)) | (intro i _; simp only [zBm, zyi, if_false, Nat.sub_zero]; rfl)
 ·have hl' : r.length + 1 <= 68719476736 := by simpa using hl
  repeat' (first | refine wA ?_ | refine zC qS qR ?_ ?_ | (refine zAa qS qC qC ?_ ?_ <;> intro hb hc <;> try (simp at hc; done)) | refine zBj qR qR qR ?_ ?_ | exact qT | exact qP | fail)
  all_goals first | (show zAl _; simp only [zAl]; omega) | (simp only [List.length_cons]; omega) | (intro i _; simp only [zBm, zyi, if_false, Nat.sub_zero]; rfl)
theorem K138 : FnOK prog 138 (fun ds d => ∃ l, ds = [strs l] /\ d = strs l) :=
 A138.toOK.weaken fun ds d h => by
  obtain ⟨l, rfl, rfl⟩ := h;exact ⟨_, _, _, _, ⟨l, rfl, rfl, rfl, rfl, rfl⟩, rfl⟩
theorem A223 : zL0 prog 223 (fun ds T es n g => ∃ l, ds = [zAj 2 zAv l] /\ T = 63 /\ es = 2 /\ n = l.length /\ g = fun i => zAv (l.getD i default)) := by
 refine zFp call223 func223 rfl ntmps223 ?_;rintro ds T es n g ⟨l, rfl, rfl, rfl, rfl, rfl⟩;refine ⟨by simp, fun w0 => ?_⟩;refine zBf 0 rfl fun hl => ?_
 rcases l with _ | ⟨x, r⟩
 ·repeat' (first | refine wA ?_ | refine zC qS qR ?_ ?_ | refine zY qS qZ qZ (fun bn hbn => ?_) | (refine zAa qS qC qC ?_ ?_ <;> intro hb hc <;> try (simp at hc; done)) | refine zBj qR qR qR ?_ ?_ | refine zCd qR qR ?_ | exact qT | omega | exact qP | fail)
  all_goals first | exact hbn hc | exact rfl | (intro i hi; exact absurd hi (by simp)) | (intro i _; simp only [zBm, zyi, if_false, Nat.sub_zero]; rfl)
 ·have hl' : r.length + 1 <= 68719476736 := by simpa using hl
  repeat' (first | refine wA ?_ | refine zC qS qR ?_ ?_ | (refine zAa qS qC qC ?_ ?_ <;> intro hb hc <;> try (simp at hc; done)) | refine zBj qR qR qR ?_ ?_ | exact qT | exact qP | fail)
  all_goals first | (show zAl _; simp only [zAl]; omega) | (simp only [List.length_cons]; omega) | (intro i _; simp only [zBm, zyi, if_false, Nat.sub_zero]; rfl)
theorem K223 : FnOK prog 223 (fun ds d => ∃ l, ds = [zAj 2 zAv l] /\ d = zAj 2 zAv l) :=
 A223.toOK.weaken fun ds d h => by
  obtain ⟨l, rfl, rfl⟩ := h;exact ⟨_, _, _, _, ⟨l, rfl, rfl, rfl, rfl, rfl⟩, rfl⟩
theorem A27 : zL0 prog 27 (fun ds T es n g => ∃ l, ds = [zAj 8 zCk l] /\ T = 65 /\ es = 8 /\ n = l.length /\ g = fun i => zCk (l.getD i default)) := by
 refine zFp call27 func27 rfl ntmps27 ?_;rintro ds T es n g ⟨l, rfl, rfl, rfl, rfl, rfl⟩;refine ⟨by simp, fun w0 => ?_⟩;refine zBf 0 rfl fun hl => ?_
 rcases l with _ | ⟨x, r⟩
 ·repeat' (first | refine wA ?_ | refine zC qS qR ?_ ?_ | refine zY qS qZ qZ (fun bn hbn => ?_) | (refine zAa qS qC qC ?_ ?_ <;> intro hb hc <;> try (simp at hc; done)) | refine zBj qR qR qR ?_ ?_ | refine zCd qR qR ?_ | exact qT | omega | exact qP | fail)
  all_goals first | exact hbn hc | exact rfl | (intro i hi; exact absurd hi (by simp)) | (intro i _; simp only [zBm, zyi, if_false, Nat.sub_zero]; rfl)
 ·have hl' : r.length + 1 <= 68719476736 := by simpa using hl
  repeat' (first | refine wA ?_ | refine zC qS qR ?_ ?_ | (refine zAa qS qC qC ?_ ?_ <;> intro hb hc <;> try (simp at hc; done)) | refine zBj qR qR qR ?_ ?_ | exact qT | exact qP | fail)
  all_goals first | (show zAl _; simp only [zAl]; omega) | (simp only [List.length_cons]; omega) | (intro i _; simp only [zBm, zyi, if_false, Nat.sub_zero]; rfl)
theorem K79 : FnOK prog 79 (fun ds d => ∃ l f caps p, (∀ i, i < l.length -> FnV prog f caps [zAt (l.getD i default)] (.bool (p (l.getD i default)))) /\ ds = [zAj 5 zAt l, .fn f caps] /\ d = eInt (zEf p l 0)) := by
 refine zAb call79 func79 rfl ntmps79 ?_;rintro ds d ⟨l, f, caps, p, hp, rfl, rfl⟩;refine ⟨by simp, fun w0 => ?_⟩;refine zBf 0 rfl fun hl => ?_
 repeat' (first | refine wA ?_ | exact qT | fail)
 refine zH [0, 1, 6, 7] (fun k : Nat => [(8, .int .i64 k)]) (fun k => []) (fun k => k <= l.length /\ zEf p l 0 = zEf p (l.drop k) k) (fun k => l.length - k) 0 (fun x => qS) ?_ qL qL ?_
 ·exact ⟨zz7 _, rfl⟩
 rintro k ⟨h1, h2⟩
 repeat' (first | refine wA ?_ | refine zC qS qR ?_ ?_ | refine zW (hp k (by assumption)) qZ qZ ?_ qS ?_ | (refine zAa qS qC qC ?_ ?_ <;> intro hb hc <;> try (simp at hc; done)) | refine zE qR ?_ | refine zF qR ?_ | refine zL (k+1) ?_ ?_ ⟨rfl, qL, qL⟩ | exact qT | omega | refine zAc.int ?_ | exact qP | fail)
 ·rw [h2, zAx _ _ _ ‹k < _›, if_pos hb]
 ·exact ⟨by omega, by rw [h2, zAx _ _ _ ‹k < _›, if_neg (by rw [Bool.not_eq_true]; exact hb)]⟩
 ·rw [h2, zDp _ _ _ (by omega)]
theorem yKz : FnOK prog 101 (fun ds d => ∃ l f caps p, (∀ i, i < l.length -> FnV prog f caps [zCk (l.getD i default)] (.bool (p (l.getD i default)))) /\ ds = [zAj 8 zCk l, .fn f caps] /\ d = eInt (zEf p l 0)) := by
 refine zAb call101 func101 rfl ntmps101 ?_;rintro ds d ⟨l, f, caps, p, hp, rfl, rfl⟩;refine ⟨by simp, fun w0 => ?_⟩;refine zBf 0 rfl fun hl => ?_
 repeat' (first | refine wA ?_ | exact qT | fail)
 refine zH [0, 1, 6, 7] (fun k : Nat => [(8, .int .i64 k)]) (fun k => []) (fun k => k <= l.length /\ zEf p l 0 = zEf p (l.drop k) k) (fun k => l.length - k) 0 (fun x => qS) ?_ qL qL ?_
 ·exact ⟨zz7 _, rfl⟩
 rintro k ⟨h1, h2⟩
 repeat' (first | refine wA ?_ | refine zC qS qR ?_ ?_ | refine zW (hp k (by assumption)) qZ qZ ?_ qS ?_ | (refine zAa qS qC qC ?_ ?_ <;> intro hb hc <;> try (simp at hc; done)) | refine zE qR ?_ | refine zF qR ?_ | refine zL (k+1) ?_ ?_ ⟨rfl, qL, qL⟩ | exact qT | omega | refine zAc.int ?_ | exact qP | fail)
 ·rw [h2, zAx _ _ _ ‹k < _›, if_pos hb]
 ·exact ⟨by omega, by rw [h2, zAx _ _ _ ‹k < _›, if_neg (by rw [Bool.not_eq_true]; exact hb)]⟩
 ·rw [h2, zDp _ _ _ (by omega)]
theorem K141 : FnOK prog 141 (fun ds d => ∃ l f caps p, (∀ i, i < l.length -> FnV prog f caps [zCv (l.getD i default)] (.bool (p (l.getD i default)))) /\ ds = [zAj 2 zCv l, .fn f caps] /\ d = eInt (zEf p l 0)) := by
 refine zAb call141 func141 rfl ntmps141 ?_;rintro ds d ⟨l, f, caps, p, hp, rfl, rfl⟩;refine ⟨by simp, fun w0 => ?_⟩;refine zBf 0 rfl fun hl => ?_
 repeat' (first | refine wA ?_ | exact qT | fail)
 refine zH [0, 1, 6, 7] (fun k : Nat => [(8, .int .i64 k)]) (fun k => []) (fun k => k <= l.length /\ zEf p l 0 = zEf p (l.drop k) k) (fun k => l.length - k) 0 (fun x => qS) ?_ qL qL ?_
 ·exact ⟨zz7 _, rfl⟩
 rintro k ⟨h1, h2⟩
 repeat' (first | refine wA ?_ | refine zC qS qR ?_ ?_ | refine zW (hp k (by assumption)) qZ qZ ?_ qS ?_ | (refine zAa qS qC qC ?_ ?_ <;> intro hb hc <;> try (simp at hc; done)) | refine zE qR ?_ | refine zF qR ?_ | refine zL (k+1) ?_ ?_ ⟨rfl, qL, qL⟩ | exact qT | omega | refine zAc.int ?_ | exact qP | fail)
 ·rw [h2, zAx _ _ _ ‹k < _›, if_pos hb]
 ·exact ⟨by omega, by rw [h2, zAx _ _ _ ‹k < _›, if_neg (by rw [Bool.not_eq_true]; exact hb)]⟩
 ·rw [h2, zDp _ _ _ (by omega)]
theorem K184 : FnOK prog 184 (fun ds d => ∃ l f caps p, (∀ i, i < l.length -> FnV prog f caps [eInt (l.getD i default)] (.bool (p (l.getD i default)))) /\ ds = [ints l, .fn f caps] /\ d = eInt (zEf p l 0)) := by
 refine zAb call184 func184 rfl ntmps184 ?_;rintro ds d ⟨l, f, caps, p, hp, rfl, rfl⟩;refine ⟨by simp, fun w0 => ?_⟩;refine zBf 0 rfl fun hl => ?_
 repeat' (first | refine wA ?_ | exact qT | fail)
 refine zH [0, 1, 6, 7] (fun k : Nat => [(8, .int .i64 k)]) (fun k => []) (fun k => k <= l.length /\ zEf p l 0 = zEf p (l.drop k) k) (fun k => l.length - k) 0 (fun x => qS) ?_ qL qL ?_
 ·exact ⟨zz7 _, rfl⟩
 rintro k ⟨h1, h2⟩
 repeat' (first | refine wA ?_ | refine zC qS qR ?_ ?_ | refine zW (hp k (by assumption)) qZ qZ ?_ qS ?_ | (refine zAa qS qC qC ?_ ?_ <;> intro hb hc <;> try (simp at hc; done)) | refine zE qR ?_ | refine zF qR ?_ | refine zL (k+1) ?_ ?_ ⟨rfl, qL, qL⟩ | exact qT | omega | refine zAc.int ?_ | exact qP | fail)
 ·rw [h2, zAx _ _ _ ‹k < _›, if_pos hb]
 ·exact ⟨by omega, by rw [h2, zAx _ _ _ ‹k < _›, if_neg (by rw [Bool.not_eq_true]; exact hb)]⟩
 ·rw [h2, zDp _ _ _ (by omega)]
theorem K238 : FnOK prog 238 (fun ds d => ∃ l f caps p, (∀ i, i < l.length -> FnV prog f caps [zAv (l.getD i default)] (.bool (p (l.getD i default)))) /\ ds = [zAj 2 zAv l, .fn f caps] /\ d = eInt (zEf p l 0)) := by
 refine zAb call238 func238 rfl ntmps238 ?_;rintro ds d ⟨l, f, caps, p, hp, rfl, rfl⟩;refine ⟨by simp, fun w0 => ?_⟩;refine zBf 0 rfl fun hl => ?_
 repeat' (first | refine wA ?_ | exact qT | fail)
 refine zH [0, 1, 6, 7] (fun k : Nat => [(8, .int .i64 k)]) (fun k => []) (fun k => k <= l.length /\ zEf p l 0 = zEf p (l.drop k) k) (fun k => l.length - k) 0 (fun x => qS) ?_ qL qL ?_
 ·exact ⟨zz7 _, rfl⟩
 rintro k ⟨h1, h2⟩
 repeat' (first | refine wA ?_ | refine zC qS qR ?_ ?_ | refine zW (hp k (by assumption)) qZ qZ ?_ qS ?_ | (refine zAa qS qC qC ?_ ?_ <;> intro hb hc <;> try (simp at hc; done)) | refine zE qR ?_ | refine zF qR ?_ | refine zL (k+1) ?_ ?_ ⟨rfl, qL, qL⟩ | exact qT | omega | refine zAc.int ?_ | exact qP | fail)
 ·rw [h2, zAx _ _ _ ‹k < _›, if_pos hb]
 ·exact ⟨by omega, by rw [h2, zAx _ _ _ ‹k < _›, if_neg (by rw [Bool.not_eq_true]; exact hb)]⟩
 ·rw [h2, zDp _ _ _ (by omega)]
theorem K85 : FnOK prog 85 (fun ds d => ∃ l f caps p, (∀ i, i < l.length -> FnV prog f caps [zCv (l.getD i default)] (.bool (p (l.getD i default)))) /\ ds = [zAj 2 zCv l, .fn f caps] /\ d = .bool (l.any p)) := by
 refine zAb call85 func85 rfl ntmps85 ?_;rintro ds d ⟨l, f, caps, p, hp, rfl, rfl⟩;refine ⟨by simp, fun w0 => ?_⟩
 repeat' (first | refine wA ?_ | refine zG K141 qD ?_ ⟨l, f, caps, p, hp, rfl, rfl⟩ qS ?_ | refine zE qR ?_ | exact qT | refine zAc.bool ?_ | fail)
 exact zDq _ _ _
theorem yJo : FnOK prog 139 (fun ds d => ∃ l f caps p, (∀ i, i < l.length -> FnV prog f caps [eInt (l.getD i default)] (.bool (p (l.getD i default)))) /\ ds = [ints l, .fn f caps] /\ d = .bool (l.any p)) := by
 refine zAb call139 func139 rfl ntmps139 ?_;rintro ds d ⟨l, f, caps, p, hp, rfl, rfl⟩;refine ⟨by simp, fun w0 => ?_⟩
 repeat' (first | refine wA ?_ | refine zG K184 qD ?_ ⟨l, f, caps, p, hp, rfl, rfl⟩ qS ?_ | refine zE qR ?_ | exact qT | refine zAc.bool ?_ | fail)
 exact zDq _ _ _
theorem K225 : FnOK prog 225 (fun ds d => ∃ l f caps p, (∀ i, i < l.length -> FnV prog f caps [zAv (l.getD i default)] (.bool (p (l.getD i default)))) /\ ds = [zAj 2 zAv l, .fn f caps] /\ d = .bool (l.any p)) := by
 refine zAb call225 func225 rfl ntmps225 ?_;rintro ds d ⟨l, f, caps, p, hp, rfl, rfl⟩;refine ⟨by simp, fun w0 => ?_⟩
 repeat' (first | refine wA ?_ | refine zG K238 qD ?_ ⟨l, f, caps, p, hp, rfl, rfl⟩ qS ?_ | refine zE qR ?_ | exact qT | refine zAc.bool ?_ | fail)
 exact zDq _ _ _
theorem K80 : FnOK prog 80 (fun ds d => ∃ o c, ds = [zAt o, .fp [.str c]] /\ d = .bool (o.Code == c)) := by
 refine zAb call80 func80 rfl ntmps80 ?_;rintro ds d ⟨o, c, rfl, rfl⟩;refine ⟨by simp, fun w0 => ?_⟩
 repeat' (first | refine wA ?_ | refine zE qR ?_ | exact qT | exact zAc.bool rfl | fail)
theorem K140 : FnOK prog 140 (fun ds d => ∃ (n : Int) (o : Offer), ds = [eInt n, .fp [.str o.Code, .int .i64 o.Credits, .int .i64 o.Places, ints o.Slots, strs o.Needs]] /\ d = .bool (o.Slots.any fun y => n == y)) := by
 refine zAb call140 func140 rfl ntmps140 ?_;rintro ds d ⟨n, o, rfl, rfl⟩;refine ⟨by simp, fun w0 => ?_⟩
 repeat' (first | refine wA ?_ | refine zG yKy qD ?_ ⟨_, _, rfl, rfl⟩ qS ?_ | refine zE qR ?_ | exact qT | exact zAc.bool rfl | fail)
theorem K83 : FnOK prog 83 (fun ds d => ∃ a b, ds = [zAt a, zAt b] /\ d = .bool (a.Slots.any fun n => b.Slots.any fun y => n == y)) := by
 refine zAb call83 func83 rfl ntmps83 ?_;rintro ds d ⟨a, b, rfl, rfl⟩;refine ⟨by simp, fun w0 => ?_⟩
 repeat' (first | refine zBc 1 qS ?_ | refine wA ?_ | refine zG yJo qD ?_ ⟨a.Slots, 140, [.fp [.str b.Code, .int .i64 b.Credits, .int .i64 b.Places, ints b.Slots, strs b.Needs]], fun n => b.Slots.any fun y => n == y, fun i _ => ⟨_, K140, _, b, rfl, rfl⟩, rfl, rfl⟩ qS ?_ | refine zE qR ?_ | exact qT | exact zAc.bool rfl | fail)
theorem K81 : FnOK prog 81 (fun ds d => ∃ o, ds = [zAt o] /\ d = zAt o) := by
 refine zAb call81 func81 rfl ntmps81 ?_;rintro ds d ⟨o, rfl, rfl⟩;refine ⟨by simp, fun w0 => ?_⟩
 repeat' (first | refine wA ?_ | refine zM qS qR ?_ ?_ | refine zJ qK qK ?_ | refine zP K137 qD ?_ ⟨_, rfl, rfl⟩ qS ?_ | refine zP K138 qD ?_ ⟨_, rfl, rfl⟩ qS ?_ | refine zT qR qS ?_ | exact qT | exact zAc.pure rfl | fail)
def zDy (c : ByteArray) : List Offer -> Option Offer
 | [] => none
 | o :: r => if o.Code == c then some o else zDy c r
def zP7 (x : Option Offer) : SD := .tup [zAt (x.getD default), .bool x.isSome]
theorem zP3 (c : ByteArray) : ∀ (l : List Offer) (k : Nat), (zEf (fun o => o.Code == c) l k = -1 /\ zDy c l = none) \/ ∃ j, j < l.length /\ zEf (fun o => o.Code == c) l k = ((k + j : Nat) : Int) /\ zDy c l = some (l.getD j default)
 | [], k => .inl ⟨rfl, rfl⟩
 | o :: r, k => by
  by_cases h : (o.Code == c) = true
  ·exact .inr ⟨0, by simp, by simp [zEf, h], by simp [zDy, h]⟩
  ·rcases zP3 c r (k + 1) with ⟨h1, h2⟩ | ⟨j, h1, h2, h3⟩
   ·exact .inl ⟨by simp only [zEf, h]; exact h1, by simp only [zDy, h]; exact h2⟩
   ·refine .inr ⟨j + 1, by simp; omega, ?_, ?_⟩
    ·simp only [zEf, h, Bool.false_eq_true, if_false, h2]
     omega
    ·simp only [zDy, h, Bool.false_eq_true, if_false, h3, List.getD_cons_succ]
theorem K28 : FnOK prog 28 (fun ds d => ∃ l c, ds = [zAj 5 zAt l, eStr c] /\ d = zP7 (zDy c l)) := by
 refine zAb call28 func28 rfl ntmps28 ?_;rintro ds d ⟨l, c, rfl, rfl⟩;refine ⟨by simp, fun w0 => ?_⟩
 rcases zP3 c l 0 with ⟨g1, g2⟩ | ⟨j, g0, g1, g2⟩
 ·repeat' (first | refine zBc 0 qS ?_ | refine wA ?_ | refine zG K79 qD ?_ ⟨l, 80, [.fp [.str c]], fun o => o.Code == c, fun i _ => ⟨_, K80, _, c, rfl, rfl⟩, rfl, rfl⟩ qS ?_ | refine zG K81 qD ?_ ⟨_, rfl, rfl⟩ qS ?_ | (refine zAa qS qC qC ?_ ?_ <;> intro hb hc <;> try (simp at hc; done)) | refine zT qR qS ?_ | exact qT | omega)
  rw [g2]
  (refine zAc.le qZ ?_; repeat' (first | exact zz0 | exact SLe.refl _ | refine SLe.agg ?_ | refine SLe.tup ?_ | refine And.intro ?_ ?_ | exact SLe.nils | refine SLe.int ?_ | refine SLe.bool ?_ | refine SLe.str ?_))
 ·repeat' (first | refine zBc 0 qS ?_ | refine wB ?_ | refine zC (by simp only [go_sem, g1, Nat.zero_add]; rfl) qR ?_ ?_ | refine zG K79 (by simp only [go_sem, g1, Nat.zero_add]; first | done | rfl) ?_ ⟨l, 80, [.fp [.str c]], fun o => o.Code == c, fun i _ => ⟨_, K80, _, c, rfl, rfl⟩, rfl, rfl⟩ (by simp only [go_sem, g1, Nat.zero_add]; rfl) ?_ | refine zG K81 (by simp only [go_sem, g1, Nat.zero_add]; first | done | rfl) ?_ ⟨_, rfl, rfl⟩ (by simp only [go_sem, g1, Nat.zero_add]; rfl) ?_ | (refine zAa (by simp only [go_sem, g1, Nat.zero_add]; rfl) qC qC ?_ ?_ <;> intro hb hc <;> try (simp at hc; done)) | refine zT qR (by simp only [go_sem, g1, Nat.zero_add]; rfl) ?_ | exact qT | omega | exact qP | fail)
  rw [g2];exact zAc.pure rfl
def credits : List Ach -> Int -> Int
 | [], n => n
 | a :: r, n => credits r (wr (n + a.Credits))
theorem K105 : FnOK prog 105 (fun ds d => ∃ l, ds = [zAj 8 zCk l] /\ d = eInt (credits l 0)) := by
 refine zAb call105 func105 rfl ntmps105 ?_;rintro ds d ⟨l, rfl, rfl⟩;refine ⟨by simp, fun w0 => ?_⟩;refine zBf 0 rfl fun hl => ?_
 repeat' (first | refine wA ?_ | exact qT | fail)
 refine zH [6, 7] (fun x : Nat × Int => [(8, .int .i64 x.1), (3, .int .i64 x.2)]) (fun x => []) (fun x => x.1 <= l.length /\ credits l 0 = credits (l.drop x.1) x.2) (fun x => l.length - x.1) (0, 0) (fun x => qS) ?_ qL qL ?_
 ·exact ⟨zz7 _, rfl⟩
 rintro ⟨k, n⟩ ⟨h1, h2⟩;simp only at h1 h2
 repeat' (first | refine wA ?_ | refine zC qS qR ?_ ?_ | (refine zAa qS qC qC ?_ ?_ <;> intro hb hc <;> try (simp at hc; done)) | refine zE qR ?_ | refine zF qR ?_ | refine zL (k+1,wr (n+(l.getD k default).Credits)) ?_ ?_ ⟨rfl, qL, qL⟩ | exact qT | omega | refine zAc.int ?_ | exact qP | fail)
 ·refine ⟨by simp only; omega, ?_⟩
  rw [h2, zAr _ _ ‹k < _›]; rfl
 ·rw [h2, List.drop_of_length_le (by omega)]; rfl
theorem K84 : FnOK prog 84 (fun ds d => ∃ (y : Item) (n : ByteArray) (x : Item), ds = [zCv y, .fp [.str n], .fp [.int .i64 x.Term, .str x.Code]] /\ d = .bool (y.Code == n && decide (y.Term < x.Term))) := by
 refine zAb call84 func84 rfl ntmps84 ?_;rintro ds d ⟨y, n, x, rfl, rfl⟩;refine ⟨by simp, fun w0 => ?_⟩
 repeat' (first | refine wA ?_ | refine zC qS qR ?_ ?_ | refine zE qR ?_ | exact qT | exact zAc.bool rfl | exact qP | fail)
def zOc (c : Case) (code : ByteArray) : Bool := c.Has.any fun a => zD2 a.Course ⟨c.Programme.School, code⟩
def excl (p : Programme) (a b : Course) : Bool := p.Exclude.any fun x => zF1 x (a, b) || zF1 x (b, a)
def zGt (c : Case) (l : List Item) (x : Item) (o : Offer) : Bool := o.Needs.all fun n => zOc c n || l.any fun y => y.Code == n && decide (y.Term < x.Term)
theorem zZ2 (x : Int) (h1 : 0 <= x) (h2 : x < 9223372036854775808) : IntKind.i64.wrap x = x := by rw [w64]; omega
theorem zFk (a : Nat) : BitVec.ofInt 64 (a : Int) = BitVec.ofNat 64 a := by simp
theorem band (a b : Nat) (ha : a < 9223372036854775808) (hb : b < 9223372036854775808) : zOt .i64 (a : Int) (b : Int) = ((a &&& b : Nat) : Int) := by
 show IntKind.i64.wrap ((BitVec.ofInt 64 (a : Int) &&& BitVec.ofInt 64 (b : Int)).toNat : Int) = _;rw [zFk, zFk]
 have e : (BitVec.ofNat 64 a &&& BitVec.ofNat 64 b).toNat = a &&& b := by
  rw [BitVec.toNat_and, BitVec.toNat_ofNat, BitVec.toNat_ofNat, Nat.mod_eq_of_lt (by omega), Nat.mod_eq_of_lt (by omega)]
 have hle : a &&& b <= a := Nat.and_le_left;rw [e, zZ2] <;> omega
theorem bor (a b : Nat) (ha : a < 4611686018427387904) (hb : b < 4611686018427387904) : orI .i64 (a : Int) (b : Int) = ((a ||| b : Nat) : Int) := by
 show IntKind.i64.wrap ((BitVec.ofInt 64 (a : Int) ||| BitVec.ofInt 64 (b : Int)).toNat : Int) = _;rw [zFk, zFk]
 have e : (BitVec.ofNat 64 a ||| BitVec.ofNat 64 b).toNat = a ||| b := by
  rw [BitVec.toNat_or, BitVec.toNat_ofNat, BitVec.toNat_ofNat, Nat.mod_eq_of_lt (by omega), Nat.mod_eq_of_lt (by omega)]
 have hle : a ||| b < 2 ^ 62 := Nat.or_lt_two_pow (by omega) (by omega);rw [e, zZ2] <;> omega
theorem bshr (a k : Nat) (hk : k < 64) : zL6 .i64 (a : Int) (k : Int) = ((a >>> k : Nat) : Int) := by
 show (a : Int).fdiv (2 ^ (min (k : Int).toNat 64)) = _;have : min (k : Int).toNat 64 = k := by simp; omega
 rw [this, Int.fdiv_eq_ediv_of_nonneg _ (by exact_mod_cast zz7 _), Nat.shiftRight_eq_div_pow];simp
theorem yGb (k : Nat) (hk : k < 62) : yHi .i64 1 (k : Int) = ((2 ^ k : Nat) : Int) := by
 show IntKind.i64.wrap (1 * 2 ^ (min (k : Int).toNat 64)) = _;have : min (k : Int).toNat 64 = k := by simp; omega
 rw [this, Int.one_mul];have h : (2 : Nat) ^ k < 2 ^ 62 := Nat.pow_lt_pow_right (by omega) hk;have e : ((2 : Int) ^ k) = ((2 ^ k : Nat) : Int) := by simp
 rw [e];generalize (2 : Nat) ^ k = z at h |-;exact zZ2 _ (Int.natCast_nonneg _) (by omega)
theorem yCd (a k : Nat) (ha : a < 9223372036854775808) (hk : k < 64) : zOt .i64 (zL6 .i64 (a : Int) (k : Int)) 1 = if a.testBit k then 1 else 0 := by
 rw [bshr a k hk];have h1 : a >>> k <= a := by rw [Nat.shiftRight_eq_div_pow]; exact Nat.div_le_self _ _
 have := band (a >>> k) 1 (by omega) (by omega);rw [show ((1 : Nat) : Int) = 1 from rfl] at this;rw [this, Nat.and_one_is_mod, Nat.testBit_eq_decide_div_mod_eq, <- Nat.shiftRight_eq_div_pow]
 rcases Nat.mod_two_eq_zero_or_one (a >>> k) with h | h <;> simp [h]
def zU4 (set : Nat) : List Ach -> Nat -> Nat -> Int -> Nat × Int
 | [], _, m, c => (m, c)
 | a :: r, k, m, c => if set.testBit k then zU4 set r (k + 1) (m + 1) (wr (c + a.Credits)) else zU4 set r (k + 1) m c
def zJy (n : Need) (l : List Ach) (set : Nat) : Bool :=
 let x := zU4 set l 0 0 0
 if n.Kind == 1 then x.1 == 1 else decide (0 < x.1) && decide (n.N <= x.2)
def zJo (n : Need) (s : Scale) (a : Ach) : Bool := (n.Set.any fun c => zD2 c a.Course) && reaches s a.Grade n.Min
def zVc (n : Need) (s : Scale) : List Ach -> Nat -> Nat -> Nat
 | [], _, set => set
 | a :: r, k, set => zVc n s r (k + 1) (if zJo n s a then set ||| 2 ^ k else set)
end Go.Sx
