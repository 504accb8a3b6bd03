/- Part of the proof that the laws of the judge return true for every input: J6. -/
import Derived.Test.YtmbocmonhcplhaaGreatJ5
set_option linter.all false
namespace Go.Sx
open Go.Proofs Go.RowKit
attribute [local irreducible] Run RunL RunD SLe0 SLe OLe
set_option maxHeartbeats 2000000
set_option maxRecDepth 8000
theorem K80 : FnOK Tryz.prog 80 (fun ds d => ∃ o c, ds = [eOffer o, .fp [.str c]] ∧ d = .bool (o.Code == c)) := by
 refine fn_intro Tryz.call80 Tryz.func80 rfl Tryz.ntmps80 ?_
 rintro ds d ⟨o, c, rfl, rfl⟩
 refine ⟨by simp, fun w0 => ?_⟩
 repeat' (first | apply zC | apply zA | apply zB | refine zF qS qR ?_ ?_ | refine zI qR ?_ | exact True.intro | exact rfl | exact SLe0.bool rfl | fail)
theorem K140 : FnOK Tryz.prog 140 (fun ds d => ∃ (n : Int) (o : Offer), ds = [eInt n, .fp [.str o.Code, .int .i64 o.Credits, .int .i64 o.Places, ints o.Slots, strs o.Needs]] ∧ d = .bool (o.Slots.any fun y => n == y)) := by
 refine fn_intro Tryz.call140 Tryz.func140 rfl Tryz.ntmps140 ?_
 rintro ds d ⟨n, o, rfl, rfl⟩
 refine ⟨by simp, fun w0 => ?_⟩
 repeat' (first | apply zC | apply zA | apply zB | refine zF qS qR ?_ ?_ | refine zL K115 qD ?_ ⟨_, _, rfl, rfl⟩ qS ?_ | refine zI qR ?_ | exact True.intro | exact rfl | exact SLe0.bool rfl | fail)
theorem K83 : FnOK Tryz.prog 83 (fun ds d => ∃ a b, ds = [eOffer a, eOffer b] ∧ d = .bool (a.Slots.any fun n => b.Slots.any fun y => n == y)) := by
 refine fn_intro Tryz.call83 Tryz.func83 rfl Tryz.ntmps83 ?_
 rintro ds d ⟨a, b, rfl, rfl⟩
 refine ⟨by simp, fun w0 => ?_⟩
 repeat' (first | refine runL_frz 1 qS ?_ | apply zC | apply zA | apply zB | refine zF qS qR ?_ ?_ | refine zL K139 qD ?_ ⟨a.Slots, 140, [.fp [.str b.Code, .int .i64 b.Credits, .int .i64 b.Places, ints b.Slots, strs b.Needs]], fun n => b.Slots.any fun y => n == y, fun i _ => ⟨_, K140, _, b, rfl, rfl⟩, rfl, rfl⟩ qS ?_ | refine zI qR ?_ | exact True.intro | exact rfl | exact SLe0.bool rfl | fail)
theorem K81 : FnOK Tryz.prog 81 (fun ds d => ∃ o, ds = [eOffer o] ∧ d = eOffer o) := by
 refine fn_intro Tryz.call81 Tryz.func81 rfl Tryz.ntmps81 ?_
 rintro ds d ⟨o, rfl, rfl⟩
 refine ⟨by simp, fun w0 => ?_⟩
 repeat' (first | apply zC | apply zA | apply zO | apply zB | refine zF qS qR ?_ ?_ | refine zT qS qR ?_ ?_ | refine zP qK qK ?_ | refine zW K137 qD ?_ ⟨_, rfl, rfl⟩ qS ?_ | refine zW K138 qD ?_ ⟨_, rfl, rfl⟩ qS ?_ | refine zZ qR qS ?_ | exact True.intro | exact rfl | exact SLe0.pure rfl | fail)
theorem K74 : FnOK Tryz.prog 74 (fun ds d => ∃ o, ds = [eOffer o] ∧ d = eOffer o) := by
 refine fn_intro Tryz.call74 Tryz.func74 rfl Tryz.ntmps74 ?_
 rintro ds d ⟨o, rfl, rfl⟩
 refine ⟨by simp, fun w0 => ?_⟩
 refine yD 0 3 rfl rfl fun h1 => ?_
 refine yD 0 4 rfl rfl fun h2 => ?_
 repeat' (first | refine zN 2 qS ?_ | refine zN 3 qS ?_ | apply zC | apply zA | apply zB | refine zF qS qR ?_ ?_ | refine zZ qR qS ?_ | exact True.intro | exact rfl | exact qP | fail)
 (refine SLe0.le qZ ?_; repeat' (first | exact True.intro | exact SLe.refl _ | refine SLe.agg ?_ | refine SLe.tup ?_ | refine And.intro ?_ ?_ | exact SLe.nils | refine SLe.int ?_ | refine SLe.bool ?_ | refine SLe.str ?_))
 ·exact SLe.list (Nat.zero_add _) fun i _ => by simp only [joinF, Nat.not_lt_zero, if_false, Nat.sub_zero]; rfl
 ·exact SLe.list (Nat.zero_add _) fun i _ => by simp only [joinF, Nat.not_lt_zero, if_false, Nat.sub_zero]; rfl
def findO (c : ByteArray) : List Offer → Option Offer
 | [] => none
 | o :: r => if o.Code == c then some o else findO c r
def eFound (x : Option Offer) : SD := .tup [eOffer (x.getD default), .bool x.isSome]
theorem findO_idx (c : ByteArray) : ∀ (l : List Offer) (k : Nat), (idxF (fun o => o.Code == c) l k = -1 ∧ findO c l = none) ∨ ∃ j, j < l.length ∧ idxF (fun o => o.Code == c) l k = ((k + j : Nat) : Int) ∧ findO c l = some (l.getD j default)
 | [], k => .inl ⟨rfl, rfl⟩
 | o :: r, k => by
  by_cases h : (o.Code == c) = true
  ·exact .inr ⟨0, by simp, by simp [idxF, h], by simp [findO, h]⟩
  ·rcases findO_idx c r (k + 1) with ⟨h1, h2⟩ | ⟨j, h1, h2, h3⟩
   ·exact .inl ⟨by simp only [idxF, h]; exact h1, by simp only [findO, h]; exact h2⟩
   ·refine .inr ⟨j + 1, by simp; omega, ?_, ?_⟩
    ·simp only [idxF, h, Bool.false_eq_true, if_false, h2]
     omega
    ·simp only [findO, h, Bool.false_eq_true, if_false, h3, List.getD_cons_succ]
theorem K28 : FnOK Tryz.prog 28 (fun ds d => ∃ l c, ds = [eList 5 eOffer l, eStr c] ∧ d = eFound (findO c l)) := by
 refine fn_intro Tryz.call28 Tryz.func28 rfl Tryz.ntmps28 ?_
 rintro ds d ⟨l, c, rfl, rfl⟩
 refine ⟨by simp, fun w0 => ?_⟩
 rcases findO_idx c l 0 with ⟨g1, g2⟩ | ⟨j, g0, g1, g2⟩
 ·repeat' (first | refine runL_frz 0 qS ?_ | apply zC | apply zG | apply zA | apply zB | refine zF qS qR ?_ ?_ | refine zL K79 qD ?_ ⟨l, 80, [.fp [.str c]], fun o => o.Code == c, fun i _ => ⟨_, K80, _, c, rfl, rfl⟩, rfl, rfl⟩ qS ?_ | refine zL K81 qD ?_ ⟨_, rfl, rfl⟩ qS ?_ | (refine zE qS ?_ ?_ <;> intro hb <;> have hc := hb <;> (try simp only [bF] at hc) <;> (try (exfalso; simp at hc; done))) | refine zZ qR qS ?_ | exact True.intro | exact rfl | omega)
  rw [g2]
  (refine SLe0.le qZ ?_; repeat' (first | exact True.intro | exact SLe.refl _ | refine SLe.agg ?_ | refine SLe.tup ?_ | refine And.intro ?_ ?_ | exact SLe.nils | refine SLe.int ?_ | refine SLe.bool ?_ | refine SLe.str ?_))
 ·repeat' (first | refine runL_frz 0 qS ?_ | apply zC | apply zG | apply zA | apply zB | refine zF (by simp only [go_sem, g1, Nat.zero_add]; rfl) qR ?_ ?_ | refine zL K79 (by simp only [go_sem, g1, Nat.zero_add]; first | done | rfl) ?_ ⟨l, 80, [.fp [.str c]], fun o => o.Code == c, fun i _ => ⟨_, K80, _, c, rfl, rfl⟩, rfl, rfl⟩ (by simp only [go_sem, g1, Nat.zero_add]; rfl) ?_ | refine zL K81 (by simp only [go_sem, g1, Nat.zero_add]; first | done | rfl) ?_ ⟨_, rfl, rfl⟩ (by simp only [go_sem, g1, Nat.zero_add]; rfl) ?_ | (refine zE (by simp only [go_sem, g1, Nat.zero_add]; rfl) ?_ ?_ <;> intro hb <;> have hc := hb <;> (try simp only [bF] at hc) <;> (try (exfalso; simp at hc; done))) | refine zZ qR (by simp only [go_sem, g1, Nat.zero_add]; rfl) ?_ | exact True.intro | exact rfl | omega | exact qP | fail)
  rw [g2]
  exact SLe0.pure rfl
theorem K31 : FnOK Tryz.prog 31 (fun ds d => ∃ l c, ds = [eList 5 eOffer l, eStr c] ∧ d = eFound (findO c l)) := by
 refine fn_intro Tryz.call31 Tryz.func31 rfl Tryz.ntmps31 ?_
 rintro ds d ⟨l, c, rfl, rfl⟩
 refine ⟨by simp, fun w0 => ?_⟩
 refine run_len 0 rfl fun hl => ?_
 repeat' (first | apply zC | apply zD | apply zA | apply zB | refine zF qS qR ?_ ?_ | exact True.intro | exact rfl | fail)
 refine zM [0, 1, 4] (fun k : Nat => [(6, .int .i64 k)]) (fun k : Nat => []) (fun k : Nat => k ≤ l.length ∧ findO c l = findO c (l.drop k)) (fun k : Nat => l.length - k) 0 (fun x => qS) ?_ qL qL ?_
 ·exact ⟨Nat.zero_le _, rfl⟩
 rintro k ⟨h1, h2⟩
 repeat' (first | apply zC | apply zG | apply zD | apply zK | apply zA | apply zB | refine zF qS qR ?_ ?_ | refine zL K74 qD ?_ ⟨_, rfl, rfl⟩ qS ?_ | (refine zE qS ?_ ?_ <;> intro hb <;> have hc := hb <;> (try simp only [bF] at hc) <;> (try (exfalso; simp at hc; done))) | refine zZ qR qS ?_ | refine zJ qR ?_ | refine zR (k+1) ?_ ?_ ⟨rfl, qL, qL⟩ | exact True.intro | exact rfl | omega | exact qP | fail)
 ·rw [h2, drop_get _ _ ‹k < _›, findO, if_pos hb]
  exact SLe0.pure rfl
 ·refine ⟨by omega, ?_⟩
  rw [h2, drop_get _ _ ‹k < _›, findO, if_neg (by rw [hb]; simp)]
 ·rw [h2, List.drop_of_length_le (by omega)]
  (refine SLe0.le qZ ?_; repeat' (first | exact True.intro | exact SLe.refl _ | refine SLe.agg ?_ | refine SLe.tup ?_ | refine And.intro ?_ ?_ | exact SLe.nils | refine SLe.int ?_ | refine SLe.bool ?_ | refine SLe.str ?_))
theorem K88 : FnOK Tryz.prog 88 (fun ds d => ∃ a b, ds = [eOffer a, eOffer b] ∧ d = .bool (a.Slots.any fun n => b.Slots.any fun y => n == y)) := by
 refine fn_intro Tryz.call88 Tryz.func88 rfl Tryz.ntmps88 ?_
 rintro ds d ⟨a, b, rfl, rfl⟩
 refine ⟨by simp, fun w0 => ?_⟩
 refine yD 0 3 rfl rfl fun la => ?_
 refine yD 1 3 rfl rfl fun lb => ?_
 repeat' (first | apply zC | apply zD | apply zA | apply zB | refine zF qS qR ?_ ?_ | exact True.intro | exact rfl | fail)
 refine zM [2, 3] (fun k : Nat => [(5, .int .i64 k)]) (fun k : Nat => []) (fun k : Nat => k ≤ a.Slots.length ∧ (a.Slots.any fun n => b.Slots.any fun y => n == y) = (a.Slots.drop k).any fun n => b.Slots.any fun y => n == y) (fun k : Nat => a.Slots.length - k) 0 (fun x => qS) ?_ qL qL ?_
 ·exact ⟨Nat.zero_le _, rfl⟩
 rintro k ⟨h1, h2⟩
 repeat' (first | apply zC | apply zG | apply zD | apply zA | apply zB | refine zF qS qR ?_ ?_ | (refine zE qS ?_ ?_ <;> intro hb <;> have hc := hb <;> (try simp only [bF] at hc) <;> (try (exfalso; simp at hc; done))) | refine zI qR ?_ | refine zJ qR ?_ | exact True.intro | exact rfl | refine SLe0.bool ?_ | fail)
 ·rw [drop_get _ _ ‹k < _›, List.any_cons] at h2
  refine zM [2, 3, 5] (fun i : Nat × Unit => [(6, .int .i64 i.1)]) (fun i : Nat × Unit => []) (fun i : Nat × Unit => i.1 ≤ b.Slots.length ∧ (b.Slots.any fun y => a.Slots.getD k default == y) = (b.Slots.drop i.1).any fun y => a.Slots.getD k default == y) (fun i : Nat × Unit => b.Slots.length - i.1) (0, ()) (fun x => qS) ?_ qL qL ?_
  ·exact ⟨Nat.zero_le _, rfl⟩
  rintro ⟨i, _⟩ ⟨h3, h4⟩
  simp only at h3 h4
  repeat' (first | apply zC | apply zG | apply zD | apply zK | apply zA | apply zO | apply zB | refine zF qS qR ?_ ?_ | refine zT qS qR ?_ ?_ | refine zP qK qK ?_ | (refine zE qS ?_ ?_ <;> intro hb <;> have hc := hb <;> (try simp only [bF] at hc) <;> (try (exfalso; simp at hc; done))) | refine zI qR ?_ | refine zJ qR ?_ | refine zR (i+1,()) ?_ ?_ ⟨rfl, qL, qL⟩ | refine zR (k+1) ?_ ?_ ⟨rfl, qL, qL⟩ | exact True.intro | exact rfl | omega | refine SLe0.bool ?_ | exact qP | fail)
  ·rw [h2, h4, drop_get _ _ ‹i < _›, List.any_cons, hb]; rfl
  ·refine ⟨by simp only; omega, ?_⟩
   rw [h4, drop_get _ _ ‹i < _›, List.any_cons, hb, Bool.false_or]
  ·refine ⟨by omega, ?_⟩
   rw [h2, h4, List.drop_of_length_le (by omega)]; rfl
 ·rw [h2, List.drop_of_length_le (by omega)]; rfl
def credits : List Ach → Int → Int
 | [], n => n
 | a :: r, n => credits r (wr (n + a.Credits))
theorem K105 : FnOK Tryz.prog 105 (fun ds d => ∃ l, ds = [eList 8 eAch l] ∧ d = eInt (credits l 0)) := by
 refine fn_intro Tryz.call105 Tryz.func105 rfl Tryz.ntmps105 ?_
 rintro ds d ⟨l, rfl, rfl⟩
 refine ⟨by simp, fun w0 => ?_⟩
 refine run_len 0 rfl fun hl => ?_
 repeat' (first | apply zC | apply zD | apply zA | apply zB | refine zF qS qR ?_ ?_ | exact True.intro | exact rfl | fail)
 refine zM [6, 7] (fun x : Nat × Int => [(8, .int .i64 x.1), (3, .int .i64 x.2)]) (fun x : Nat × Int => []) (fun x : Nat × Int => x.1 ≤ l.length ∧ credits l 0 = credits (l.drop x.1) x.2) (fun x : Nat × Int => l.length - x.1) (0, 0) (fun x => qS) ?_ qL qL ?_
 ·exact ⟨Nat.zero_le _, rfl⟩
 rintro ⟨k, n⟩ ⟨h1, h2⟩
 simp only at h1 h2
 repeat' (first | apply zC | apply zG | apply zD | apply zK | apply zA | apply zB | refine zF qS qR ?_ ?_ | (refine zE qS ?_ ?_ <;> intro hb <;> have hc := hb <;> (try simp only [bF] at hc) <;> (try (exfalso; simp at hc; done))) | refine zI qR ?_ | refine zJ qR ?_ | refine zR (k+1,wr (n+(l.getD k default).Credits)) ?_ ?_ ⟨rfl, qL, qL⟩ | exact True.intro | exact rfl | omega | refine SLe0.int ?_ | exact qP | fail)
 ·refine ⟨by simp only; omega, ?_⟩
  rw [h2, drop_get _ _ ‹k < _›]; rfl
 ·rw [h2, List.drop_of_length_le (by omega)]; rfl
end Go.Sx
