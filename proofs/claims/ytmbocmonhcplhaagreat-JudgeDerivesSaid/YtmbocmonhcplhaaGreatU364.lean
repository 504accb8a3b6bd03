/- Part of the proof that the laws of the judge return true for every input: U364. -/
import Derived.Test.YtmbocmonhcplhaaGreatJ93
set_option linter.all false
namespace Go.Sx
open Go.Proofs Go.RowKit
attribute [local irreducible] Run RunL RunD OpT SLe0 SLe OLe
set_option maxHeartbeats 2000000
set_option maxRecDepth 8000
set_option maxHeartbeats 400000000
theorem K36_4 (Rm : Need → List Nat → Prop) (hRm : ∀ n p, Rm n p → p.length ≤ 3) (K : FnM Tryz.prog 89 (fun ds os d os' => ∃ (n : Need) (p : List Nat), Rm n p ∧ ds = [eNeedU n] ∧ os = [] ∧ d = resP 0 n p ∧ os' = osP 0 n p)) :
  FnOK Tryz.prog 36 (fun ds v => ∃ (n : Need) (q : Q3) (p : List Nat), (Rm n p ∧ stepsOk n q.c p ∧ (IntKind.i64.wrap (q.a.tmod 9 + 9)).tmod 9 = 4) ∧ ds = [eNeedU n, eQ q] ∧ v = eNeedU (oddAt 4 ((IntKind.i64.wrap (q.b.tmod 14 + 14)).tmod 14).toNat n p)) := by
 refine fn_intro Tryz.call36 Tryz.func36 rfl Tryz.ntmps36 ?_
 rintro ds d ⟨n, q, p, ⟨hR, hs, ha⟩, rfl, rfl⟩
 refine ⟨by simp, fun w0 => ?_⟩
 have hr := hRm _ _ hR
 rcases p with _ | ⟨i, _ | ⟨i1, _ | ⟨i2, _ | ⟨i3, r⟩⟩⟩⟩
 rotate_right
 ·exfalso
  simp only [List.length_cons] at hr
  omega
 all_goals
  try simp only [oddAt]
  repeat' (first | apply zC | apply zD | apply zA | apply zB | refine zF qS qR ?_ ?_ | refine zW [] K qR qD qZ qF ?_ ⟨n, _, hR, rfl, rfl, rfl, rfl⟩ qS ?_ | exact True.intro | exact rfl | fail)
  refine run_keep [2, 3, 4, 5, 6] qS ?_
  repeat
   (obtain ⟨c', q1, hc, hq, h, hx, hl, hne, hs⟩ := stepsOk_cons hs
    simp only [hc]
    repeat' (first | apply zC | apply zA | apply zB | refine zF qS qR ?_ ?_ | refine run_roundsB 0 4 ?_ | refine run_round ?_ | exact rfl | exact qP | fail)
    (refine zE qS ?_ ?_ <;> intro hb <;> have hc := hb <;> (try simp only [bF] at hc) <;> (try (exfalso; simp at hc; done)))
    rotate_left
    ·exfalso; rw [h] at hb; cases hb
    repeat' (first | apply zC | apply zG | apply zD | apply zL | apply zA | apply zP | apply zB | refine zF (by simp only [go_sem, hq, hx, Int.toNat_natCast]; rfl) qR ?_ ?_ | refine runDqRP (by simp only [go_sem, hq, hx, Int.toNat_natCast]; rfl) qR ?_ (by simp only [go_sem, hq, hx, Int.toNat_natCast, recsOf, recA, recU, recG, readS, keysA, keysU]; rfl) ?_ | refine zQ qK qK ?_ | exact rfl | exact qP | fail)
    refine run_keep [2, 3, 4, 5, 6] qS ?_)
  obtain ⟨hstop, hS, hL⟩ := hs
  repeat' (first | apply zC | apply zA | apply zB | refine zF qS qR ?_ ?_ | refine run_roundsB 0 4 ?_ | refine run_round ?_ | exact rfl | exact qP | fail)
  (refine zE qS ?_ ?_ <;> intro hb <;> have hc := hb <;> (try simp only [bF] at hc) <;> (try (exfalso; simp at hc; done)))
  ·exfalso; rw [hstop] at hb; cases hb
  repeat' (first | apply zC | apply zD | apply zA | apply zB | refine zF qS qR ?_ ?_ | refine zK qR ?_ | exact True.intro | exact rfl | exact qP | fail)
  have hb14 : 0 ≤ (IntKind.i64.wrap (q.b.tmod 14 + 14)).tmod 14 ∧ (IntKind.i64.wrap (q.b.tmod 14 + 14)).tmod 14 < 14 := modR_bd q.b 14 (by omega) (by omega)
  generalize hK : (IntKind.i64.wrap (q.b.tmod 14 + 14)).tmod 14 = kk at hb14 ⊢
  refine run_keep [2, 3, 4, 5, 6, 7, 64, 83] qS ?_
  rw [ha]
  obtain ⟨k, rfl⟩ : ∃ k : Nat, kk = (k : Int) := ⟨kk.toNat, by omega⟩
  rw [Int.toNat_natCast]
  (first | refine run_hd 22 qS qS qS ?_ | refine run_hd 17 qS qS qS ?_ | refine run_hd 12 qS qS qS ?_ | refine run_hd 7 qS qS qS ?_)
  repeat' (first | apply zC | apply zL | apply zA | apply zP | apply zB | refine zF qS qR ?_ ?_ | refine runDqRP qS qR ?_ (by simp only [go_sem, recsOf, recA, recU, recG, readS, keysA, keysU]; rfl) ?_ | refine zQ qK qK ?_ | refine runDapH qS qS ?_ qS ?_ | refine runDas qS qS ?_ | refine runDlst qS qS ?_ | (refine zE qS ?_ ?_ <;> intro hb <;> have hc := hb <;> (try simp only [bF] at hc) <;> (try (exfalso; simp at hc; done))) | exact True.intro | exact rfl | exact qP | fail)
  (first | refine zO 21 qS ?_ | refine zO 16 qS ?_ | refine zO 11 qS ?_ | refine zO 6 qS ?_)
  (first | refine zO 24 qS ?_ | refine zO 19 qS ?_ | refine zO 14 qS ?_ | refine zO 9 qS ?_)
  repeat (first | (refine run_unlive 17 qR qR ?_; refine zO 17 qS ?_) | (refine run_unlive 12 qR qR ?_; refine zO 12 qS ?_) | (refine run_unlive 7 qR qR ?_; refine zO 7 qS ?_))
  repeat' (first | refine yA qR qS ?_ | fail)
  all_goals (refine SLe0.le qZ ?_)
  repeat (refine SLe.need (SLe.refl _) (SLe.up _ _ _ ?_))
  exact SLe.need (SLe.refl _) (SLe.snocN _ leafA SLe.lfA)
end Go.Sx
