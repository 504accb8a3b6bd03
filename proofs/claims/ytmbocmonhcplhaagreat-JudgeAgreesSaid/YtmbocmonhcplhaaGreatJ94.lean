/- Part of the proof that the laws of the judge return true for every input: U363, U364, U365, U366, U367, U368, J94. -/
import Derived.Test.YtmbocmonhcplhaaGreatU362
import Derived.Test.YtmbocmonhcplhaaGreatJ59
set_option linter.all false
namespace Go.Sx
open Go.Proofs Go.RowKit
attribute [local irreducible] Run zAi zAy OpT zAc SLe OLe
set_option maxHeartbeats 2000000
set_option maxRecDepth 8000
set_option maxHeartbeats 400000000
theorem yG5 (Rm : Need → List Nat → Prop) (hRm : ∀ n p, Rm n p → p.length ≤ 3) (K : FnM Tryz.prog 89 (fun ds os d os' => ∃ (n : Need) (p : List Nat), Rm n p ∧ ds = [zAb n] ∧ os = [] ∧ d = zQ2 0 n p ∧ os' = osP 0 n p)) :
  FnOK Tryz.prog 36 (fun ds v => ∃ (n : Need) (q : Q3) (p : List Nat), (Rm n p ∧ zC8 n q.c p ∧ (IntKind.i64.wrap (q.a.tmod 9 + 9)).tmod 9 = 3) ∧ ds = [zAb n, eQ q] ∧ v = zAb (zDx 3 ((IntKind.i64.wrap (q.b.tmod 14 + 14)).tmod 14).toNat n p)) := by
 refine zAa Tryz.call36 Tryz.func36 rfl Tryz.ntmps36 ?_
 rintro ds d ⟨n, q, p, ⟨hR, hs, ha⟩, rfl, rfl⟩
 refine ⟨by simp, fun w0 => ?_⟩
 have hr := hRm _ _ hR
 rcases p with _ | ⟨i, _ | ⟨i1, _ | ⟨i2, _ | ⟨i3, r⟩⟩⟩⟩
 rotate_right
 ·exfalso
  simp only [List.length_cons] at hr;omega
 all_goals
  try simp only [zDx]
  repeat' (first | apply zC | apply zD | apply zA | apply zB | refine zF qS qR ?_ ?_ | refine zW [] K qR qD qZ qF ?_ ⟨n, _, hR, rfl, rfl, rfl, rfl⟩ qS ?_ | exact zz0 | exact rfl | fail)
  refine zAr [2, 3, 4, 5, 6] qS ?_
  repeat
   (obtain ⟨c', q1, hc, hq, h, hx, hl, hne, hs⟩ := zBl hs
    simp only [hc]
    repeat' (first | apply zC | apply zA | apply zB | refine zF qS qR ?_ ?_ | refine zAp 0 4 ?_ | refine zA5 ?_ | exact rfl | exact qP | fail)
    (refine zE qS ?_ ?_ <;> intro hb <;> have hc := hb <;> (try simp only [bF] at hc) <;> (try (exfalso; simp at hc; done)))
    rotate_left
    ·exfalso; rw [h] at hb; cases hb
    repeat' (first | apply zC | apply zG | apply zD | apply zL | apply zA | apply zP | apply zB | refine zF (by simp only [go_sem, hq, hx, Int.toNat_natCast]; rfl) qR ?_ ?_ | refine zBj (by simp only [go_sem, hq, hx, Int.toNat_natCast]; rfl) qR ?_ (by simp only [go_sem, hq, hx, Int.toNat_natCast, zAw, zG5, zD7, zH2, zBf, keysA, zCz]; rfl) ?_ | refine zQ qK qK ?_ | exact rfl | exact qP | fail)
    refine zAr [2, 3, 4, 5, 6] qS ?_)
  obtain ⟨hstop, hS, hL⟩ := hs
  repeat' (first | apply zC | apply zA | apply zB | refine zF qS qR ?_ ?_ | refine zAp 0 4 ?_ | refine zA5 ?_ | exact rfl | exact qP | fail)
  (refine zE qS ?_ ?_ <;> intro hb <;> have hc := hb <;> (try simp only [bF] at hc) <;> (try (exfalso; simp at hc; done)))
  ·exfalso; rw [hstop] at hb; cases hb
  repeat' (first | apply zC | apply zD | apply zA | apply zB | refine zF qS qR ?_ ?_ | refine zK qR ?_ | exact zz0 | exact rfl | exact qP | fail)
  have hb14 : 0 ≤ (IntKind.i64.wrap (q.b.tmod 14 + 14)).tmod 14 ∧ (IntKind.i64.wrap (q.b.tmod 14 + 14)).tmod 14 < 14 := zCf q.b 14 (by omega) (by omega);generalize hK : (IntKind.i64.wrap (q.b.tmod 14 + 14)).tmod 14 = kk at hb14 ⊢;refine zAr [2, 3, 4, 5, 6, 7, 64, 83] qS ?_;rw [ha];obtain ⟨k, rfl⟩ : ∃ k : Nat, kk = (k : Int) := ⟨kk.toNat, by omega⟩;rw [Int.toNat_natCast]
  repeat' (first | apply zC | apply zL | apply zA | apply zB | refine zF qS qR ?_ ?_ | refine zJ5 qS qS ?_ | (refine zE qS ?_ ?_ <;> intro hb <;> have hc := hb <;> (try simp only [bF] at hc) <;> (try (exfalso; simp at hc; done))) | exact zz0 | exact rfl | exact qP | fail)
  (first | refine zO 21 qS ?_ | refine zO 16 qS ?_ | refine zO 11 qS ?_ | refine zO 6 qS ?_)
  (first | refine zO 22 qS ?_ | refine zO 17 qS ?_ | refine zO 12 qS ?_ | refine zO 7 qS ?_)
  repeat (first | (refine zAg 17 qR qR ?_; refine zO 17 qS ?_) | (refine zAg 12 qR qR ?_; refine zO 12 qS ?_) | (refine zAg 7 qR qR ?_; refine zO 7 qS ?_))
  repeat' (first | refine yA qR qS ?_ | fail)
  all_goals (refine zAc.le qZ ?_)
  repeat (refine SLe.need (SLe.refl _) (SLe.up _ _ _ ?_))
  exact SLe.need (SLe.snocC _ _ rfl) (SLe.refl _)
end Go.Sx
namespace Go.Sx
open Go.Proofs Go.RowKit
attribute [local irreducible] Run zAi zAy OpT zAc SLe OLe
set_option maxHeartbeats 2000000
set_option maxRecDepth 8000
set_option maxHeartbeats 400000000
theorem yG4 (Rm : Need → List Nat → Prop) (hRm : ∀ n p, Rm n p → p.length ≤ 3) (K : FnM Tryz.prog 89 (fun ds os d os' => ∃ (n : Need) (p : List Nat), Rm n p ∧ ds = [zAb n] ∧ os = [] ∧ d = zQ2 0 n p ∧ os' = osP 0 n p)) :
  FnOK Tryz.prog 36 (fun ds v => ∃ (n : Need) (q : Q3) (p : List Nat), (Rm n p ∧ zC8 n q.c p ∧ (IntKind.i64.wrap (q.a.tmod 9 + 9)).tmod 9 = 4) ∧ ds = [zAb n, eQ q] ∧ v = zAb (zDx 4 ((IntKind.i64.wrap (q.b.tmod 14 + 14)).tmod 14).toNat n p)) := by
 refine zAa Tryz.call36 Tryz.func36 rfl Tryz.ntmps36 ?_
 rintro ds d ⟨n, q, p, ⟨hR, hs, ha⟩, rfl, rfl⟩
 refine ⟨by simp, fun w0 => ?_⟩
 have hr := hRm _ _ hR
 rcases p with _ | ⟨i, _ | ⟨i1, _ | ⟨i2, _ | ⟨i3, r⟩⟩⟩⟩
 rotate_right
 ·exfalso
  simp only [List.length_cons] at hr;omega
 all_goals
  try simp only [zDx]
  repeat' (first | apply zC | apply zD | apply zA | apply zB | refine zF qS qR ?_ ?_ | refine zW [] K qR qD qZ qF ?_ ⟨n, _, hR, rfl, rfl, rfl, rfl⟩ qS ?_ | exact zz0 | exact rfl | fail)
  refine zAr [2, 3, 4, 5, 6] qS ?_
  repeat
   (obtain ⟨c', q1, hc, hq, h, hx, hl, hne, hs⟩ := zBl hs
    simp only [hc]
    repeat' (first | apply zC | apply zA | apply zB | refine zF qS qR ?_ ?_ | refine zAp 0 4 ?_ | refine zA5 ?_ | exact rfl | exact qP | fail)
    (refine zE qS ?_ ?_ <;> intro hb <;> have hc := hb <;> (try simp only [bF] at hc) <;> (try (exfalso; simp at hc; done)))
    rotate_left
    ·exfalso; rw [h] at hb; cases hb
    repeat' (first | apply zC | apply zG | apply zD | apply zL | apply zA | apply zP | apply zB | refine zF (by simp only [go_sem, hq, hx, Int.toNat_natCast]; rfl) qR ?_ ?_ | refine zBj (by simp only [go_sem, hq, hx, Int.toNat_natCast]; rfl) qR ?_ (by simp only [go_sem, hq, hx, Int.toNat_natCast, zAw, zG5, zD7, zH2, zBf, keysA, zCz]; rfl) ?_ | refine zQ qK qK ?_ | exact rfl | exact qP | fail)
    refine zAr [2, 3, 4, 5, 6] qS ?_)
  obtain ⟨hstop, hS, hL⟩ := hs
  repeat' (first | apply zC | apply zA | apply zB | refine zF qS qR ?_ ?_ | refine zAp 0 4 ?_ | refine zA5 ?_ | exact rfl | exact qP | fail)
  (refine zE qS ?_ ?_ <;> intro hb <;> have hc := hb <;> (try simp only [bF] at hc) <;> (try (exfalso; simp at hc; done)))
  ·exfalso; rw [hstop] at hb; cases hb
  repeat' (first | apply zC | apply zD | apply zA | apply zB | refine zF qS qR ?_ ?_ | refine zK qR ?_ | exact zz0 | exact rfl | exact qP | fail)
  have hb14 : 0 ≤ (IntKind.i64.wrap (q.b.tmod 14 + 14)).tmod 14 ∧ (IntKind.i64.wrap (q.b.tmod 14 + 14)).tmod 14 < 14 := zCf q.b 14 (by omega) (by omega);generalize hK : (IntKind.i64.wrap (q.b.tmod 14 + 14)).tmod 14 = kk at hb14 ⊢;refine zAr [2, 3, 4, 5, 6, 7, 64, 83] qS ?_;rw [ha];obtain ⟨k, rfl⟩ : ∃ k : Nat, kk = (k : Int) := ⟨kk.toNat, by omega⟩;rw [Int.toNat_natCast]
  (first | refine zN5 22 qS qS qS ?_ | refine zN5 17 qS qS qS ?_ | refine zN5 12 qS qS qS ?_ | refine zN5 7 qS qS qS ?_)
  repeat' (first | apply zC | apply zL | apply zA | apply zP | apply zB | refine zF qS qR ?_ ?_ | refine zBj qS qR ?_ (by simp only [go_sem, zAw, zG5, zD7, zH2, zBf, keysA, zCz]; rfl) ?_ | refine zQ qK qK ?_ | refine zU2 qS qS ?_ qS ?_ | refine zI6 qS qS ?_ | refine zU0 qS qS ?_ | (refine zE qS ?_ ?_ <;> intro hb <;> have hc := hb <;> (try simp only [bF] at hc) <;> (try (exfalso; simp at hc; done))) | exact zz0 | exact rfl | exact qP | fail)
  (first | refine zO 21 qS ?_ | refine zO 16 qS ?_ | refine zO 11 qS ?_ | refine zO 6 qS ?_)
  (first | refine zO 24 qS ?_ | refine zO 19 qS ?_ | refine zO 14 qS ?_ | refine zO 9 qS ?_)
  repeat (first | (refine zAg 17 qR qR ?_; refine zO 17 qS ?_) | (refine zAg 12 qR qR ?_; refine zO 12 qS ?_) | (refine zAg 7 qR qR ?_; refine zO 7 qS ?_))
  repeat' (first | refine yA qR qS ?_ | fail)
  all_goals (refine zAc.le qZ ?_)
  repeat (refine SLe.need (SLe.refl _) (SLe.up _ _ _ ?_))
  exact SLe.need (SLe.refl _) (SLe.snocN _ leafA SLe.lfA)
end Go.Sx
namespace Go.Sx
open Go.Proofs Go.RowKit
attribute [local irreducible] Run zAi zAy OpT zAc SLe OLe
set_option maxHeartbeats 2000000
set_option maxRecDepth 8000
set_option maxHeartbeats 400000000
theorem yG3 (Rm : Need → List Nat → Prop) (hRm : ∀ n p, Rm n p → p.length ≤ 3) (K : FnM Tryz.prog 89 (fun ds os d os' => ∃ (n : Need) (p : List Nat), Rm n p ∧ ds = [zAb n] ∧ os = [] ∧ d = zQ2 0 n p ∧ os' = osP 0 n p)) :
  FnOK Tryz.prog 36 (fun ds v => ∃ (n : Need) (q : Q3) (p : List Nat), (Rm n p ∧ zC8 n q.c p ∧ (IntKind.i64.wrap (q.a.tmod 9 + 9)).tmod 9 = 5) ∧ ds = [zAb n, eQ q] ∧ v = zAb (zDx 5 ((IntKind.i64.wrap (q.b.tmod 14 + 14)).tmod 14).toNat n p)) := by
 refine zAa Tryz.call36 Tryz.func36 rfl Tryz.ntmps36 ?_
 rintro ds d ⟨n, q, p, ⟨hR, hs, ha⟩, rfl, rfl⟩
 refine ⟨by simp, fun w0 => ?_⟩
 have hr := hRm _ _ hR
 rcases p with _ | ⟨i, _ | ⟨i1, _ | ⟨i2, _ | ⟨i3, r⟩⟩⟩⟩
 rotate_right
 ·exfalso
  simp only [List.length_cons] at hr;omega
 all_goals
  try simp only [zDx]
  repeat' (first | apply zC | apply zD | apply zA | apply zB | refine zF qS qR ?_ ?_ | refine zW [] K qR qD qZ qF ?_ ⟨n, _, hR, rfl, rfl, rfl, rfl⟩ qS ?_ | exact zz0 | exact rfl | fail)
  refine zAr [2, 3, 4, 5, 6] qS ?_
  repeat
   (obtain ⟨c', q1, hc, hq, h, hx, hl, hne, hs⟩ := zBl hs
    simp only [hc]
    repeat' (first | apply zC | apply zA | apply zB | refine zF qS qR ?_ ?_ | refine zAp 0 4 ?_ | refine zA5 ?_ | exact rfl | exact qP | fail)
    (refine zE qS ?_ ?_ <;> intro hb <;> have hc := hb <;> (try simp only [bF] at hc) <;> (try (exfalso; simp at hc; done)))
    rotate_left
    ·exfalso; rw [h] at hb; cases hb
    repeat' (first | apply zC | apply zG | apply zD | apply zL | apply zA | apply zP | apply zB | refine zF (by simp only [go_sem, hq, hx, Int.toNat_natCast]; rfl) qR ?_ ?_ | refine zBj (by simp only [go_sem, hq, hx, Int.toNat_natCast]; rfl) qR ?_ (by simp only [go_sem, hq, hx, Int.toNat_natCast, zAw, zG5, zD7, zH2, zBf, keysA, zCz]; rfl) ?_ | refine zQ qK qK ?_ | exact rfl | exact qP | fail)
    refine zAr [2, 3, 4, 5, 6] qS ?_)
  obtain ⟨hstop, hS, hL⟩ := hs
  repeat' (first | apply zC | apply zA | apply zB | refine zF qS qR ?_ ?_ | refine zAp 0 4 ?_ | refine zA5 ?_ | exact rfl | exact qP | fail)
  (refine zE qS ?_ ?_ <;> intro hb <;> have hc := hb <;> (try simp only [bF] at hc) <;> (try (exfalso; simp at hc; done)))
  ·exfalso; rw [hstop] at hb; cases hb
  repeat' (first | apply zC | apply zD | apply zA | apply zB | refine zF qS qR ?_ ?_ | refine zK qR ?_ | exact zz0 | exact rfl | exact qP | fail)
  have hb14 : 0 ≤ (IntKind.i64.wrap (q.b.tmod 14 + 14)).tmod 14 ∧ (IntKind.i64.wrap (q.b.tmod 14 + 14)).tmod 14 < 14 := zCf q.b 14 (by omega) (by omega);generalize hK : (IntKind.i64.wrap (q.b.tmod 14 + 14)).tmod 14 = kk at hb14 ⊢;refine zAr [2, 3, 4, 5, 6, 7, 64, 83] qS ?_;rw [ha];obtain ⟨k, rfl⟩ : ∃ k : Nat, kk = (k : Int) := ⟨kk.toNat, by omega⟩;rw [Int.toNat_natCast]
  repeat' (first | apply zC | apply zL | apply zA | apply zB | refine zF qS qR ?_ ?_ | refine zJ5 qS qS ?_ | (refine zE qS ?_ ?_ <;> intro hb <;> have hc := hb <;> (try simp only [bF] at hc) <;> (try (exfalso; simp at hc; done))) | exact zz0 | exact rfl | fail)
  (first | refine zO 21 qS ?_ | refine zO 16 qS ?_ | refine zO 11 qS ?_ | refine zO 6 qS ?_)
  (first | refine zO 22 qS ?_ | refine zO 17 qS ?_ | refine zO 12 qS ?_ | refine zO 7 qS ?_)
  repeat (first | (refine zAg 17 qR qR ?_; refine zO 17 qS ?_) | (refine zAg 12 qR qR ?_; refine zO 12 qS ?_) | (refine zAg 7 qR qR ?_; refine zO 7 qS ?_))
  repeat' (first | refine yA qR qS ?_ | fail)
  all_goals (refine zAc.le qZ ?_)
  repeat (refine SLe.need (SLe.refl _) (SLe.up _ _ _ ?_))
  exact SLe.need SLe.nils (SLe.refl _)
end Go.Sx
namespace Go.Sx
open Go.Proofs Go.RowKit
attribute [local irreducible] Run zAi zAy OpT zAc SLe OLe
set_option maxHeartbeats 2000000
set_option maxRecDepth 8000
set_option maxHeartbeats 400000000
theorem yG2 (Rm : Need → List Nat → Prop) (hRm : ∀ n p, Rm n p → p.length ≤ 3) (K : FnM Tryz.prog 89 (fun ds os d os' => ∃ (n : Need) (p : List Nat), Rm n p ∧ ds = [zAb n] ∧ os = [] ∧ d = zQ2 0 n p ∧ os' = osP 0 n p)) :
  FnOK Tryz.prog 36 (fun ds v => ∃ (n : Need) (q : Q3) (p : List Nat), (Rm n p ∧ zC8 n q.c p ∧ (IntKind.i64.wrap (q.a.tmod 9 + 9)).tmod 9 = 6) ∧ ds = [zAb n, eQ q] ∧ v = zAb (zDx 6 ((IntKind.i64.wrap (q.b.tmod 14 + 14)).tmod 14).toNat n p)) := by
 refine zAa Tryz.call36 Tryz.func36 rfl Tryz.ntmps36 ?_
 rintro ds d ⟨n, q, p, ⟨hR, hs, ha⟩, rfl, rfl⟩
 refine ⟨by simp, fun w0 => ?_⟩
 have hr := hRm _ _ hR
 rcases p with _ | ⟨i, _ | ⟨i1, _ | ⟨i2, _ | ⟨i3, r⟩⟩⟩⟩
 rotate_right
 ·exfalso
  simp only [List.length_cons] at hr;omega
 all_goals
  try simp only [zDx]
  repeat' (first | apply zC | apply zD | apply zA | apply zB | refine zF qS qR ?_ ?_ | refine zW [] K qR qD qZ qF ?_ ⟨n, _, hR, rfl, rfl, rfl, rfl⟩ qS ?_ | exact zz0 | exact rfl | fail)
  refine zAr [2, 3, 4, 5, 6] qS ?_
  repeat
   (obtain ⟨c', q1, hc, hq, h, hx, hl, hne, hs⟩ := zBl hs
    simp only [hc]
    repeat' (first | apply zC | apply zA | apply zB | refine zF qS qR ?_ ?_ | refine zAp 0 4 ?_ | refine zA5 ?_ | exact rfl | exact qP | fail)
    (refine zE qS ?_ ?_ <;> intro hb <;> have hc := hb <;> (try simp only [bF] at hc) <;> (try (exfalso; simp at hc; done)))
    rotate_left
    ·exfalso; rw [h] at hb; cases hb
    repeat' (first | apply zC | apply zG | apply zD | apply zL | apply zA | apply zP | apply zB | refine zF (by simp only [go_sem, hq, hx, Int.toNat_natCast]; rfl) qR ?_ ?_ | refine zBj (by simp only [go_sem, hq, hx, Int.toNat_natCast]; rfl) qR ?_ (by simp only [go_sem, hq, hx, Int.toNat_natCast, zAw, zG5, zD7, zH2, zBf, keysA, zCz]; rfl) ?_ | refine zQ qK qK ?_ | exact rfl | exact qP | fail)
    refine zAr [2, 3, 4, 5, 6] qS ?_)
  obtain ⟨hstop, hS, hL⟩ := hs
  repeat' (first | apply zC | apply zA | apply zB | refine zF qS qR ?_ ?_ | refine zAp 0 4 ?_ | refine zA5 ?_ | exact rfl | exact qP | fail)
  (refine zE qS ?_ ?_ <;> intro hb <;> have hc := hb <;> (try simp only [bF] at hc) <;> (try (exfalso; simp at hc; done)))
  ·exfalso; rw [hstop] at hb; cases hb
  repeat' (first | apply zC | apply zD | apply zA | apply zB | refine zF qS qR ?_ ?_ | refine zK qR ?_ | exact zz0 | exact rfl | exact qP | fail)
  have hb14 : 0 ≤ (IntKind.i64.wrap (q.b.tmod 14 + 14)).tmod 14 ∧ (IntKind.i64.wrap (q.b.tmod 14 + 14)).tmod 14 < 14 := zCf q.b 14 (by omega) (by omega);generalize hK : (IntKind.i64.wrap (q.b.tmod 14 + 14)).tmod 14 = kk at hb14 ⊢;refine zAr [2, 3, 4, 5, 6, 7, 64, 83] qS ?_;rw [ha];obtain ⟨k, rfl⟩ : ∃ k : Nat, kk = (k : Int) := ⟨kk.toNat, by omega⟩;rw [Int.toNat_natCast]
  repeat' (first | apply zC | apply zG | apply zL | apply zA | apply zP | apply zB | refine zF qS qR ?_ ?_ | refine zBj qS qR ?_ (by simp only [go_sem, zAw, zG5, zD7, zH2, zBf, keysA, zCz]; rfl) ?_ | refine zQ qK qK ?_ | refine zI6 qS qS ?_ | (refine zE qS ?_ ?_ <;> intro hb <;> have hc := hb <;> (try simp only [bF] at hc) <;> (try (exfalso; simp at hc; done))) | exact zz0 | exact rfl | exact qP | fail)
  all_goals (first | refine zO 21 qS ?_ | refine zO 16 qS ?_ | refine zO 11 qS ?_ | refine zO 6 qS ?_)
  all_goals (first | refine zO 22 qS ?_ | refine zO 17 qS ?_ | refine zO 12 qS ?_ | refine zO 7 qS ?_)
  all_goals repeat (first | (refine zAg 17 qR qR ?_; refine zO 17 qS ?_) | (refine zAg 12 qR qR ?_; refine zO 12 qS ?_) | (refine zAg 7 qR qR ?_; refine zO 7 qS ?_))
  repeat' (first | refine yA qR qS ?_ | fail)
  all_goals (refine zAc.le qZ ?_)
  all_goals repeat (refine SLe.need (SLe.refl _) (SLe.up _ _ _ ?_))
  ·exact SLe.need (SLe.setC0 _ _ rfl (by intro h0; rw [h0] at hb; simp at hb)) (SLe.refl _)
  ·exact SLe.need (SLe.setCn (by simpa using hb)) (SLe.refl _)
end Go.Sx
namespace Go.Sx
open Go.Proofs Go.RowKit
attribute [local irreducible] Run zAi zAy OpT zAc SLe OLe
set_option maxHeartbeats 2000000
set_option maxRecDepth 8000
set_option maxHeartbeats 400000000
theorem yG1 (Rm : Need → List Nat → Prop) (hRm : ∀ n p, Rm n p → p.length ≤ 3) (K : FnM Tryz.prog 89 (fun ds os d os' => ∃ (n : Need) (p : List Nat), Rm n p ∧ ds = [zAb n] ∧ os = [] ∧ d = zQ2 0 n p ∧ os' = osP 0 n p)) :
  FnOK Tryz.prog 36 (fun ds v => ∃ (n : Need) (q : Q3) (p : List Nat), (Rm n p ∧ zC8 n q.c p ∧ (IntKind.i64.wrap (q.a.tmod 9 + 9)).tmod 9 = 7) ∧ ds = [zAb n, eQ q] ∧ v = zAb (zDx 7 ((IntKind.i64.wrap (q.b.tmod 14 + 14)).tmod 14).toNat n p)) := by
 refine zAa Tryz.call36 Tryz.func36 rfl Tryz.ntmps36 ?_
 rintro ds d ⟨n, q, p, ⟨hR, hs, ha⟩, rfl, rfl⟩
 refine ⟨by simp, fun w0 => ?_⟩
 have hr := hRm _ _ hR
 rcases p with _ | ⟨i, _ | ⟨i1, _ | ⟨i2, _ | ⟨i3, r⟩⟩⟩⟩
 rotate_right
 ·exfalso
  simp only [List.length_cons] at hr;omega
 all_goals
  try simp only [zDx]
  repeat' (first | apply zC | apply zD | apply zA | apply zB | refine zF qS qR ?_ ?_ | refine zW [] K qR qD qZ qF ?_ ⟨n, _, hR, rfl, rfl, rfl, rfl⟩ qS ?_ | exact zz0 | exact rfl | fail)
  refine zAr [2, 3, 4, 5, 6] qS ?_
  repeat
   (obtain ⟨c', q1, hc, hq, h, hx, hl, hne, hs⟩ := zBl hs
    simp only [hc]
    repeat' (first | apply zC | apply zA | apply zB | refine zF qS qR ?_ ?_ | refine zAp 0 4 ?_ | refine zA5 ?_ | exact rfl | exact qP | fail)
    (refine zE qS ?_ ?_ <;> intro hb <;> have hc := hb <;> (try simp only [bF] at hc) <;> (try (exfalso; simp at hc; done)))
    rotate_left
    ·exfalso; rw [h] at hb; cases hb
    repeat' (first | apply zC | apply zG | apply zD | apply zL | apply zA | apply zP | apply zB | refine zF (by simp only [go_sem, hq, hx, Int.toNat_natCast]; rfl) qR ?_ ?_ | refine zBj (by simp only [go_sem, hq, hx, Int.toNat_natCast]; rfl) qR ?_ (by simp only [go_sem, hq, hx, Int.toNat_natCast, zAw, zG5, zD7, zH2, zBf, keysA, zCz]; rfl) ?_ | refine zQ qK qK ?_ | exact rfl | exact qP | fail)
    refine zAr [2, 3, 4, 5, 6] qS ?_)
  obtain ⟨hstop, hS, hL⟩ := hs
  repeat' (first | apply zC | apply zA | apply zB | refine zF qS qR ?_ ?_ | refine zAp 0 4 ?_ | refine zA5 ?_ | exact rfl | exact qP | fail)
  (refine zE qS ?_ ?_ <;> intro hb <;> have hc := hb <;> (try simp only [bF] at hc) <;> (try (exfalso; simp at hc; done)))
  ·exfalso; rw [hstop] at hb; cases hb
  repeat' (first | apply zC | apply zD | apply zA | apply zB | refine zF qS qR ?_ ?_ | refine zK qR ?_ | exact zz0 | exact rfl | exact qP | fail)
  have hb14 : 0 ≤ (IntKind.i64.wrap (q.b.tmod 14 + 14)).tmod 14 ∧ (IntKind.i64.wrap (q.b.tmod 14 + 14)).tmod 14 < 14 := zCf q.b 14 (by omega) (by omega);generalize hK : (IntKind.i64.wrap (q.b.tmod 14 + 14)).tmod 14 = kk at hb14 ⊢;refine zAr [2, 3, 4, 5, 6, 7, 64, 83] qS ?_;rw [ha];obtain ⟨k, rfl⟩ : ∃ k : Nat, kk = (k : Int) := ⟨kk.toNat, by omega⟩;rw [Int.toNat_natCast]
  repeat' (first | apply zC | apply zD | apply zA | apply zB | refine zF qS qR ?_ ?_ | (refine zE qS ?_ ?_ <;> intro hb <;> have hc := hb <;> (try simp only [bF] at hc) <;> (try (exfalso; simp at hc; done))) | exact zz0 | exact rfl | fail)
  refine zUs hR hS [2, 3, 4, 5, 6, 7] (fun x : Nat × Unit => [(8, .int .i64 x.1)]) (fun t p x => [(6 + 5 * p.length, .acc 63 2 (t.Set ++ zs7 x.1).length fun i => zAe ((t.Set ++ zs7 x.1).getD i default))]) (fun x => x.1 ≤ k) (fun x => k - x.1) (0, ()) (fun x => qS) ?_ qL (by simp only [go_sem]; exact ⟨⟨_, rfl, yEc _⟩, trivial⟩) ?_
  ·exact Nat.zero_le _
  rintro ⟨j, _⟩ hj0;simp only at hj0;have hzl := yAj j
  repeat' (first | apply zC | apply zA | apply zB | refine zF qS qR ?_ ?_ | exact zz0 | exact rfl | fail)
  (refine zE qS ?_ ?_ <;> intro hb <;> have hc := hb <;> (try simp only [bF] at hc) <;> (try (exfalso; simp at hc; done)))
  ·have hj : j < k := by omega
   repeat' (first | apply zC | apply zG | apply zD | apply zL | apply zA | apply zP | apply zB | refine zF qS qR ?_ ?_ | refine zBj qS qR ?_ (by simp only [go_sem, zAw, zG5, zD7, zH2, zBf, keysA, zCz]; rfl) ?_ | refine zQ qK qK ?_ | refine zF0 qS ?_ qS ?_ | refine zU0 qS qS ?_ | refine yD2 ([UInt8.ofNat (65 + j)]) qS ?_ qR ?_ (by first | exact zT6 | exact yC9 | exact tU5) (by first | exact zT6 | exact yC9 | exact tU5) (by first | exact zT6 | exact yC9 | exact tU5) qS ?_ | exact zz0 | exact rfl | exact qP | fail)
   ·exact fun i hi => yF5 (by omega) i hi
   (first | (refine zB1 24 21 qR qS ?_; refine zJj hS (fun t => .acc 63 2 (t.Set ++ zs7 (j + 1)).length fun i => zAe ((t.Set ++ zs7 (j + 1)).getD i default)) 21 qR (zRb j _ rfl) ?_) | (refine zB1 19 16 qR qS ?_; refine zJj hS (fun t => .acc 63 2 (t.Set ++ zs7 (j + 1)).length fun i => zAe ((t.Set ++ zs7 (j + 1)).getD i default)) 16 qR (zRb j _ rfl) ?_) | (refine zB1 14 11 qR qS ?_; refine zJj hS (fun t => .acc 63 2 (t.Set ++ zs7 (j + 1)).length fun i => zAe ((t.Set ++ zs7 (j + 1)).getD i default)) 11 qR (zRb j _ rfl) ?_) | (refine zB1 9 6 qR qS ?_; refine zJj hS (fun t => .acc 63 2 (t.Set ++ zs7 (j + 1)).length fun i => zAe ((t.Set ++ zs7 (j + 1)).getD i default)) 6 qR (zRb j _ rfl) ?_))
   repeat' (first | refine zS (j+1,()) ?_ ?_ ⟨rfl, qL, qL⟩ | omega)
  ·have hj : j = k := by omega
   subst hj
   repeat' (first | apply zC | apply zL | apply zA | apply zB | refine zF qS qR ?_ ?_ | refine zK qR ?_ | exact zz0 | exact rfl | fail)
   (first | refine zO 21 qS ?_ | refine zO 16 qS ?_ | refine zO 11 qS ?_ | refine zO 6 qS ?_)
   (first | refine zO 22 qS ?_ | refine zO 17 qS ?_ | refine zO 12 qS ?_ | refine zO 7 qS ?_)
   repeat (first | (refine zAg 17 qR qR ?_; refine zO 17 qS ?_) | (refine zAg 12 qR qR ?_; refine zO 12 qS ?_) | (refine zAg 7 qR qR ?_; refine zO 7 qS ?_))
   repeat' (first | refine yA qR qS ?_ | fail)
   all_goals (refine zAc.le qZ ?_)
   repeat (refine SLe.need (SLe.refl _) (SLe.up _ _ _ ?_))
   exact SLe.need (SLe.refl _) (SLe.refl _)
end Go.Sx
namespace Go.Sx
open Go.Proofs Go.RowKit
attribute [local irreducible] Run zAi zAy OpT zAc SLe OLe
set_option maxHeartbeats 2000000
set_option maxRecDepth 8000
set_option maxHeartbeats 400000000
theorem yG0 (Rm : Need → List Nat → Prop) (hRm : ∀ n p, Rm n p → p.length ≤ 3) (K : FnM Tryz.prog 89 (fun ds os d os' => ∃ (n : Need) (p : List Nat), Rm n p ∧ ds = [zAb n] ∧ os = [] ∧ d = zQ2 0 n p ∧ os' = osP 0 n p)) :
  FnOK Tryz.prog 36 (fun ds v => ∃ (n : Need) (q : Q3) (p : List Nat), (Rm n p ∧ zC8 n q.c p ∧ (IntKind.i64.wrap (q.a.tmod 9 + 9)).tmod 9 = 8) ∧ ds = [zAb n, eQ q] ∧ v = zAb (.mk 3 0 0 [] (wrL n ((IntKind.i64.wrap (q.b.tmod 14 + 14)).tmod 14).toNat))) := by
 refine zAa Tryz.call36 Tryz.func36 rfl Tryz.ntmps36 ?_
 rintro ds d ⟨n, q, p, ⟨hR, hs, ha⟩, rfl, rfl⟩
 refine ⟨by simp, fun w0 => ?_⟩
 have hr := hRm _ _ hR
 rcases p with _ | ⟨i, _ | ⟨i1, _ | ⟨i2, _ | ⟨i3, r⟩⟩⟩⟩
 rotate_right
 ·exfalso
  simp only [List.length_cons] at hr;omega
 all_goals
  try simp only [zDx]
  repeat' (first | (show Run _ _ _ _ _ _; first | apply zC | apply zD | apply zA) | (show zAi _ _ _ _ _ _ _; first | apply zB | refine zF qS qR ?_ ?_ | refine zW [] K qR qD qZ qF ?_ ⟨n, _, hR, rfl, rfl, rfl, rfl⟩ qS ?_) | exact zz0 | exact rfl | fail)
  refine zAr [2, 3, 4, 5, 6] qS ?_
  repeat
   (obtain ⟨c', q1, hc, hq, h, hx, hl, hne, hs⟩ := zBl hs
    simp only [hc]
    repeat' (first | (show Run _ _ _ _ _ _; first | apply zC | apply zA | refine zAp 0 4 ?_ | refine zA5 ?_) | (show zAi _ _ _ _ _ _ _; first | apply zB | refine zF qS qR ?_ ?_) | exact rfl | exact qP | fail)
    (refine zE qS ?_ ?_ <;> intro hb <;> have hc := hb <;> (try simp only [bF] at hc) <;> (try (exfalso; simp at hc; done)))
    rotate_left
    ·exfalso; rw [h] at hb; cases hb
    repeat' (first | (show Run _ _ _ _ _ _; first | apply zC | apply zG | apply zD | apply zL | apply zA | apply zP) | (show zAi _ _ _ _ _ _ _; first | apply zB | refine zF (by simp only [go_sem, hq, hx, Int.toNat_natCast]; rfl) qR ?_ ?_) | (show zAy _ _ _ _ _ _ _ _ _ _; first | refine zBj (by simp only [go_sem, hq, hx, Int.toNat_natCast]; rfl) qR ?_ (by simp only [go_sem, hq, hx, Int.toNat_natCast, zAw, zG5, zD7, zH2, zBf, keysA, zCz]; rfl) ?_ | refine zQ qK qK ?_) | exact rfl | exact qP | fail)
    refine zAr [2, 3, 4, 5, 6] qS ?_)
  obtain ⟨hstop, hS, hL⟩ := hs
  repeat' (first | (show Run _ _ _ _ _ _; first | apply zC | apply zA | refine zAp 0 4 ?_ | refine zA5 ?_) | (show zAi _ _ _ _ _ _ _; first | apply zB | refine zF qS qR ?_ ?_) | exact rfl | exact qP | fail)
  (refine zE qS ?_ ?_ <;> intro hb <;> have hc := hb <;> (try simp only [bF] at hc) <;> (try (exfalso; simp at hc; done)))
  ·exfalso; rw [hstop] at hb; cases hb
  repeat' (first | (show Run _ _ _ _ _ _; first | apply zC | apply zD | apply zA | refine zK qR ?_) | (show zAi _ _ _ _ _ _ _; first | apply zB | refine zF qS qR ?_ ?_) | exact zz0 | exact rfl | exact qP | fail)
  have hb14 : 0 ≤ (IntKind.i64.wrap (q.b.tmod 14 + 14)).tmod 14 ∧ (IntKind.i64.wrap (q.b.tmod 14 + 14)).tmod 14 < 14 := zCf q.b 14 (by omega) (by omega);generalize hK : (IntKind.i64.wrap (q.b.tmod 14 + 14)).tmod 14 = kk at hb14 ⊢;refine zAr [2, 3, 4, 5, 6, 7, 64, 83] qS ?_;rw [ha];obtain ⟨k, rfl⟩ : ∃ k : Nat, kk = (k : Int) := ⟨kk.toNat, by omega⟩;rw [Int.toNat_natCast]
  (first | refine zO 21 qS ?_ | refine zO 16 qS ?_ | refine zO 11 qS ?_ | refine zO 6 qS ?_)
  (first | refine zO 22 qS ?_ | refine zO 17 qS ?_ | refine zO 12 qS ?_ | refine zO 7 qS ?_)
  repeat (first | (refine zAg 17 qR qR ?_; refine zO 17 qS ?_) | (refine zAg 12 qR qR ?_; refine zO 12 qS ?_) | (refine zAg 7 qR qR ?_; refine zO 7 qS ?_))
  repeat' (first | (show Run _ _ _ _ _ _; first | apply zC | apply zD | apply zA | (refine zE qS ?_ ?_ <;> intro hb <;> have hc := hb <;> (try simp only [bF] at hc) <;> (try (exfalso; simp at hc; done)))) | (show zAi _ _ _ _ _ _ _; first | refine yDv qS qD qR qS ?_ | apply zB | refine zQu qS ?_ ?_) | exact zz0 | exact rfl | fail)
  try (first | refine zB1 24 9 qR qS ?_ | refine zB1 19 9 qR qS ?_ | refine zB1 14 9 qR qS ?_)
  refine zAg 9 qR qR ?_;refine zR (o' := .acc 30 5 (wrL n 0).length fun i => zAb ((wrL n 0).getD i default)) 9 qR (yEe ?_) ?_
  ·subst_vars
   repeat (refine SLe.needE (SLe.refl _) (SLe.up0 _ _ ?_))
   exact SLe.needE (SLe.refl _) (SLe.refl _)
  refine zN [2, 3, 4, 5, 7] (fun x : Nat × Unit => [(9, .int .i64 x.1)]) (fun x : Nat × Unit => [(9, .acc 30 5 (wrL n x.1).length fun i => zAb ((wrL n x.1).getD i default))]) (fun x : Nat × Unit => x.1 ≤ k) (fun x : Nat × Unit => k - x.1) (0, ()) (fun x => qS) ?_ qL qL ?_
  ·exact Nat.zero_le _
  rintro ⟨j, _⟩ hj0;simp only at hj0;have hzl := yAk n j
  repeat' (first | (show Run _ _ _ _ _ _; first | apply zC | apply zA) | (show zAi _ _ _ _ _ _ _; first | apply zB | refine zF qS qR ?_ ?_) | exact zz0 | exact rfl | fail)
  (refine zE qS ?_ ?_ <;> intro hb <;> have hc := hb <;> (try simp only [bF] at hc) <;> (try (exfalso; simp at hc; done)))
  ·have hj : j < k := by omega
   refine zN5 9 qS qS qS ?_
   repeat' (first | (show Run _ _ _ _ _ _; first | apply zC | apply zG | apply zD | apply zL | apply zA | apply zP) | (show zAi _ _ _ _ _ _ _; first | apply zB | refine zF qS qR ?_ ?_) | (show zAy _ _ _ _ _ _ _ _ _ _; first | refine zBj qS qR ?_ (by simp only [go_sem, zAw, zG5, zD7, zH2, zBf, keysA, zCz]; rfl) ?_ | refine zQ qK qK ?_ | refine zU2 qS qS ?_ qS ?_ | refine zI6 qS qS ?_) | exact zz0 | exact rfl | exact qP | fail)
   (first | refine zB1 25 9 qR qS ?_ | refine zB1 20 9 qR qS ?_ | refine zB1 15 9 qR qS ?_ | refine zB1 10 9 qR qS ?_)
   refine zR (o' := .acc 30 5 (wrL n (j + 1)).length fun i => zAb ((wrL n (j + 1)).getD i default)) 9 qR (yEd n j SLe.lfB) ?_
   repeat' (first | (show Run _ _ _ _ _ _; first | refine zS (j+1,()) ?_ ?_ ⟨rfl, qL, qL⟩) | omega)
  ·have hj : j = k := by omega
   subst hj
   repeat' (first | (show Run _ _ _ _ _ _; first | apply zC | apply zL | apply zA | refine zK qR ?_) | (show zAi _ _ _ _ _ _ _; first | apply zB | refine zF qS qR ?_ ?_) | exact zz0 | exact rfl | fail)
   refine zO 9 qS ?_
   repeat' (first | (show Run _ _ _ _ _ _; first | refine yA qR qS ?_) | fail)
   all_goals (refine zAc.le qZ ?_)
   exact SLe.need SLe.nils (SLe.refl _)
end Go.Sx
namespace Go.Sx
open Go.Proofs Go.RowKit
set_option maxRecDepth 10000
def inP (n : Need) : List Nat → Prop
 | [] => True
 | i :: r => i < n.L.length ∧ inP (n.L.getD i default) r
theorem FnM.weaken {P : Program} {f : Nat} {R R' : List SD → List OB → SD → List (Nat × OB) → Prop} (h1 : FnM P f R) (h : ∀ a b c d, R' a b c d → R a b c d) : FnM P f R' := ⟨h1.call, fun ds os d os' x => h1.ok ds os d os' (h ds os d os' x)⟩
theorem FnM.or {P : Program} {f : Nat} {R R' : List SD → List OB → SD → List (Nat × OB) → Prop} (h1 : FnM P f R) (h2 : FnM P f R') : FnM P f (fun a b c d => R a b c d ∨ R' a b c d) := ⟨h1.call, fun ds os d os' h => h.elim (h1.ok ds os d os') (h2.ok ds os d os')⟩
theorem K89r : ∀ d : Nat, d ≤ 3 → FnM Tryz.prog 89 (fun ds os v os' => ∃ (n : Need) (p : List Nat), (GOk d n ∧ inP n p ∧ p.length ≤ d) ∧ ds = [zAb n] ∧ os = [] ∧ v = zQ2 0 n p ∧ os' = osP 0 n p)
 | 0, _ => (yFi (fun _ => False) zSm).weaken fun ds os v os' ⟨n, p, ⟨hn, hp, hl⟩, h1, h2, h3, h4⟩ => by
  have hL : n.L = [] := hn.2;obtain rfl : p = [] := List.eq_nil_of_length_eq_zero (by omega);exact ⟨n, ⟨fun m hm => (by rw [hL] at hm; cases hm), by rw [hL]; simp⟩, h1, h2, h3, h4⟩
 | d + 1, hd => by
  have k0 := yFi (fun m => WOk d m) (K89 d);have k1 := K89o (fun m => WOk d m) (fun c r => GOk d c ∧ inP c r ∧ r.length ≤ d) (fun c r h => by omega) (K89 d) (K89r d (by omega));refine (k0.or k1).weaken ?_;rintro ds os v os' ⟨n, p, ⟨hn, hp, hl⟩, h1, h2, h3, h4⟩;have hm : ∀ m ∈ n.L, WOk d m := fun m hm => (hn.2.2 m hm).wokd (by omega);have hle : n.L.length ≤ 10000 := by have := hn.2.1; omega
  cases p with
  | nil => exact .inl ⟨n, ⟨hm, hle⟩, h1, h2, h3, h4⟩
  | cons i r => exact .inr ⟨n, i, r, ⟨hp.1, hm, ⟨hn.2.2 _ (zAk hp.1), hp.2, by simpa using hl⟩, hle⟩, h1, h2, h3, h4⟩
def zPv : Nat → Need → Int → List Nat
 | 0, _, _ => []
 | d + 1, n, c => if yCo n c then
   let i := ((IntKind.i64.wrap ((IntKind.i64.wrap (c.tdiv 3)).tmod (n.L.length : Int) + (n.L.length : Int))).tmod (n.L.length : Int)).toNat
   i :: zPv d (n.L.getD i default) (IntKind.i64.wrap (c.tdiv 3))
  else []
theorem yEq (x : Int) (m : Nat) (hm : 0 < m) (h3 : m ≤ 3) : 0 ≤ (IntKind.i64.wrap (x.tmod (m : Int) + (m : Int))).tmod (m : Int) ∧ (IntKind.i64.wrap (x.tmod (m : Int) + (m : Int))).tmod (m : Int) < (m : Int) := zCf x (m : Int) (by omega) (by omega)
theorem zMk : ∀ (d : Nat) (n : Need) (c : Int), GOk d n → zC8 n c (zPv d n c) ∧ inP n (zPv d n c) ∧ (zPv d n c).length ≤ d
 | 0, n, c, h => ⟨⟨by rw [show n.L = [] from h.2]; rfl, by have := h.1.2; omega, by rw [show n.L = [] from h.2]; simp⟩, trivial, Nat.le_refl _⟩
 | d + 1, n, c, h => by
  simp only [zPv];split
  ·rename_i hc
   have hc0 := hc;simp only [yCo, zz3, decide_eq_true_eq] at hc0;have hb := yEq (IntKind.i64.wrap (c.tdiv 3)) n.L.length (by omega) h.2.1;generalize hi : ((IntKind.i64.wrap ((IntKind.i64.wrap (c.tdiv 3)).tmod (n.L.length : Int) + (n.L.length : Int))).tmod (n.L.length : Int)) = z at hb ⊢;obtain ⟨i, rfl⟩ : ∃ i : Nat, z = (i : Int) := ⟨z.toNat, by omega⟩;rw [Int.toNat_natCast];have hlt : i < n.L.length := by omega
   obtain ⟨g1, g2, g3⟩ := zMk d (n.L.getD i default) (IntKind.i64.wrap (c.tdiv 3)) (h.2.2 _ (zAk hlt));exact ⟨⟨hc, hi, hlt, g1⟩, ⟨hlt, g2⟩, by simp only [List.length_cons]; omega⟩
  ·rename_i hc
   exact ⟨⟨by simpa [yCo] using hc, by have := h.1.2; omega, by have := h.2.1; omega⟩, trivial, Nat.zero_le _⟩
def yDc (q : Q3) : Nat := ((IntKind.i64.wrap (q.b.tmod 14 + 14)).tmod 14).toNat
def yEf (d : Nat) (n : Need) (q : Q3) : Need := let a := (IntKind.i64.wrap (q.a.tmod 9 + 9)).tmod 9
 if a = 8 then .mk 3 0 0 [] (wrL n (yDc q)) else zDx a (yDc q) n (zPv d n q.c)
theorem K36 (d : Nat) (hd : d ≤ 3) : FnOK Tryz.prog 36 (fun ds v => ∃ (n : Need) (q : Q3), GOk d n ∧ ds = [zAb n, eQ q] ∧ v = zAb (yEf d n q)) := by
 have K := K89r d hd
 have hR : ∀ (n : Need) (p : List Nat), (GOk d n ∧ inP n p ∧ p.length ≤ d) → p.length ≤ 3 := fun n p h => by omega
 refine ⟨(yFj _ hR K).call, ?_⟩
 rintro ds v ⟨n, q, hn, rfl, rfl⟩
 obtain ⟨g1, g2, g3⟩ := zMk d n q.c hn
 have hb : 0 ≤ (IntKind.i64.wrap (q.a.tmod 9 + 9)).tmod 9 ∧ (IntKind.i64.wrap (q.a.tmod 9 + 9)).tmod 9 < 9 := zCf q.a 9 (by omega) (by omega)
 simp only [yEf]
 have h9 : (IntKind.i64.wrap (q.a.tmod 9 + 9)).tmod 9 = 0 ∨ (IntKind.i64.wrap (q.a.tmod 9 + 9)).tmod 9 = 1 ∨ (IntKind.i64.wrap (q.a.tmod 9 + 9)).tmod 9 = 2 ∨ (IntKind.i64.wrap (q.a.tmod 9 + 9)).tmod 9 = 3 ∨ (IntKind.i64.wrap (q.a.tmod 9 + 9)).tmod 9 = 4 ∨ (IntKind.i64.wrap (q.a.tmod 9 + 9)).tmod 9 = 5 ∨ (IntKind.i64.wrap (q.a.tmod 9 + 9)).tmod 9 = 6 ∨ (IntKind.i64.wrap (q.a.tmod 9 + 9)).tmod 9 = 7 ∨ (IntKind.i64.wrap (q.a.tmod 9 + 9)).tmod 9 = 8 := by omega
 rcases h9 with h | h | h | h | h | h | h | h | h <;> rw [h]
 ·exact (yFj _ hR K).ok _ _ ⟨n, q, _, ⟨⟨hn, g2, g3⟩, g1, h⟩, rfl, rfl⟩
 ·exact (yG7 _ hR K).ok _ _ ⟨n, q, _, ⟨⟨hn, g2, g3⟩, g1, h⟩, rfl, rfl⟩
 ·exact (yG6 _ hR K).ok _ _ ⟨n, q, _, ⟨⟨hn, g2, g3⟩, g1, h⟩, rfl, rfl⟩
 ·exact (yG5 _ hR K).ok _ _ ⟨n, q, _, ⟨⟨hn, g2, g3⟩, g1, h⟩, rfl, rfl⟩
 ·exact (yG4 _ hR K).ok _ _ ⟨n, q, _, ⟨⟨hn, g2, g3⟩, g1, h⟩, rfl, rfl⟩
 ·exact (yG3 _ hR K).ok _ _ ⟨n, q, _, ⟨⟨hn, g2, g3⟩, g1, h⟩, rfl, rfl⟩
 ·exact (yG2 _ hR K).ok _ _ ⟨n, q, _, ⟨⟨hn, g2, g3⟩, g1, h⟩, rfl, rfl⟩
 ·exact (yG1 _ hR K).ok _ _ ⟨n, q, _, ⟨⟨hn, g2, g3⟩, g1, h⟩, rfl, rfl⟩
 ·exact (yG0 _ hR K).ok _ _ ⟨n, q, _, ⟨⟨hn, g2, g3⟩, g1, h⟩, rfl, rfl⟩
theorem NOk.zero {n : Need} (hs : zGc n) (hL : n.L = []) : ∀ d, NOk d n
 | 0 => ⟨hs, hL⟩
 | d + 1 => ⟨hs, by rw [hL]; intro x hx; cases hx⟩
theorem yGz (b : UInt8) (hb : b.toNat < 128) : Asc ⟨#[b]⟩ := ⟨by show 1 ≤ 100000; omega, fun i hi => by
 have h1 : i < 1 := hi
 obtain rfl : i = 0 := by omega
 exact hb⟩
theorem asc2 (a b : UInt8) (ha : a.toNat < 128) (hb : b.toNat < 128) : Asc ⟨#[a, b]⟩ := ⟨by show 2 ≤ 100000; omega, fun i hi => by
 have h1 : i < 2 := hi
 rcases (show i = 0 ∨ i = 1 by omega) with rfl | rfl
 ·exact ha
 ·exact hb⟩
theorem zW1 (l : List UInt8) (h : l.all (fun b => decide (b.toNat < 128)) = true) (hl : l.length ≤ 100000) : Asc ⟨l.toArray⟩ := ⟨by show l.toArray.size ≤ 100000; simpa using hl, fun i hi => by
 have h1 : i < l.length := by have : i < l.toArray.size := hi; simpa using this
 have := List.all_eq_true.1 h _ (List.getElem_mem h1)
 simp only [decide_eq_true_eq] at this
 show (l.toArray[i]'_).toNat < 128
 simpa using this⟩
theorem zXc (k : Nat) : Asc (yF3.getD k ByteArray.empty) := by
 by_cases h : k < 14
 ·rcases (show k = 0 ∨ k = 1 ∨ k = 2 ∨ k = 3 ∨ k = 4 ∨ k = 5 ∨ k = 6 ∨ k = 7 ∨ k = 8 ∨ k = 9 ∨ k = 10 ∨ k = 11 ∨ k = 12 ∨ k = 13 by omega) with rfl | rfl | rfl | rfl | rfl | rfl | rfl | rfl | rfl | rfl | rfl | rfl | rfl | rfl <;> exact zW1 _ (by decide) (by decide)
 ·rw [zz2, List.getElem?_eq_none (by show 14 ≤ k; omega)]
  exact zW1 [] rfl (by simp)
theorem yDn {j : Nat} (h : j < 14) : Asc (zJ j) := asc2 _ _ (by decide) (by rw [UInt8.toNat_ofNat']; omega)
theorem zYn : zGc leafA := fun c hc => by
 obtain rfl : c = ⟨1, ⟨#[65]⟩⟩ := by simpa [leafA, Need.Set] using hc
 exact yGz _ (by decide)
theorem zYm : zGc leafB := fun c hc => by
 obtain rfl : c = ⟨2, ⟨#[66]⟩⟩ := by simpa [leafB, Need.Set] using hc
 exact yGz _ (by decide)
theorem zXu {l : List Course} (h : ∀ c ∈ l, Asc c.Code) (k : Nat) : ∀ c ∈ yDa l k, Asc c.Code := by
 cases l with
 | nil => intro c hc; cases hc
 | cons x r =>
  intro c hc
  rcases List.mem_cons.1 hc with rfl | hc
  ·exact zXc k
  ·exact h c (List.mem_cons_of_mem _ hc)
theorem zIu {n : Need} (hL : n.L = []) : ∀ d k, (zAd d k n).length = 1
 | 0, _ => rfl
 | d + 1, k => by rw [zAu, hL]; rfl
theorem zJr : ∀ (d k : Nat) {n : Need}, NOk d n → (zAd (d + 1) k n).length = (zAd d k n).length
 | 0, k, n, h => zIu h.2 _ _
 | d + 1, k, n, h => by
  rw [zAu, zAu]
  congr 1
  have key : ∀ l : List Need, (∀ x ∈ l, NOk d x) → (l.flatMap (zAd (d + 1) (k + 1))).length = (l.flatMap (zAd d (k + 1))).length := fun l => by
   induction l with
   | nil => intro _; rfl
   | cons x r ih =>
    intro hx;rw [List.flatMap_cons, List.flatMap_cons, List.length_append, List.length_append, ih fun y hy => hx y (List.mem_cons_of_mem _ hy), zJr d (k + 1) (hx x List.mem_cons_self)]
  exact key n.L h.2
theorem yBv {d : Nat} {n : Need} (h : GOk d n) (a : Int) {k : Nat} (hk : k < 14) (kk : Nat) : NOk (d + 1) (yFs n a k) ∧ (zAd (d + 1) kk (yFs n a k)).length ≤ c3 d + 1 := by
 have h0 := (NOk.up h.nok).1
 have hn := zJr d kk h.nok
 have hc := GOk.nodes d kk h
 have hch : ∀ x ∈ n.L, NOk d x := h0.2
 have hs : zGc n := h0.1
 have same : ∀ m : Need, zGc m → m.L = n.L → NOk (d + 1) m ∧ (zAd (d + 1) kk m).length ≤ c3 d + 1 := fun m hm hL => by
  refine ⟨⟨hm, by rw [hL]; exact hch⟩, ?_⟩;rw [zAu, hL, ← zAu d kk n, hn]; omega
 unfold yFs
 split
 ·exact same _ hs rfl
 split
 ·exact same _ hs rfl
 split
 ·exact same _ hs rfl
 split
 ·refine same _ (fun c hc => ?_) rfl
  rcases List.mem_append.1 hc with hc | hc
  ·exact hs c hc
  ·obtain rfl : c = ⟨IntKind.i64.wrap ((k : Int) - 2), ⟨#[90]⟩⟩ := by simpa using hc
   exact yGz _ (by decide)
 split
 ·refine ⟨⟨hs, fun x hx => ?_⟩, ?_⟩
  ·rcases List.mem_append.1 hx with hx | hx
   ·exact hch x hx
   ·obtain rfl : x = leafA := by simpa using hx
    exact NOk.zero zYn rfl d
  ·rw [zAu]
   show 1 + ((n.L ++ [leafA]).flatMap (zAd d (kk + 1))).length ≤ _;rw [List.flatMap_append, List.length_append, List.flatMap_cons, List.flatMap_nil, List.append_nil, zIu (n := leafA) rfl];rw [zAu] at hn;omega
 split
 ·exact same _ (fun c hc => by cases hc) rfl
 split
 ·exact same _ (zXu hs k) rfl
 ·refine same _ (fun c hc => ?_) rfl
  rcases List.mem_append.1 hc with hc | hc
  ·exact hs c hc
  ·obtain ⟨j, hj, rfl⟩ := List.mem_map.1 hc
   exact yDn (by have := List.mem_range.1 hj; omega)
theorem zR2 (f : Need → List (Need × Nat)) : ∀ (l : List Need) (i : Nat) (x : Need), i < l.length → ((l.set i x).flatMap f).length + (f (l.getD i default)).length = (l.flatMap f).length + (f x).length
 | [], i, x, h => absurd h (Nat.not_lt_zero i)
 | y :: r, 0, x, _ => by simp only [List.set_cons_zero, List.flatMap_cons, List.length_append, List.getD_cons_zero]; omega
 | y :: r, i + 1, x, h => by
  have := zR2 f r i x (by simpa using h);simp only [List.set_cons_succ, List.flatMap_cons, List.length_append, List.getD_cons_succ]; omega
theorem zRd : ∀ (p : List Nat) (d : Nat) {n : Need} (_ : GOk d n) (a : Int) {k : Nat} (_ : k < 14) (kk : Nat), inP n p → p.length ≤ d → NOk (d + 1) (zDx a k n p) ∧ (zAd (d + 1) kk (zDx a k n p)).length ≤ (zAd d kk n).length + c3 d + 1
 | [], d, n, h, a, k, hk, kk, _, _ => by
  have := yBv h a hk kk;exact ⟨this.1, by have := this.2; simp only [zDx]; omega⟩
 | i :: r, 0, n, h, a, k, hk, kk, _, hl => by simp only [List.length_cons] at hl; omega
 | i :: r, d + 1, n, h, a, k, hk, kk, hp, hl => by
  have hc : GOk d (n.L.getD i default) := h.2.2 _ (zAk hp.1);obtain ⟨g1, g2⟩ := zRd r d hc a hk (kk + 1) hp.2 (by simpa using hl);refine ⟨⟨fun c hc => (h.1.1 c hc).asc, fun x hx => ?_⟩, ?_⟩
  ·rcases List.mem_or_eq_of_mem_set hx with hx | rfl
   ·exact (NOk.up (GOk.nok d (h.2.2 x hx))).1
   ·exact g1
  ·rw [zAu]
   show 1 + ((n.L.set i (zDx a k (n.L.getD i default) r)).flatMap (zAd (d + 1) (kk + 1))).length ≤ _;have h1 := zR2 (zAd (d + 1) (kk + 1)) n.L i (zDx a k (n.L.getD i default) r) hp.1;have h2 := zJr (d + 1) kk h.nok;rw [zAu] at h2;have h3 := zJr d (kk + 1) hc.nok;simp only [c3];omega
theorem yBx (q : Q3) : yDc q < 14 := by
 have : 0 ≤ (IntKind.i64.wrap (q.b.tmod 14 + 14)).tmod 14 ∧ (IntKind.i64.wrap (q.b.tmod 14 + 14)).tmod 14 < 14 := zCf q.b 14 (by omega) (by omega)
 unfold yDc; omega
theorem yBy {n : Need} (h : GOk 3 n) (q : Q3) : WOk 4 (yEf 3 n q) := by
 obtain ⟨_, g2, g3⟩ := zMk 3 n q.c h
 have hk := yBx q
 have hn := GOk.nodes 3 1 h
 simp only [c3] at hn
 unfold yEf
 simp only
 split
 ·refine ⟨⟨fun c hc => (by cases hc), fun x hx => ?_⟩, ?_⟩
  ·rcases List.mem_cons.1 hx with rfl | hx
   ·exact h.nok
   ·obtain rfl := List.eq_of_mem_replicate hx
    exact NOk.zero zYm rfl 3
  ·rw [zAu]
   show 1 + ((n :: List.replicate (yDc q) leafB).flatMap (zAd 3 2)).length ≤ 1000
   have h1 := zQa (zAd 3 2) 1 (List.replicate (yDc q) leafB) fun x hx => by
    obtain rfl := List.eq_of_mem_replicate hx;rw [zIu rfl];exact Nat.le_refl _
   have h2 := GOk.nodes 3 2 h;simp only [c3] at h2;rw [List.length_replicate] at h1;rw [List.flatMap_cons, List.length_append];omega
 ·obtain ⟨k1, k2⟩ := zRd (zPv 3 n q.c) 3 h ((IntKind.i64.wrap (q.a.tmod 9 + 9)).tmod 9) hk 1 g2 g3
  refine ⟨k1, ?_⟩;simp only [c3] at k2;exact Nat.le_trans k2 (by omega)
end Go.Sx
