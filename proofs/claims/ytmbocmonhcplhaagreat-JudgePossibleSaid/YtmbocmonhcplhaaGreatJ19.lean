/- Part of the proof that the laws of the judge return true for every input: J17, J18, J19. -/
import Derived.Test.YtmbocmonhcplhaaGreatJ16
import Derived.Test.YtmbocmonhcplhaaGreatS3
set_option linter.all false
namespace Go.Sx
open Go.Proofs Go.RowKit
attribute [local irreducible] Run RunL RunD RunE SLe0 SLe OLe
set_option maxHeartbeats 2000000
set_option maxRecDepth 8000
theorem K78e : ∃ G : List Item × Item → List Item, (∀ x : List Item × Item, x.1.length ≤ 1000 → (G x).length ≤ x.1.length + 1) ∧ FnOK Tryz.prog 78 (fun ds d => ∃ x, x.1.length ≤ 1000 ∧ ds = [eList 2 eItem x.1, eItem x.2] ∧ d = eList 2 eItem (G x)) := by
 refine fn_introE0 Tryz.call78 Tryz.func78 rfl Tryz.ntmps78 (α := List Item × Item) (β := List Item) (fun x => x.1.length ≤ 1000) (fun x y => y.length ≤ x.1.length + 1) (fun x => [eList 2 eItem x.1, eItem x.2]) (fun _ y => eList 2 eItem y) ?_
 rintro ⟨l, y⟩ hl
 simp only at hl
 refine ⟨by simp, ?_⟩
 repeat' (first | (refine zH (K' := ?_) (s' := ?_) (fun F w0 fn hE => ?_) ?_; rotate_left 2; focus ((first | apply zC | fail); (repeat' (first | apply zC | apply zD | apply zA | apply zB | refine zF qS qR ?_ ?_ | exact True.intro | exact rfl | exact hE | fail)))) | (refine zS qS ?_ ?_ <;> intro hb <;> have hc := hb <;> (try simp only [bF] at hc) <;> (try (exfalso; simp at hc; done))))
 refine runE_loop [0, 3, 4] (fun i : Nat => [(5, .int .i64 i)]) (fun i : Nat => []) (fun i : Nat => i ≤ l.length) (fun i : Nat => i) l.length (fun x => qS) ?_ qE qE ?_
 ·exact Nat.le_refl _
 rintro i n h1 ih
 have e0 : 0 < i → IntKind.i64.wrap ((i : Int) - 1) = ((i - 1 : Nat) : Int) := fun h => by rw [w64]; omega
 by_cases hz : i = 0
 ·subst hz
  repeat' (first | (refine zH (K' := ?_) (s' := ?_) (fun F w0 fn hE => ?_) ?_; rotate_left 2; focus ((first | apply zC | apply zG | refine zJ qR ?_ | fail); (repeat' (first | apply zC | apply zA | apply zO | apply zB | refine runDbs qS qS ?_ | refine zF qS qR ?_ ?_ | refine zT qS qR ?_ ?_ | refine zP qK qK ?_ | refine runDapN qS ?_ qS ?_ | exact True.intro | exact rfl | exact hE | exact qP | fail)))) | (refine zS qS ?_ ?_ <;> intro hb <;> have hc := hb <;> (try simp only [bF] at hc) <;> (try (exfalso; simp at hc; done))))
  ·(refine zY (ds := ?ds1) (⟨l, Nat.le_succ _⟩ : {z : List Item // z.length ≤ l.length + 1}) qR ?qa1 ?qb1; (case qa1 => (simp only [go_sem]; rfl)); case' qb1 => (refine SLe0.le qZ ?_; simp only [go_sem]; repeat' (first | exact trivial | exact True.intro | exact SLe.refl _ | exact OLe.refl _ | exact ⟨_, rfl, OLe.refl _⟩ | refine ⟨_, rfl, ?_⟩ | refine OLe.var ?_ | (show SLeL _ _; refine ⟨?_, ?_⟩) | (show SLeL [] []; exact True.intro) | (refine SLe.int ?_; rw [w64]; omega) | refine SLe.int ?_ | refine SLe.bool ?_ | apply And.intro | exact OLe.snoc1 _ _ | exact OLe.snoc2 _ _ | exact SLe.nil0 | exact SLe.nils | exact SLe.take8 _ _ | exact SLe.lit1 _ | exact SLe.needs _ | exact SLe.pair1 _ _ _ _ | exact SLe.refl _ | refine SLe.agg ?_ | refine SLe.tup ?_)))
  ·refine zH (fun _ _ _ hE => zQ 4 qR (OLe.cat eItem l y (i := 0) h1) hE) ?_
   refine zH (fun _ _ _ hE => zN 4 qS hE) ?_
   (refine zY (ds := ?ds2) (⟨l.take 0 ++ y :: l.drop 0, by simp⟩ : {z : List Item // z.length ≤ l.length + 1}) qR ?qa2 ?qb2; (case qa2 => (simp only [go_sem]; rfl)); case' qb2 => (refine SLe0.le qZ ?_; simp only [go_sem]; repeat' (first | exact trivial | exact True.intro | exact SLe.refl _ | exact OLe.refl _ | exact ⟨_, rfl, OLe.refl _⟩ | refine ⟨_, rfl, ?_⟩ | refine OLe.var ?_ | (show SLeL _ _; refine ⟨?_, ?_⟩) | (show SLeL [] []; exact True.intro) | (refine SLe.int ?_; rw [w64]; omega) | refine SLe.int ?_ | refine SLe.bool ?_ | apply And.intro | exact OLe.snoc1 _ _ | exact OLe.snoc2 _ _ | exact SLe.nil0 | exact SLe.nils | exact SLe.take8 _ _ | exact SLe.lit1 _ | exact SLe.needs _ | exact SLe.pair1 _ _ _ _ | exact SLe.refl _ | refine SLe.agg ?_ | refine SLe.tup ?_)))
 ·have e1 := e0 (by omega)
  repeat' (first | (refine zH (K' := ?_) (s' := ?_) (fun F w0 fn hE => ?_) ?_; rotate_left 2; focus ((first | apply zC | apply zG | refine zJ qR ?_ | fail); (repeat' (first | apply zC | apply zD | apply zK | apply zA | apply zO | apply zB | refine runDbs (by simp only [go_sem, e1, Int.toNat_natCast]; rfl) (by simp only [go_sem, e1, Int.toNat_natCast]; rfl) ?_ | refine zF (by simp only [go_sem, e1, Int.toNat_natCast]; rfl) qR ?_ ?_ | refine zT (by simp only [go_sem, e1, Int.toNat_natCast]; rfl) qR ?_ ?_ | refine zP qK qK ?_ | refine runDapN (by simp only [go_sem, e1, Int.toNat_natCast]; rfl) ?_ (by simp only [go_sem, e1, Int.toNat_natCast]; rfl) ?_ | exact True.intro | exact rfl | exact hE | exact qP | fail)))) | (refine zS qS ?_ ?_ <;> intro hb <;> have hc := hb <;> (try simp only [bF] at hc) <;> (try (exfalso; simp at hc; done))))
  ·refine zX ih ((i - 1)) ?_ ?_ ⟨rfl, qE, qE⟩
   ·omega
   ·omega
  ·(refine zY (ds := ?ds4) (⟨l, Nat.le_succ _⟩ : {z : List Item // z.length ≤ l.length + 1}) qR ?qa4 ?qb4; (case qa4 => (simp only [go_sem]; rfl)); case' qb4 => (refine SLe0.le qZ ?_; simp only [go_sem]; repeat' (first | exact trivial | exact True.intro | exact SLe.refl _ | exact OLe.refl _ | exact ⟨_, rfl, OLe.refl _⟩ | refine ⟨_, rfl, ?_⟩ | refine OLe.var ?_ | (show SLeL _ _; refine ⟨?_, ?_⟩) | (show SLeL [] []; exact True.intro) | (refine SLe.int ?_; rw [w64]; omega) | refine SLe.int ?_ | refine SLe.bool ?_ | apply And.intro | exact OLe.snoc1 _ _ | exact OLe.snoc2 _ _ | exact SLe.nil0 | exact SLe.nils | exact SLe.take8 _ _ | exact SLe.lit1 _ | exact SLe.needs _ | exact SLe.pair1 _ _ _ _ | exact SLe.refl _ | refine SLe.agg ?_ | refine SLe.tup ?_)))
  ·refine zH (fun _ _ _ hE => zQ 4 qR (OLe.cat eItem l y (i := i) h1) hE) ?_
   refine zH (fun _ _ _ hE => zN 4 qS hE) ?_
   (refine zY (ds := ?ds5) (⟨l.take i ++ y :: l.drop i, by simp; omega⟩ : {z : List Item // z.length ≤ l.length + 1}) qR ?qa5 ?qb5; (case qa5 => (simp only [go_sem]; rfl)); case' qb5 => (refine SLe0.le qZ ?_; simp only [go_sem]; repeat' (first | exact trivial | exact True.intro | exact SLe.refl _ | exact OLe.refl _ | exact ⟨_, rfl, OLe.refl _⟩ | refine ⟨_, rfl, ?_⟩ | refine OLe.var ?_ | (show SLeL _ _; refine ⟨?_, ?_⟩) | (show SLeL [] []; exact True.intro) | (refine SLe.int ?_; rw [w64]; omega) | refine SLe.int ?_ | refine SLe.bool ?_ | apply And.intro | exact OLe.snoc1 _ _ | exact OLe.snoc2 _ _ | exact SLe.nil0 | exact SLe.nils | exact SLe.take8 _ _ | exact SLe.lit1 _ | exact SLe.needs _ | exact SLe.pair1 _ _ _ _ | exact SLe.refl _ | refine SLe.agg ?_ | refine SLe.tup ?_)))
end Go.Sx
namespace Go.Sx
open Go.Proofs Go.RowKit
attribute [local irreducible] Run RunL RunD RunE SLe0 SLe OLe
set_option maxHeartbeats 2000000
set_option maxRecDepth 8000
@[go_sem] def caseL (c : Case) : List SD := pCells c.Programme ++ [.int .i64 c.Scale.Worst, .int .i64 c.Scale.Best, .int .i64 c.Scale.Pass, eList 8 eAch c.Has, .int .i64 c.First, .int .i64 c.Terms, eList 5 eOffer c.Offers, eList 2 eItem c.Items, .int .i64 c.Most, .int .i64 c.Day]
theorem K26e : ∃ G : (List Int × List Int) × List Int × List Int → Case, (∀ x : (List Int × List Int) × List Int × List Int, True → (G x).Items.length ≤ 4 ∧ (G x).Has.length ≤ 3 ∧ (G x).Offers.length ≤ 6) ∧ FnOK Tryz.prog 26 (fun ds d => ∃ x, True ∧ ds = [lngs x.1.1, lngs x.1.2, lngs x.2.1, lngs x.2.2] ∧ d = eCase (G x)) := by
 obtain ⟨G34, _, K34⟩ := K34e
 obtain ⟨G37, g37, K37⟩ := K37e
 obtain ⟨G76, g76, K76⟩ := K76e
 obtain ⟨G78, g78, K78⟩ := K78e
 refine fn_introE0 Tryz.call26 Tryz.func26 rfl Tryz.ntmps26 (α := (List Int × List Int) × List Int × List Int) (β := Case) (fun _ => True) (fun _ y => y.Items.length ≤ 4 ∧ y.Has.length ≤ 3 ∧ y.Offers.length ≤ 6) (fun x => [lngs x.1.1, lngs x.1.2, lngs x.2.1, lngs x.2.2]) (fun _ y => eCase y) ?_
 rintro ⟨⟨A, B⟩, C, L⟩ _
 refine ⟨by simp, ?_⟩
 repeat' (first | (refine zH (K' := ?_) (s' := ?_) (fun F w0 fn hE => ?_) ?_; rotate_left 2; focus ((first | apply zC | fail); (repeat' (first | apply zC | apply zD | apply zA | apply zB | refine zF qS qR ?_ ?_ | refine zV [1] K77 qR qD qZ qF ?_ ⟨L, _, _, (by decide), rfl, rfl, rfl, rfl⟩ qS ?_ | refine zL K34 qD ?_ ⟨B, trivial, rfl, rfl⟩ qS ?_ | refine zL K13 qD ?_ ⟨_, rfl, rfl⟩ qS ?_ | refine zL K76 qD ?_ ⟨A, trivial, rfl, rfl⟩ qS ?_ | refine zL K37 qD ?_ ⟨C, trivial, rfl, rfl⟩ qS ?_ | exact True.intro | exact rfl | exact hE | exact qP | fail)))) | (refine zS qS ?_ ?_ <;> intro hb <;> have hc := hb <;> (try simp only [bF] at hc) <;> (try (exfalso; simp at hc; done))))
 have b3 := nx_bd L (nxA L 0) 3 (by omega)
 have b4 := nx_bd L (nxA L (nxA L (nxA L 0))) 5 (by omega)
 have b6 := g76 A trivial
 generalize hT : IntKind.i64.wrap (1 + nxN L (nxA L 0) 3) = tm
 have hT1 : 1 ≤ tm ∧ tm ≤ 3 := by rw [w64] at hT; omega
 refine runE_loop [0, 1, 2, 3, 8, 9, 10, 11, 12] (fun x : List Item × Nat × Nat => [(13, .int .i64 x.2.2)]) (fun x : List Item × Nat × Nat => [(1, eDraw L x.2.1), (2, .var (caseL ⟨G34 B, ofR 1, (G37 C).take 3, IntKind.i64.wrap (6 + nxN L 0 2), tm, G76 A, x.1, IntKind.i64.wrap (5 + IntKind.i64.wrap (5 * nxN L (nxA L (nxA L 0)) 5)), IntKind.i64.wrap (IntKind.i64.wrap (100 * IntKind.i64.wrap (6 + nxN L 0 2)) - 1)⟩))]) (fun x : List Item × Nat × Nat => x.2.2 ≤ 4 ∧ x.1.length ≤ x.2.2) (fun x : List Item × Nat × Nat => 4 - x.2.2) ([], nxA L (nxA L (nxA L (nxA L 0))), 0) (fun x => qS) ?_ qE qE ?_
 ·exact ⟨by simp, by simp⟩
 rintro ⟨its, p, k⟩ n ⟨h1, h2⟩ ih
 simp only at h1 h2
 (refine zH (K' := ?_) (s' := ?_) (fun F w0 fn hE => ?_) ?_; rotate_left 2; focus ((first | apply zC | fail); (repeat' (first | apply zC | apply zA | apply zB | refine zF qS qR ?_ ?_ | exact rfl | exact hE | exact qP | fail))))
 refine zS qS ?_ ?_ <;> intro hb <;> have hc := hb <;> (try simp only [bF] at hc) <;> (try (exfalso; simp at hc; done))
 ·simp only [Bool.and_eq_true, decide_eq_true_eq] at hb
  repeat' (first | (refine zH (K' := ?_) (s' := ?_) (fun F w0 fn hE => ?_) ?_; rotate_left 2; focus ((first | apply zG | fail); (repeat' (first | apply zC | apply zD | apply zK | apply zA | apply zO | apply zB | refine zF qS qR ?_ ?_ | refine zT qS qR ?_ ?_ | refine zP qK qK ?_ | refine runDcallM [1] K77 qR qD qZ qF ?_ ⟨L, _, _, (by omega), rfl, rfl, rfl, rfl⟩ qS ?_ | refine zW K78 qD ?_ ⟨(its, ⟨_, _⟩), (by simp only; omega), rfl, rfl⟩ qS ?_ | exact hE | (show allP _; simp only [allP, go_sem, codesLen]; (repeat' apply And.intro) <;> first | exact True.intro | exact (nx_bd _ _ _ (by omega)).1 | exact (nx_bd _ _ _ (by omega)).2 | (refine Int.lt_of_lt_of_le (nx_bd _ _ _ (by omega)).2 (by omega)) | (intros; omega)) | exact True.intro | exact rfl | fail)))) | (refine zS qS ?_ ?_ <;> intro hb <;> have hc := hb <;> (try simp only [bF] at hc) <;> (try (exfalso; simp at hc; done))))
  refine zX ih ((G78 (its, ⟨_, _⟩), ?u2, k + 1)) ?_ ?_ ⟨rfl, qE, qE⟩
  ·exact ⟨by simp only; omega, Nat.le_trans (g78 _ (by simp only; omega)) (by simp only; omega)⟩
  ·simp only; omega
 ·repeat' (first | (refine zH (K' := ?_) (s' := ?_) (fun F w0 fn hE => ?_) ?_; rotate_left 2; focus ((first | refine zJ qR ?_ | fail); (repeat' (first | apply zC | apply zA | apply zB | refine zF qS qR ?_ ?_ | exact True.intro | exact rfl | exact hE | fail)))) | (refine zS qS ?_ ?_ <;> intro hb <;> have hc := hb <;> (try simp only [bF] at hc) <;> (try (exfalso; simp at hc; done))))
  (refine zY (ds := ?ds7) (⟨⟨G34 B, ofR 1, (G37 C).take 3, ?u4, ?u5, G76 A, its, ?u6, ?u7⟩, by simp only; omega, by simp only [List.length_take]; omega, b6⟩ : {y : Case // y.Items.length ≤ 4 ∧ y.Has.length ≤ 3 ∧ y.Offers.length ≤ 6}) qR ?qa7 ?qb7; (case qa7 => (simp only [go_sem]; rfl)); case' qb7 => (refine SLe0.le qZ ?_; simp only [go_sem]; repeat' (first | exact trivial | exact True.intro | exact SLe.refl _ | exact OLe.refl _ | exact ⟨_, rfl, OLe.refl _⟩ | refine ⟨_, rfl, ?_⟩ | refine OLe.var ?_ | (show SLeL _ _; refine ⟨?_, ?_⟩) | (show SLeL [] []; exact True.intro) | (refine SLe.int ?_; rw [w64]; omega) | refine SLe.int ?_ | refine SLe.bool ?_ | apply And.intro | exact OLe.snoc1 _ _ | exact OLe.snoc2 _ _ | exact SLe.nil0 | exact SLe.nils | exact SLe.take8 _ _ | exact SLe.lit1 _ | exact SLe.needs _ | exact SLe.pair1 _ _ _ _ | exact SLe.refl _ | refine SLe.agg ?_ | refine SLe.tup ?_)))
end Go.Sx
namespace Go.Sx
open Go.Proofs Go.RowKit
attribute [local irreducible] Run RunL RunD RunE SLe0 SLe OLe
set_option maxHeartbeats 2000000
set_option maxRecDepth 8000
theorem K23 : FnOK Tryz.prog 23 (fun ds d => ∃ a : Ach, ds = [eAch a] ∧ d = eAch a) := by
 refine fn_intro Tryz.call23 Tryz.func23 rfl Tryz.ntmps23 ?_
 rintro ds d ⟨a, rfl, rfl⟩
 refine ⟨by simp, fun w0 => ?_⟩
 refine yD 0 5 rfl rfl fun h1 => ?_
 refine yD 0 7 rfl rfl fun h2 => ?_
 repeat' (first | refine zN 2 qS ?_ | refine zN 3 qS ?_ | apply zC | apply zA | apply zB | refine zF qS qR ?_ ?_ | refine zZ qR qS ?_ | exact True.intro | exact rfl | exact qP | fail)
 (refine SLe0.le qZ ?_; repeat' (first | exact True.intro | exact SLe.refl _ | refine SLe.agg ?_ | refine SLe.tup ?_ | refine And.intro ?_ ?_ | exact SLe.nils | refine SLe.int ?_ | refine SLe.bool ?_ | refine SLe.str ?_))
 ·exact SLe.list (Nat.zero_add _) fun i _ => by simp only [joinF, Nat.not_lt_zero, if_false, Nat.sub_zero]; rfl
 ·exact SLe.list (Nat.zero_add _) fun i _ => by simp only [joinF, Nat.not_lt_zero, if_false, Nat.sub_zero]; rfl
structure Arg where (Offers Programme Own Rest : List Int) (O1 O2 O3 : Int)
 deriving Inhabited
@[go_sem] def eArg (a : Arg) : SD := .agg [lngs a.Offers, lngs a.Programme, lngs a.Own, lngs a.Rest, eInt a.O1, eInt a.O2, eInt a.O3]
theorem SLe.take2 (l : List Item) (n : Nat) : SLe (.list 2 (if (n : Int) < l.length then (n : Int) else l.length).toNat fun i => .agg [.int .i64 (l.getD i default).Term, .str (l.getD i default).Code]) (.list 2 (l.take n).length fun i => .agg [.int .i64 ((l.take n).getD i default).Term, .str ((l.take n).getD i default).Code]) := by
 refine SLe.list (by rw [List.length_take]; split <;> omega) fun i hi => ?_
 have h : i < n := by revert hi; split <;> omega
 have e : (l.take n).getD i default = l.getD i default := by simp [List.getD_eq_getElem?_getD, List.getElem?_take, h]
 rw [e]
end Go.Sx
