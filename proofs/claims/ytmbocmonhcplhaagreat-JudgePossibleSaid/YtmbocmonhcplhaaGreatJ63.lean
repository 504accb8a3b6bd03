/- Part of the proof that the laws of the judge return true for every input: J63. -/
import Derived.Test.YtmbocmonhcplhaaGreatJ62
set_option linter.all false
namespace Go.Sx
def OffsOk (y : List Offer) : Prop := y.length ≤ 6 ∧ ∀ o ∈ y, o.Slots.length ≤ 4 ∧ o.Needs.length ≤ 2
structure CaseOk (c : Case) : Prop where
 prog : POk 3 c.Programme
 items : c.Items.length ≤ 4
 has : c.Has.length ≤ 3
 offs : OffsOk c.Offers
 days : ∀ a ∈ c.Has, DayOk a.Day
open Go.Proofs Go.RowKit
attribute [local irreducible] Run RunL RunD RunE SLe0 SLe OLe
set_option maxHeartbeats 2000000
set_option maxRecDepth 8000
theorem K76g : ∃ G : List Int → List Offer, (∀ x : List Int, True → OffsOk (G x)) ∧ FnOK Tryz.prog 76 (fun ds d => ∃ x, True ∧ ds = [lngs x] ∧ d = eList 5 eOffer (G x)) := by
 refine fn_introE0 Tryz.call76 Tryz.func76 rfl Tryz.ntmps76 (α := List Int) (β := List Offer) (fun _ => True) (fun _ y => OffsOk y) (fun x => [lngs x]) (fun _ y => eList 5 eOffer y) ?_
 rintro L _
 refine ⟨by simp, ?_⟩
 repeat' (first | (refine zH (K' := ?_) (s' := ?_) (fun F w0 fn hE => ?_) ?_; rotate_left 2; focus ((first | apply zC | fail); (repeat' (first | apply zC | apply zD | apply zA | apply zB | refine zF qS qR ?_ ?_ | refine zL K75 qD ?_ ⟨rfl, rfl⟩ qS ?_ | exact True.intro | exact rfl | exact hE | fail)))) | (refine zS qS ?_ ?_ <;> intro hb <;> have hc := hb <;> (try simp only [bF] at hc) <;> (try (exfalso; simp at hc; done))))
 refine zH (fun _ _ _ hE => yE 4 76 5 (fun i => eOffer (([] : List Offer).getD i default)) rfl rfl rfl hE) ?_
 refine runE_loop [0, 2, 3, 4, 5] (fun x : List Offer × Nat × Nat => [(6, .int .i64 x.2.2)]) (fun x : List Offer × Nat × Nat => [(0, eDraw L x.2.1), (1, .acc 76 5 x.1.length (fun i => eOffer (x.1.getD i default)))]) (fun x : List Offer × Nat × Nat => (x.2.2 ≤ 6 ∧ x.1.length ≤ x.2.2) ∧ ∀ o ∈ x.1, o.Slots.length ≤ 4 ∧ o.Needs.length ≤ 2) (fun x : List Offer × Nat × Nat => 6 - x.2.2) ([], 0, 0) (fun x => qS) ?_ qE qE ?_
 ·exact ⟨⟨by simp, by simp⟩, fun o ho => (by cases ho)⟩
 rintro ⟨acc, p, k⟩ n ⟨⟨h1, h2⟩, hof⟩ ih
 simp only at h1 h2 hof
 repeat' (first | (refine zH (K' := ?_) (s' := ?_) (fun F w0 fn hE => ?_) ?_; rotate_left 2; focus ((first | apply zC | apply zG | refine zJ qR ?_ | fail); (repeat' (first | apply zC | apply zD | apply zA | apply zO | apply zB | refine zF qS qR ?_ ?_ | refine zT qS qR ?_ ?_ | refine zP qK qK ?_ | refine zV [0] K77 qR qD qZ qF ?_ ⟨L, _, _, (by decide), rfl, rfl, rfl, rfl⟩ qS ?_ | refine runDcallM [0] K77 qR qD qZ qF ?_ ⟨L, _, _, (by decide), rfl, rfl, rfl, rfl⟩ qS ?_ | exact hE | (show allP _; simp only [allP, go_sem, codesLen]; (repeat' apply And.intro) <;> first | exact True.intro | exact (nx_bd _ _ _ (by omega)).1 | exact (nx_bd _ _ _ (by omega)).2 | (refine Int.lt_of_lt_of_le (nx_bd _ _ _ (by omega)).2 (by omega)) | (intros; omega)) | exact True.intro | exact rfl | exact qP | fail)))) | (refine zS qS ?_ ?_ <;> intro hb <;> have hc := hb <;> (try simp only [bF] at hc) <;> (try (exfalso; simp at hc; done))))
 ·have := codesLen
  refine zX ih ((acc, ?u2, k + 1)) ?_ ?_ ⟨rfl, qE, qE⟩
  ·exact ⟨⟨by simp only; omega, by simp only; omega⟩, hof⟩
  ·simp only; omega
 ·have := codesLen
  have b4 := nx_bd L (nxA L (nxA L (nxA L p))) 4 (by omega)
  generalize nxN L (nxA L (nxA L (nxA L p))) 4 = z at b4 ⊢
  refine zH (fun _ _ _ hE => run_nilaccV 2 3 3 1 (fun i => eInt (([] : List Int).getD i default)) rfl rfl (by simp only [List.set]; rfl) rfl hE) ?_
  refine runE_loop [0, 2, 3, 4, 5, 6, 7] (fun x : List Int × Nat × Int => [(8, .int .i64 x.2.2)]) (fun x : List Int × Nat × Int => [(0, eDraw L x.2.1), (3, .acc 3 1 x.1.length (fun i => eInt (x.1.getD i default)))]) (fun x : List Int × Nat × Int => (0 ≤ x.2.2 ∧ x.2.2 ≤ 4) ∧ x.1.length ≤ 4 ∧ (0 < x.2.2 → (x.1.length : Int) + 1 ≤ x.2.2)) (fun x : List Int × Nat × Int => (if x.2.2 ≤ 0 then 0 else (6 - x.2.2).toNat)) ([], nxA L (nxA L (nxA L (nxA L p))), z) (fun x => qS) ?_ qE qE ?_
  ·exact ⟨⟨by simp only; omega, by simp only; omega⟩, by simp, by simp; omega⟩
  rintro ⟨ls, q, sl⟩ n2 ⟨⟨g1, g2⟩, g3, g4⟩ ih2
  simp only at g1 g2 g3 g4
  have e1 : IntKind.i64.wrap (((ls.length + 1 : Nat) : Int) - 1) = (ls.length : Int) := by rw [w64]; omega
  repeat' (first | (refine zH (K' := ?_) (s' := ?_) (fun F w0 fn hE => ?_) ?_; rotate_left 2; focus ((first | apply zC | apply zG | apply zA | refine zJ qR ?_ | fail); (repeat' (first | apply zC | apply zD | apply zK | apply zA | apply zB | refine zF (by simp only [go_sem, e1, Nat.lt_irrefl, if_false, Nat.sub_self, Int.toNat_natCast]; rfl) qR ?_ ?_ | refine zV [0] K77 qR (by simp only [go_sem, e1, Nat.lt_irrefl, if_false, Nat.sub_self, Int.toNat_natCast]; first | done | rfl) (by simp only [go_sem, e1, Nat.lt_irrefl, if_false, Nat.sub_self, Int.toNat_natCast]) (by first | (simp only [go_sem, e1, Nat.lt_irrefl, if_false, Nat.sub_self, Int.toNat_natCast]; done) | (simp only [go_sem, e1, Nat.lt_irrefl, if_false, Nat.sub_self, Int.toNat_natCast]; rfl)) ?_ ⟨L, _, _, (by decide), rfl, rfl, rfl, rfl⟩ (by simp only [go_sem, e1, Nat.lt_irrefl, if_false, Nat.sub_self, Int.toNat_natCast]; rfl) ?_ | exact hE | (show allP _; simp only [allP, go_sem, codesLen]; (repeat' apply And.intro) <;> first | exact True.intro | exact (nx_bd _ _ _ (by omega)).1 | exact (nx_bd _ _ _ (by omega)).2 | (refine Int.lt_of_lt_of_le (nx_bd _ _ _ (by omega)).2 (by omega)) | (intros; omega)) | exact True.intro | exact rfl | exact qP | fail)))) | (refine zS qS ?_ ?_ <;> intro hb <;> have hc := hb <;> (try simp only [bF] at hc) <;> (try (exfalso; simp at hc; done))))
  ·simp only [Bool.and_eq_true, decide_eq_true_eq] at hb
   have g5 := g4 (by assumption)
   have e5 : IntKind.i64.wrap (sl + 1) = sl + 1 := by rw [w64]; omega
   have h5 : sl < 4 := by
    have := hb.2
    simpa using this
   refine zX ih2 ((ls ++ [sl], ?u4, IntKind.i64.wrap (sl + 1))) ?_ ?_ ⟨rfl, qE, qE⟩
   ·rw [e5]; exact ⟨⟨by simp only; omega, by simp only; omega⟩, by simp; omega, by simp; omega⟩
   ·rw [e5]; simp only; rw [if_neg (by omega), if_neg (by omega)]; omega
  ·have g5 := g4 (by assumption)
   refine zX ih2 ((ls ++ [sl], ?u6, 0)) ?_ ?_ ⟨rfl, qE, qE⟩
   ·exact ⟨⟨by simp only; omega, by simp only; omega⟩, by simp; omega, by simp⟩
   ·simp only; rw [if_pos (by omega), if_neg (by omega)]; omega
  ·refine zH (fun _ _ _ hE => run_nilaccV 2 4 9 1 (fun i => eStr (([] : List ByteArray).getD i default)) rfl rfl (by simp only [List.set]; rfl) rfl hE) ?_
   refine runE_loop [0, 2, 3, 4, 5, 6, 7] (fun x : List ByteArray × Nat × Nat => [(9, .int .i64 x.2.2)]) (fun x : List ByteArray × Nat × Nat => [(0, eDraw L x.2.1), (4, .acc 9 1 x.1.length (fun i => eStr (x.1.getD i default)))]) (fun x : List ByteArray × Nat × Nat => x.2.2 ≤ acc.length ∧ x.1.length ≤ 2) (fun x : List ByteArray × Nat × Nat => acc.length - x.2.2) ([], q, 0) (fun x => qS) ?_ qE qE ?_
   ·exact ⟨by simp, by simp⟩
   rintro ⟨nd, r, i⟩ n3 ⟨f1, f2⟩ ih3
   simp only at f1 f2
   (refine zH (K' := ?_) (s' := ?_) (fun F w0 fn hE => ?_) ?_; rotate_left 2; focus ((first | apply zC | fail); (repeat' (first | apply zC | apply zA | apply zB | refine zF qS qR ?_ ?_ | exact True.intro | exact rfl | exact hE | fail))))
   refine zS qS ?_ ?_ <;> intro hb <;> have hc := hb <;> (try simp only [bF] at hc) <;> (try (exfalso; simp at hc; done))
   ·repeat' (first | (refine zH (K' := ?_) (s' := ?_) (fun F w0 fn hE => ?_) ?_; rotate_left 2; focus ((first | apply zG | apply zO | fail); (repeat' (first | apply zC | apply zD | apply zK | apply zA | apply zB | refine zF qS qR ?_ ?_ | refine zT qS qR ?_ ?_ | refine zP qK qK ?_ | refine runDapN qS ?_ qS ?_ | refine zV [0] K77 qR qD qZ qF ?_ ⟨L, _, _, (by decide), rfl, rfl, rfl, rfl⟩ qS ?_ | exact hE | (show allP _; simp only [allP, go_sem, codesLen]; (repeat' apply And.intro) <;> first | exact True.intro | exact (nx_bd _ _ _ (by omega)).1 | exact (nx_bd _ _ _ (by omega)).2 | (refine Int.lt_of_lt_of_le (nx_bd _ _ _ (by omega)).2 (by omega)) | (intros; omega)) | exact True.intro | exact rfl | exact qP | fail)))) | (refine zS qS ?_ ?_ <;> intro hb <;> have hc := hb <;> (try simp only [bF] at hc) <;> (try (exfalso; simp at hc; done))))
    ·simp only [Bool.and_eq_true, decide_eq_true_eq] at hb
     refine zH (fun _ _ _ hE => run_ren 5 4 qS hE) ?_
     refine zX ih3 ((nd ++ [?u8], ?u9, i + 1)) ?_ ?_ ⟨rfl, qE, qE⟩
     ·exact ⟨by simp only; omega, by simp; omega⟩
     ·simp only; omega
    ·refine zX ih3 ((nd, ?u11, i + 1)) ?_ ?_ ⟨rfl, qE, qE⟩
     ·exact ⟨by simp only; omega, by simp only; omega⟩
     ·simp only; omega
   ·refine zH (fun _ _ _ hE => zN 3 qS hE) ?_
    refine zH (fun _ _ _ hE => zN 4 qS hE) ?_
    repeat' (first | (refine zH (K' := ?_) (s' := ?_) (fun F w0 fn hE => ?_) ?_; rotate_left 2; focus ((first | refine zJ qR ?_ | fail); (repeat' (first | apply zK | apply zA | apply zB | refine zF qS qR ?_ ?_ | exact True.intro | exact rfl | exact hE | exact qP | fail)))) | (refine zS qS ?_ ?_ <;> intro hb <;> have hc := hb <;> (try simp only [bF] at hc) <;> (try (exfalso; simp at hc; done))))
    refine zX ih ((acc ++ [⟨?u13, ?u14, ?u15, ?u16, ?u17⟩], ?u18, k + 1)) ?_ ?_ ⟨rfl, by simp only [go_sem]; repeat' (first | exact trivial | exact True.intro | exact SLe.refl _ | exact OLe.refl _ | exact ⟨_, rfl, OLe.refl _⟩ | refine ⟨_, rfl, ?_⟩ | refine OLe.var ?_ | (show SLeL _ _; refine ⟨?_, ?_⟩) | (show SLeL [] []; exact True.intro) | (refine SLe.int ?_; rw [w64]; omega) | refine SLe.int ?_ | refine SLe.bool ?_ | apply And.intro | refine ⟨_, rfl, OLe.snoc eOffer _ _ ?_⟩ | refine OLe.snoc eOffer _ _ ?_ | exact OLe.snoc1 _ _ | exact OLe.snoc2 _ _ | exact SLe.nil0 | exact SLe.nils | exact SLe.take8 _ _ | exact SLe.lit1 _ | exact SLe.needs _ | exact SLe.pair1 _ _ _ _ | exact SLe.refl _ | refine SLe.agg ?_ | refine SLe.tup ?_), by simp only [go_sem]; repeat' (first | exact trivial | exact True.intro | exact SLe.refl _ | exact OLe.refl _ | exact ⟨_, rfl, OLe.refl _⟩ | refine ⟨_, rfl, ?_⟩ | refine OLe.var ?_ | (show SLeL _ _; refine ⟨?_, ?_⟩) | (show SLeL [] []; exact True.intro) | (refine SLe.int ?_; rw [w64]; omega) | refine SLe.int ?_ | refine SLe.bool ?_ | apply And.intro | refine ⟨_, rfl, OLe.snoc eOffer _ _ ?_⟩ | refine OLe.snoc eOffer _ _ ?_ | exact OLe.snoc1 _ _ | exact OLe.snoc2 _ _ | exact SLe.nil0 | exact SLe.nils | exact SLe.take8 _ _ | exact SLe.lit1 _ | exact SLe.needs _ | exact SLe.pair1 _ _ _ _ | exact SLe.refl _ | refine SLe.agg ?_ | refine SLe.tup ?_)⟩
    ·refine ⟨⟨by simp only; omega, by simp; omega⟩, fun o ho => ?_⟩
     rcases List.mem_append.1 ho with ho | ho
     ·exact hof o ho
     ·rw [List.mem_singleton] at ho; subst ho; exact ⟨g3, f2⟩
    ·simp only; omega
 ·refine zH (fun _ _ _ hE => zN 1 qS hE) ?_
  (refine zY (ds := ?ds19) (⟨acc, ⟨by omega, hof⟩⟩ : {y : List Offer // OffsOk y}) qR ?qa19 ?qb19; (case qa19 => (simp only [go_sem]; rfl)); case' qb19 => (refine SLe0.le qZ ?_; simp only [go_sem]; repeat' (first | exact trivial | exact True.intro | exact SLe.refl _ | exact OLe.refl _ | exact ⟨_, rfl, OLe.refl _⟩ | refine ⟨_, rfl, ?_⟩ | refine OLe.var ?_ | (show SLeL _ _; refine ⟨?_, ?_⟩) | (show SLeL [] []; exact True.intro) | (refine SLe.int ?_; rw [w64]; omega) | refine SLe.int ?_ | refine SLe.bool ?_ | apply And.intro | exact OLe.snoc1 _ _ | exact OLe.snoc2 _ _ | exact SLe.nil0 | exact SLe.nils | exact SLe.take8 _ _ | exact SLe.lit1 _ | exact SLe.needs _ | exact SLe.pair1 _ _ _ _ | exact SLe.refl _ | refine SLe.agg ?_ | refine SLe.tup ?_)))
theorem K26g : ∃ G : (List Int × List Int) × List Int × List Int → Case, (∀ x : (List Int × List Int) × List Int × List Int, True → CaseOk (G x)) ∧ FnOK Tryz.prog 26 (fun ds d => ∃ x, True ∧ ds = [lngs x.1.1, lngs x.1.2, lngs x.2.1, lngs x.2.2] ∧ d = eCase (G x)) := by
 obtain ⟨G34, g34, K34⟩ := K34g
 obtain ⟨G37, g37, K37⟩ := K37g
 obtain ⟨G76, g76, K76⟩ := K76g
 obtain ⟨G78, g78, K78⟩ := K78e
 refine fn_introE0 Tryz.call26 Tryz.func26 rfl Tryz.ntmps26 (α := (List Int × List Int) × List Int × List Int) (β := Case) (fun _ => True) (fun _ y => CaseOk y) (fun x => [lngs x.1.1, lngs x.1.2, lngs x.2.1, lngs x.2.2]) (fun _ y => eCase y) ?_
 rintro ⟨⟨A, B⟩, C, L⟩ _
 refine ⟨by simp, ?_⟩
 repeat' (first | (refine zH (K' := ?_) (s' := ?_) (fun F w0 fn hE => ?_) ?_; rotate_left 2; focus ((first | apply zC | fail); (repeat' (first | apply zC | apply zD | apply zA | apply zB | refine zF qS qR ?_ ?_ | refine zV [1] K77 qR qD qZ qF ?_ ⟨L, _, _, (by decide), rfl, rfl, rfl, rfl⟩ qS ?_ | refine zL K34 qD ?_ ⟨B, trivial, rfl, rfl⟩ qS ?_ | refine zL K13 qD ?_ ⟨_, rfl, rfl⟩ qS ?_ | refine zL K76 qD ?_ ⟨A, trivial, rfl, rfl⟩ qS ?_ | refine zL K37 qD ?_ ⟨C, trivial, rfl, rfl⟩ qS ?_ | exact True.intro | exact rfl | exact hE | exact qP | fail)))) | (refine zS qS ?_ ?_ <;> intro hb <;> have hc := hb <;> (try simp only [bF] at hc) <;> (try (exfalso; simp at hc; done))))
 have b3 := nx_bd L (nxA L 0) 3 (by omega)
 have b4 := nx_bd L (nxA L (nxA L (nxA L 0))) 5 (by omega)
 have b6 := g76 A trivial
 have b6l := b6.1
 generalize hT : IntKind.i64.wrap (1 + nxN L (nxA L 0) 3) = tm
 have hT1 : 1 ≤ tm ∧ tm ≤ 3 := by rw [w64] at hT; omega
 refine runE_loop [0, 1, 2, 3, 8, 9, 10, 11, 12] (fun x : List Item × Nat × Nat => [(13, .int .i64 x.2.2)]) (fun x : List Item × Nat × Nat => [(1, eDraw L x.2.1), (2, .var (caseL ⟨G34 B, ofR 1, (G37 C).take 3, IntKind.i64.wrap (6 + nxN L 0 2), tm, G76 A, x.1, IntKind.i64.wrap (5 + IntKind.i64.wrap (5 * nxN L (nxA L (nxA L 0)) 5)), IntKind.i64.wrap (IntKind.i64.wrap (100 * IntKind.i64.wrap (6 + nxN L 0 2)) - 1)⟩))]) (fun x : List Item × Nat × Nat => x.2.2 ≤ 4 ∧ x.1.length ≤ x.2.2) (fun x : List Item × Nat × Nat => 4 - x.2.2) ([], nxA L (nxA L (nxA L (nxA L 0))), 0) (fun x => qS) ?_ qE qE ?_
 ·exact ⟨by simp, by simp⟩
 rintro ⟨its, p, k⟩ n ⟨h1, h2⟩ ih
 simp only at h1 h2
 (refine zH (K' := ?_) (s' := ?_) (fun F w0 fn hE => ?_) ?_; rotate_left 2; focus ((first | apply zC | fail); (repeat' (first | apply zC | apply zA | apply zB | refine zF qS qR ?_ ?_ | exact rfl | exact hE | exact qP | fail))))
 refine zS qS ?_ ?_ <;> intro hb <;> have hc := hb <;> (try simp only [bF] at hc) <;> (try (exfalso; simp at hc; done))
 ·simp only [Bool.and_eq_true, decide_eq_true_eq] at hb
  repeat' (first | (refine zH (K' := ?_) (s' := ?_) (fun F w0 fn hE => ?_) ?_; rotate_left 2; focus ((first | apply zG | fail); (repeat' (first | apply zC | apply zD | apply zK | apply zA | apply zO | apply zB | refine zF qS qR ?_ ?_ | refine zT qS qR ?_ ?_ | refine zP qK qK ?_ | refine runDcallM [1] K77 qR qD qZ qF ?_ ⟨L, _, _, (by omega), rfl, rfl, rfl, rfl⟩ qS ?_ | refine zW K78 qD ?_ ⟨(its, ⟨_, _⟩), (by simp only; omega), rfl, rfl⟩ qS ?_ | exact hE | (show allP _; simp only [allP, go_sem, codesLen]; (repeat' apply And.intro) <;> first | exact True.intro | exact (nx_bd _ _ _ (by omega)).1 | exact (nx_bd _ _ _ (by omega)).2 | (refine Int.lt_of_lt_of_le (nx_bd _ _ _ (by omega)).2 (by omega)) | (intros; omega)) | exact True.intro | exact rfl | fail)))) | (refine zS qS ?_ ?_ <;> intro hb <;> have hc := hb <;> (try simp only [bF] at hc) <;> (try (exfalso; simp at hc; done))))
  refine zX ih ((G78 (its, ⟨_, _⟩), ?u21, k + 1)) ?_ ?_ ⟨rfl, qE, qE⟩
  ·exact ⟨by simp only; omega, Nat.le_trans (g78 _ (by simp only; omega)) (by simp only; omega)⟩
  ·simp only; omega
 ·repeat' (first | (refine zH (K' := ?_) (s' := ?_) (fun F w0 fn hE => ?_) ?_; rotate_left 2; focus ((first | refine zJ qR ?_ | fail); (repeat' (first | apply zC | apply zA | apply zB | refine zF qS qR ?_ ?_ | exact True.intro | exact rfl | exact hE | fail)))) | (refine zS qS ?_ ?_ <;> intro hb <;> have hc := hb <;> (try simp only [bF] at hc) <;> (try (exfalso; simp at hc; done))))
  (refine zY (ds := ?ds26) (⟨⟨G34 B, ofR 1, (G37 C).take 3, ?u23, ?u24, G76 A, its, ?u25, ?u26⟩, ⟨g34 B trivial, by simp only; omega, by simp only [List.length_take]; omega, b6, fun a ha => (g37 C trivial).2 a (List.mem_of_mem_take ha)⟩⟩ : {y : Case // CaseOk y}) qR ?qa26 ?qb26; (case qa26 => (simp only [go_sem]; rfl)); case' qb26 => (refine SLe0.le qZ ?_; simp only [go_sem]; repeat' (first | exact trivial | exact True.intro | exact SLe.refl _ | exact OLe.refl _ | exact ⟨_, rfl, OLe.refl _⟩ | refine ⟨_, rfl, ?_⟩ | refine OLe.var ?_ | (show SLeL _ _; refine ⟨?_, ?_⟩) | (show SLeL [] []; exact True.intro) | (refine SLe.int ?_; rw [w64]; omega) | refine SLe.int ?_ | refine SLe.bool ?_ | apply And.intro | exact OLe.snoc1 _ _ | exact OLe.snoc2 _ _ | exact SLe.nil0 | exact SLe.nils | exact SLe.take8 _ _ | exact SLe.lit1 _ | exact SLe.needs _ | exact SLe.pair1 _ _ _ _ | exact SLe.refl _ | refine SLe.agg ?_ | refine SLe.tup ?_)))
theorem K9g : ∃ G : Arg → Case, (∀ x : Arg, True → CaseOk (G x)) ∧ FnOK Tryz.prog 9 (fun ds d => ∃ x, True ∧ ds = [eArg x] ∧ d = eCase (G x)) := by
 obtain ⟨G26, g26, K26⟩ := K26g
 refine ⟨fun x => { G26 ((x.Offers, x.Programme), x.Own, x.Rest) with Items := (G26 ((x.Offers, x.Programme), x.Own, x.Rest)).Items.take 4 }, fun x _ => ⟨(g26 _ trivial).prog, by simp only [List.length_take]; omega, (g26 _ trivial).has, (g26 _ trivial).offs, (g26 _ trivial).days⟩, ?_⟩
 refine fn_intro Tryz.call9 Tryz.func9 rfl Tryz.ntmps9 ?_
 rintro ds d ⟨x, _, rfl, rfl⟩
 refine ⟨by simp, fun w0 => ?_⟩
 repeat' (first | apply zC | apply zA | apply zB | refine zF qS qR ?_ ?_ | refine zL K26 qD ?_ ⟨((x.Offers, x.Programme), x.Own, x.Rest), trivial, rfl, rfl⟩ qS ?_ | refine zZ qR qS ?_ | exact True.intro | exact rfl | exact qP | fail)
 (refine SLe0.le qZ ?_; repeat' (first | exact True.intro | exact SLe.refl _ | refine SLe.agg ?_ | refine SLe.tup ?_ | refine And.intro ?_ ?_ | exact SLe.nils | refine SLe.int ?_ | refine SLe.bool ?_ | refine SLe.str ?_))
 all_goals exact SLe.take2 _ 4
end Go.Sx
