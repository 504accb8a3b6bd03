/- Part of the proof that the laws of the judge return true for every input: J16. -/
import Derived.Test.YtmbocmonhcplhaaGreatJ15
set_option linter.all false
namespace Go.Sx
open Go.Proofs Go.RowKit
attribute [local irreducible] Run RunL RunD RunE SLe0 SLe OLe
set_option maxHeartbeats 2000000
set_option maxRecDepth 8000
theorem K39e : ∃ G : List Int → Programme, (∀ x : List Int, True → True) ∧ FnOK Tryz.prog 39 (fun ds d => ∃ x, True ∧ ds = [lngs x] ∧ d = eProg (G x)) := by
 obtain ⟨G91, _, K91⟩ := K91e
 obtain ⟨G93, _, K93⟩ := K93e 3 (by omega)
 refine fn_introE0 Tryz.call39 Tryz.func39 rfl Tryz.ntmps39 (α := List Int) (β := Programme) (fun _ => True) (fun _ _ => True) (fun x => [lngs x]) (fun _ y => eProg y) ?_
 rintro L _
 refine ⟨by simp, ?_⟩
 repeat' (first | (refine zH (K' := ?_) (s' := ?_) (fun F w0 fn hE => ?_) ?_; rotate_left 2; focus ((first | apply zC | apply zG | apply zA | fail); (repeat' (first | apply zC | apply zA | apply zO | apply zB | refine zF qS qR ?_ ?_ | refine zT qS qR ?_ ?_ | refine zP qK qK ?_ | refine zV [1] K90 qR qD qZ qF ?_ ⟨L, _, _, (by decide), rfl, rfl, rfl, rfl⟩ qS ?_ | refine runDcallM [1] K90 qR qD qZ qF ?_ ⟨L, _, _, (by decide), rfl, rfl, rfl, rfl⟩ qS ?_ | refine zV [1] K91 qR qD qZ qF ?_ ⟨(L, _), trivial, rfl, rfl, rfl, rfl⟩ qS ?_ | refine zV [1] K93 qR qD qZ qF ?_ ⟨((L, _), 6), (by omega), rfl, rfl, rfl, rfl⟩ qS ?_ | refine zL K92 qD ?_ ⟨_, _, rfl, rfl⟩ qS ?_ | exact hE | (show allP _; simp only [allP, go_sem, codesLen]; (repeat' apply And.intro) <;> first | exact True.intro | exact (nx_bd _ _ _ (by omega)).1 | exact (nx_bd _ _ _ (by omega)).2 | (refine Int.lt_of_lt_of_le (nx_bd _ _ _ (by omega)).2 (by omega)) | (intros; omega)) | exact True.intro | exact rfl | fail)))) | (refine zS qS ?_ ?_ <;> intro hb <;> have hc := hb <;> (try simp only [bF] at hc) <;> (try (exfalso; simp at hc; done))))
 ·(refine zY (ds := ?ds11) (⟨⟨?u2, ?u3, ?u4, ?u5, ?u6, ?u7, ?u8, ?u9, ?u10, ?u11⟩, trivial⟩ : {y : Programme // True}) qR ?qa11 ?qb11; (case qa11 => (simp only [go_sem]; rfl)); case' qb11 => (refine SLe0.le qZ ?_; simp only [go_sem]; repeat' (first | exact trivial | exact True.intro | exact SLe.refl _ | exact OLe.refl _ | exact ⟨_, rfl, OLe.refl _⟩ | refine ⟨_, rfl, ?_⟩ | refine OLe.var ?_ | (show SLeL _ _; refine ⟨?_, ?_⟩) | (show SLeL [] []; exact True.intro) | (refine SLe.int ?_; rw [w64]; omega) | refine SLe.int ?_ | refine SLe.bool ?_ | apply And.intro | exact OLe.snoc1 _ _ | exact OLe.snoc2 _ _ | exact SLe.nil0 | exact SLe.nils | exact SLe.take8 _ _ | exact SLe.lit1 _ | exact SLe.needs _ | exact SLe.pair1 _ _ _ _ | exact SLe.refl _ | refine SLe.agg ?_ | refine SLe.tup ?_)))
 ·(refine zY (ds := ?ds22) (⟨⟨?u13, ?u14, ?u15, ?u16, ?u17, ?u18, ?u19, ?u20, ?u21, ?u22⟩, trivial⟩ : {y : Programme // True}) qR ?qa22 ?qb22; (case qa22 => (simp only [go_sem]; rfl)); case' qb22 => (refine SLe0.le qZ ?_; simp only [go_sem]; repeat' (first | exact trivial | exact True.intro | exact SLe.refl _ | exact OLe.refl _ | exact ⟨_, rfl, OLe.refl _⟩ | refine ⟨_, rfl, ?_⟩ | refine OLe.var ?_ | (show SLeL _ _; refine ⟨?_, ?_⟩) | (show SLeL [] []; exact True.intro) | (refine SLe.int ?_; rw [w64]; omega) | refine SLe.int ?_ | refine SLe.bool ?_ | apply And.intro | exact OLe.snoc1 _ _ | exact OLe.snoc2 _ _ | exact SLe.nil0 | exact SLe.nils | exact SLe.take8 _ _ | exact SLe.lit1 _ | exact SLe.needs _ | exact SLe.pair1 _ _ _ _ | exact SLe.refl _ | refine SLe.agg ?_ | refine SLe.tup ?_)))
 ·(refine zY (ds := ?ds33) (⟨⟨?u24, ?u25, ?u26, ?u27, ?u28, ?u29, ?u30, ?u31, ?u32, ?u33⟩, trivial⟩ : {y : Programme // True}) qR ?qa33 ?qb33; (case qa33 => (simp only [go_sem]; rfl)); case' qb33 => (refine SLe0.le qZ ?_; simp only [go_sem]; repeat' (first | exact trivial | exact True.intro | exact SLe.refl _ | exact OLe.refl _ | exact ⟨_, rfl, OLe.refl _⟩ | refine ⟨_, rfl, ?_⟩ | refine OLe.var ?_ | (show SLeL _ _; refine ⟨?_, ?_⟩) | (show SLeL [] []; exact True.intro) | (refine SLe.int ?_; rw [w64]; omega) | refine SLe.int ?_ | refine SLe.bool ?_ | apply And.intro | exact OLe.snoc1 _ _ | exact OLe.snoc2 _ _ | exact SLe.nil0 | exact SLe.nils | exact SLe.take8 _ _ | exact SLe.lit1 _ | exact SLe.needs _ | exact SLe.pair1 _ _ _ _ | exact SLe.refl _ | refine SLe.agg ?_ | refine SLe.tup ?_)))
theorem K34e : ∃ G : List Int → Programme, (∀ x : List Int, True → True) ∧ FnOK Tryz.prog 34 (fun ds d => ∃ x, True ∧ ds = [lngs x] ∧ d = eProg (G x)) := by
 obtain ⟨G39, _, K39⟩ := K39e
 refine fn_introE0 Tryz.call34 Tryz.func34 rfl Tryz.ntmps34 (α := List Int) (β := Programme) (fun _ => True) (fun _ _ => True) (fun x => [lngs x]) (fun _ y => eProg y) ?_
 rintro L _
 refine ⟨by simp, ?_⟩
 repeat' (first | (refine zH (K' := ?_) (s' := ?_) (fun F w0 fn hE => ?_) ?_; rotate_left 2; focus ((first | apply zC | fail); (repeat' (first | apply zC | apply zA | apply zB | refine zF qS qR ?_ ?_ | refine zL K39 qD ?_ ⟨L, trivial, rfl, rfl⟩ qS ?_ | exact True.intro | exact rfl | exact hE | exact qP | fail)))) | (refine zS qS ?_ ?_ <;> intro hb <;> have hc := hb <;> (try simp only [bF] at hc) <;> (try (exfalso; simp at hc; done))))
 (refine zY (ds := ?ds44) (⟨⟨?u35, ?u36, ?u37, ?u38, ?u39, ?u40, ?u41, ?u42, ?u43, ?u44⟩, trivial⟩ : {y : Programme // True}) qR ?qa44 ?qb44; (case qa44 => (simp only [go_sem]; rfl)); case' qb44 => (refine SLe0.le qZ ?_; simp only [go_sem]; repeat' (first | exact trivial | exact True.intro | exact SLe.refl _ | exact OLe.refl _ | exact ⟨_, rfl, OLe.refl _⟩ | refine ⟨_, rfl, ?_⟩ | refine OLe.var ?_ | (show SLeL _ _; refine ⟨?_, ?_⟩) | (show SLeL [] []; exact True.intro) | (refine SLe.int ?_; rw [w64]; omega) | refine SLe.int ?_ | refine SLe.bool ?_ | apply And.intro | exact OLe.snoc1 _ _ | exact OLe.snoc2 _ _ | exact SLe.nil0 | exact SLe.nils | exact SLe.take8 _ _ | exact SLe.lit1 _ | exact SLe.needs _ | exact SLe.pair1 _ _ _ _ | exact SLe.refl _ | refine SLe.agg ?_ | refine SLe.tup ?_)))
theorem K76e : ∃ G : List Int → List Offer, (∀ x : List Int, True → (G x).length ≤ 6) ∧ FnOK Tryz.prog 76 (fun ds d => ∃ x, True ∧ ds = [lngs x] ∧ d = eList 5 eOffer (G x)) := by
 refine fn_introE0 Tryz.call76 Tryz.func76 rfl Tryz.ntmps76 (α := List Int) (β := List Offer) (fun _ => True) (fun _ y => y.length ≤ 6) (fun x => [lngs x]) (fun _ y => eList 5 eOffer y) ?_
 rintro L _
 refine ⟨by simp, ?_⟩
 repeat' (first | (refine zH (K' := ?_) (s' := ?_) (fun F w0 fn hE => ?_) ?_; rotate_left 2; focus ((first | apply zC | fail); (repeat' (first | apply zC | apply zD | apply zA | apply zB | refine zF qS qR ?_ ?_ | refine zL K75 qD ?_ ⟨rfl, rfl⟩ qS ?_ | exact True.intro | exact rfl | exact hE | fail)))) | (refine zS qS ?_ ?_ <;> intro hb <;> have hc := hb <;> (try simp only [bF] at hc) <;> (try (exfalso; simp at hc; done))))
 refine zH (fun _ _ _ hE => yE 4 76 5 (fun i => eOffer (([] : List Offer).getD i default)) rfl rfl rfl hE) ?_
 refine runE_loop [0, 2, 3, 4, 5] (fun x : List Offer × Nat × Nat => [(6, .int .i64 x.2.2)]) (fun x : List Offer × Nat × Nat => [(0, eDraw L x.2.1), (1, .acc 76 5 x.1.length (fun i => eOffer (x.1.getD i default)))]) (fun x : List Offer × Nat × Nat => x.2.2 ≤ 6 ∧ x.1.length ≤ x.2.2) (fun x : List Offer × Nat × Nat => 6 - x.2.2) ([], 0, 0) (fun x => qS) ?_ qE qE ?_
 ·exact ⟨by simp, by simp⟩
 rintro ⟨acc, p, k⟩ n ⟨h1, h2⟩ ih
 simp only at h1 h2
 repeat' (first | (refine zH (K' := ?_) (s' := ?_) (fun F w0 fn hE => ?_) ?_; rotate_left 2; focus ((first | apply zC | apply zG | refine zJ qR ?_ | fail); (repeat' (first | apply zC | apply zD | apply zA | apply zO | apply zB | refine zF qS qR ?_ ?_ | refine zT qS qR ?_ ?_ | refine zP qK qK ?_ | refine zV [0] K77 qR qD qZ qF ?_ ⟨L, _, _, (by decide), rfl, rfl, rfl, rfl⟩ qS ?_ | refine runDcallM [0] K77 qR qD qZ qF ?_ ⟨L, _, _, (by decide), rfl, rfl, rfl, rfl⟩ qS ?_ | exact hE | (show allP _; simp only [allP, go_sem, codesLen]; (repeat' apply And.intro) <;> first | exact True.intro | exact (nx_bd _ _ _ (by omega)).1 | exact (nx_bd _ _ _ (by omega)).2 | (refine Int.lt_of_lt_of_le (nx_bd _ _ _ (by omega)).2 (by omega)) | (intros; omega)) | exact True.intro | exact rfl | exact qP | fail)))) | (refine zS qS ?_ ?_ <;> intro hb <;> have hc := hb <;> (try simp only [bF] at hc) <;> (try (exfalso; simp at hc; done))))
 ·have := codesLen
  refine zX ih ((acc, ?u46, k + 1)) ?_ ?_ ⟨rfl, qE, qE⟩
  ·exact ⟨by simp only; omega, by simp only; omega⟩
  ·simp only; omega
 ·have := codesLen
  have b4 := nx_bd L (nxA L (nxA L (nxA L p))) 4 (by omega)
  generalize nxN L (nxA L (nxA L (nxA L p))) 4 = z at b4 ⊢
  refine zH (fun _ _ _ hE => run_nilaccV 2 3 3 1 (fun i => eInt (([] : List Int).getD i default)) rfl rfl (by simp only [List.set]; rfl) rfl hE) ?_
  refine runE_loop [0, 2, 3, 4, 5, 6, 7] (fun x : List Int × Nat × Int => [(8, .int .i64 x.2.2)]) (fun x : List Int × Nat × Int => [(0, eDraw L x.2.1), (3, .acc 3 1 x.1.length (fun i => eInt (x.1.getD i default)))]) (fun x : List Int × Nat × Int => (0 ≤ x.2.2 ∧ x.2.2 ≤ 4) ∧ x.1.length ≤ 4 ∧ (0 < x.2.2 → (x.1.length : Int) + 1 ≤ x.2.2)) (fun x : List Int × Nat × Int => (if x.2.2 ≤ 0 then 0 else (6 - x.2.2).toNat)) ([], nxA L (nxA L (nxA L (nxA L p))), z) (fun x => qS) ?_ qE qE ?_
  ·exact ⟨⟨by simp only; omega, by simp only; omega⟩, by simp, by simp; omega⟩
  rintro ⟨ls, q, sl⟩ n2 ⟨⟨g1, g2⟩, g3, g4⟩ ih2
  simp only at g1 g2 g3 g4
  have e1 : IntKind.i64.wrap (((ls.length + 1 : Nat) : Int) - 1) = (ls.length : Int) := by rw [w64]; omega
  repeat' (first | (refine zH (K' := ?_) (s' := ?_) (fun F w0 fn hE => ?_) ?_; rotate_left 2; focus ((first | apply zC | apply zG | apply zA | refine zJ qR ?_ | fail); (repeat' (first | apply zC | apply zD | apply zK | apply zA | apply zB | refine zF (by simp only [go_sem, e1, Nat.lt_irrefl, if_false, Nat.sub_self, Int.toNat_natCast]; rfl) qR ?_ ?_ | refine zV [0] K77 qR (by simp only [go_sem, e1, Nat.lt_irrefl, if_false, Nat.sub_self, Int.toNat_natCast]; first | done | rfl) (by simp only [go_sem, e1, Nat.lt_irrefl, if_false, Nat.sub_self, Int.toNat_natCast]) (by first | (simp only [go_sem, e1, Nat.lt_irrefl, if_false, Nat.sub_self, Int.toNat_natCast]; done) | (simp only [go_sem, e1, Nat.lt_irrefl, if_false, Nat.sub_self, Int.toNat_natCast]; rfl)) ?_ ⟨L, _, _, (by decide), rfl, rfl, rfl, rfl⟩ (by simp only [go_sem, e1, Nat.lt_irrefl, if_false, Nat.sub_self, Int.toNat_natCast]; rfl) ?_ | exact hE | (show allP _; simp only [allP, go_sem, codesLen]; (repeat' apply And.intro) <;> first | exact True.intro | exact (nx_bd _ _ _ (by omega)).1 | exact (nx_bd _ _ _ (by omega)).2 | (refine Int.lt_of_lt_of_le (nx_bd _ _ _ (by omega)).2 (by omega)) | (intros; omega)) | exact True.intro | exact rfl | exact qP | fail)))) | (refine zS qS ?_ ?_ <;> intro hb <;> have hc := hb <;> (try simp only [bF] at hc) <;> (try (exfalso; simp at hc; done))))
  ·simp only [Bool.and_eq_true, decide_eq_true_eq] at hb
   have g5 := g4 (by assumption)
   have e5 : IntKind.i64.wrap (sl + 1) = sl + 1 := by rw [w64]; omega
   have h5 : sl < 4 := by
    have := hb.2
    simpa using this
   refine zX ih2 ((ls ++ [sl], ?u48, IntKind.i64.wrap (sl + 1))) ?_ ?_ ⟨rfl, qE, qE⟩
   ·rw [e5]; exact ⟨⟨by simp only; omega, by simp only; omega⟩, by simp; omega, by simp; omega⟩
   ·rw [e5]; simp only; rw [if_neg (by omega), if_neg (by omega)]; omega
  ·have g5 := g4 (by assumption)
   refine zX ih2 ((ls ++ [sl], ?u50, 0)) ?_ ?_ ⟨rfl, qE, qE⟩
   ·exact ⟨⟨by simp only; omega, by simp only; omega⟩, by simp; omega, by simp⟩
   ·simp only; rw [if_pos (by omega), if_neg (by omega)]; omega
  ·refine zH (fun _ _ _ hE => run_nilaccV 2 4 9 1 (fun i => eStr (([] : List ByteArray).getD i default)) rfl rfl (by simp only [List.set]; rfl) rfl hE) ?_
   refine runE_loop [0, 2, 3, 4, 5, 6, 7] (fun x : List ByteArray × Nat × Nat => [(9, .int .i64 x.2.2)]) (fun x : List ByteArray × Nat × Nat => [(0, eDraw L x.2.1), (4, .acc 9 1 x.1.length (fun i => eStr (x.1.getD i default)))]) (fun x : List ByteArray × Nat × Nat => x.2.2 ≤ acc.length ∧ x.1.length ≤ 2) (fun x : List ByteArray × Nat × Nat => acc.length - x.2.2) ([], q, 0) (fun x => qS) ?_ qE qE ?_
   ·exact ⟨by simp, by simp⟩
   rintro ⟨nd, r, i⟩ n3 ⟨f1, f2⟩ ih3
   simp only at f1 f2
   (refine zH (K' := ?_) (s' := ?_) (fun F w0 fn hE => ?_) ?_; rotate_left 2; focus ((first | apply zC | fail); (repeat' (first | apply zC | apply zA | apply zB | refine zF qS qR ?_ ?_ | exact True.intro | exact rfl | exact hE | fail))))
   refine zS qS ?_ ?_ <;> intro hb <;> have hc := hb <;> (try simp only [bF] at hc) <;> (try (exfalso; simp at hc; done))
   ·repeat' (first | (refine zH (K' := ?_) (s' := ?_) (fun F w0 fn hE => ?_) ?_; rotate_left 2; focus ((first | apply zG | apply zO | fail); (repeat' (first | apply zC | apply zD | apply zK | apply zA | apply zB | refine zF qS qR ?_ ?_ | refine zT qS qR ?_ ?_ | refine zP qK qK ?_ | refine runDapN qS ?_ qS ?_ | refine zV [0] K77 qR qD qZ qF ?_ ⟨L, _, _, (by decide), rfl, rfl, rfl, rfl⟩ qS ?_ | exact hE | (show allP _; simp only [allP, go_sem, codesLen]; (repeat' apply And.intro) <;> first | exact True.intro | exact (nx_bd _ _ _ (by omega)).1 | exact (nx_bd _ _ _ (by omega)).2 | (refine Int.lt_of_lt_of_le (nx_bd _ _ _ (by omega)).2 (by omega)) | (intros; omega)) | exact True.intro | exact rfl | exact qP | fail)))) | (refine zS qS ?_ ?_ <;> intro hb <;> have hc := hb <;> (try simp only [bF] at hc) <;> (try (exfalso; simp at hc; done))))
    ·simp only [Bool.and_eq_true, decide_eq_true_eq] at hb
     refine zH (fun _ _ _ hE => run_ren 5 4 qS hE) ?_
     refine zX ih3 ((nd ++ [?u52], ?u53, i + 1)) ?_ ?_ ⟨rfl, qE, qE⟩
     ·exact ⟨by simp only; omega, by simp; omega⟩
     ·simp only; omega
    ·refine zX ih3 ((nd, ?u55, i + 1)) ?_ ?_ ⟨rfl, qE, qE⟩
     ·exact ⟨by simp only; omega, by simp only; omega⟩
     ·simp only; omega
   ·refine zH (fun _ _ _ hE => zN 3 qS hE) ?_
    refine zH (fun _ _ _ hE => zN 4 qS hE) ?_
    repeat' (first | (refine zH (K' := ?_) (s' := ?_) (fun F w0 fn hE => ?_) ?_; rotate_left 2; focus ((first | refine zJ qR ?_ | fail); (repeat' (first | apply zK | apply zA | apply zB | refine zF qS qR ?_ ?_ | exact True.intro | exact rfl | exact hE | exact qP | fail)))) | (refine zS qS ?_ ?_ <;> intro hb <;> have hc := hb <;> (try simp only [bF] at hc) <;> (try (exfalso; simp at hc; done))))
    refine zX ih ((acc ++ [⟨?u57, ?u58, ?u59, ?u60, ?u61⟩], ?u62, k + 1)) ?_ ?_ ⟨rfl, by simp only [go_sem]; repeat' (first | exact trivial | exact True.intro | exact SLe.refl _ | exact OLe.refl _ | exact ⟨_, rfl, OLe.refl _⟩ | refine ⟨_, rfl, ?_⟩ | refine OLe.var ?_ | (show SLeL _ _; refine ⟨?_, ?_⟩) | (show SLeL [] []; exact True.intro) | (refine SLe.int ?_; rw [w64]; omega) | refine SLe.int ?_ | refine SLe.bool ?_ | apply And.intro | refine ⟨_, rfl, OLe.snoc eOffer _ _ ?_⟩ | refine OLe.snoc eOffer _ _ ?_ | exact OLe.snoc1 _ _ | exact OLe.snoc2 _ _ | exact SLe.nil0 | exact SLe.nils | exact SLe.take8 _ _ | exact SLe.lit1 _ | exact SLe.needs _ | exact SLe.pair1 _ _ _ _ | exact SLe.refl _ | refine SLe.agg ?_ | refine SLe.tup ?_), by simp only [go_sem]; repeat' (first | exact trivial | exact True.intro | exact SLe.refl _ | exact OLe.refl _ | exact ⟨_, rfl, OLe.refl _⟩ | refine ⟨_, rfl, ?_⟩ | refine OLe.var ?_ | (show SLeL _ _; refine ⟨?_, ?_⟩) | (show SLeL [] []; exact True.intro) | (refine SLe.int ?_; rw [w64]; omega) | refine SLe.int ?_ | refine SLe.bool ?_ | apply And.intro | refine ⟨_, rfl, OLe.snoc eOffer _ _ ?_⟩ | refine OLe.snoc eOffer _ _ ?_ | exact OLe.snoc1 _ _ | exact OLe.snoc2 _ _ | exact SLe.nil0 | exact SLe.nils | exact SLe.take8 _ _ | exact SLe.lit1 _ | exact SLe.needs _ | exact SLe.pair1 _ _ _ _ | exact SLe.refl _ | refine SLe.agg ?_ | refine SLe.tup ?_)⟩
    ·exact ⟨by simp only; omega, by simp; omega⟩
    ·simp only; omega
 ·refine zH (fun _ _ _ hE => zN 1 qS hE) ?_
  (refine zY (ds := ?ds63) (⟨acc, by omega⟩ : {y : List Offer // y.length ≤ 6}) qR ?qa63 ?qb63; (case qa63 => (simp only [go_sem]; rfl)); case' qb63 => (refine SLe0.le qZ ?_; simp only [go_sem]; repeat' (first | exact trivial | exact True.intro | exact SLe.refl _ | exact OLe.refl _ | exact ⟨_, rfl, OLe.refl _⟩ | refine ⟨_, rfl, ?_⟩ | refine OLe.var ?_ | (show SLeL _ _; refine ⟨?_, ?_⟩) | (show SLeL [] []; exact True.intro) | (refine SLe.int ?_; rw [w64]; omega) | refine SLe.int ?_ | refine SLe.bool ?_ | apply And.intro | exact OLe.snoc1 _ _ | exact OLe.snoc2 _ _ | exact SLe.nil0 | exact SLe.nils | exact SLe.take8 _ _ | exact SLe.lit1 _ | exact SLe.needs _ | exact SLe.pair1 _ _ _ _ | exact SLe.refl _ | refine SLe.agg ?_ | refine SLe.tup ?_)))
end Go.Sx
