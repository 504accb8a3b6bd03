/- Part of the proof that the laws of the judge return true for every input: J60. -/
import Derived.Test.YtmbocmonhcplhaaGreatJ19
import Derived.Test.YtmbocmonhcplhaaGreatJ31
set_option linter.all false
namespace Go.Sx
theorem ok2 {a b : UInt8} (ha : okB a.toNat) (hb : okB b.toNat) : CodeOk ⟨#[a, b]⟩ := ⟨by show 1 ≤ 2; omega, by show 2 ≤ 8; omega, fun i h => by
 have h2 : i < 2 := h
 rcases (show i = 0 ∨ i = 1 by omega) with rfl | rfl
 ·exact ha
 ·exact hb⟩
theorem codes6_ok : ∀ i, CodeOk (codes6.getD i ⟨#[65, 49]⟩) := by
 have key : ∀ i, i < 6 → CodeOk (codes6.getD i ⟨#[65, 49]⟩) := by
  intro i hi
  rcases (show i = 0 ∨ i = 1 ∨ i = 2 ∨ i = 3 ∨ i = 4 ∨ i = 5 by omega) with rfl | rfl | rfl | rfl | rfl | rfl
  all_goals exact ok2 (by unfold okB; decide) (by unfold okB; decide)
 intro i
 by_cases h : i < 6
 ·exact key i h
 ·rw [List.getD_eq_getElem?_getD, List.getElem?_eq_none (by rw [codesLen]; omega)]
  exact key 0 (by omega)
theorem code_ok {i : Nat} (h : i < 6) : CodeOk (codes6.getD i default) := by
 have := codes6_ok i
 rw [List.getD_eq_getElem?_getD, List.getElem?_eq_getElem (by rw [codesLen]; exact h)] at this ⊢
 exact this
open Go.Proofs Go.RowKit
attribute [local irreducible] Run RunL RunD RunE SLe0 SLe OLe
set_option maxHeartbeats 2000000
set_option maxRecDepth 8000
theorem K91g : ∃ G : List Int × Nat → Course × Nat, (∀ x : List Int × Nat, True → CodeOk (G x).1.Code) ∧ FnM Tryz.prog 91 (fun ds os d os' => ∃ x, True ∧ ds = [.loc 1000 0] ∧ os = [eDraw x.1 x.2] ∧ d = eCourse (G x).1 ∧ os' = [(1000, eDraw x.1 (G x).2)]) := by
 refine fn_introE Tryz.call91 Tryz.func91 rfl Tryz.ntmps91 (α := List Int × Nat) (β := Course × Nat) (fun _ => True) (fun _ y => CodeOk y.1.Code) (fun _ => [.loc 1000 0]) (fun x => [eDraw x.1 x.2]) (fun _ y => eCourse y.1) (fun x y => [(1000, eDraw x.1 y.2)]) ?_
 rintro ⟨L, k⟩ _
 refine ⟨by simp, ?_⟩
 have b1 := nx_bd L k 6 (by omega)
 have b2 := nx_bd L (nxA L k) 6 (by omega)
 repeat' (first | (refine zH (K' := ?_) (s' := ?_) (fun F w0 fn hE => ?_) ?_; rotate_left 2; focus ((first | apply zC | fail); (repeat' (first | apply zC | apply zA | apply zB | refine zF qS qR ?_ ?_ | refine zV [1000] K90 qR qD qZ qF ?_ ⟨L, _, _, (by decide), rfl, rfl, rfl, rfl⟩ qS ?_ | refine zL K75 qD ?_ ⟨rfl, rfl⟩ qS ?_ | exact True.intro | exact rfl | exact hE | exact qP | fail)))) | (refine zS qS ?_ ?_ <;> intro hb <;> have hc := hb <;> (try simp only [bF] at hc) <;> (try (exfalso; simp at hc; done))))
 (refine yA (ds := ?ds5) (⟨(⟨?u2, ?u3⟩, ?u4), ?u5⟩ : {y : Course × Nat // CodeOk y.1.Code}) qR ?qa5 ?qb5 ?qc5; (case qa5 => (simp only [go_sem]; rfl)); (case' qb5 => (simp only [go_sem]; repeat' (first | exact trivial | exact True.intro | exact SLe.refl _ | exact OLe.refl _ | exact ⟨_, rfl, OLe.refl _⟩ | refine ⟨_, rfl, ?_⟩ | refine OLe.var ?_ | (show SLeL _ _; refine ⟨?_, ?_⟩) | (show SLeL [] []; exact True.intro) | (refine SLe.int ?_; rw [w64]; omega) | refine SLe.int ?_ | refine SLe.bool ?_ | apply And.intro | exact OLe.snoc1 _ _ | exact OLe.snoc2 _ _ | exact SLe.nil0 | exact SLe.nils | exact SLe.take8 _ _ | exact SLe.lit1 _ | exact SLe.needs _ | exact SLe.pair1 _ _ _ _ | exact SLe.refl _ | refine SLe.agg ?_ | refine SLe.tup ?_))); (case' qc5 => (simp only [go_sem]; repeat' (first | exact trivial | exact True.intro | exact SLe.refl _ | exact OLe.refl _ | exact ⟨_, rfl, OLe.refl _⟩ | refine ⟨_, rfl, ?_⟩ | refine OLe.var ?_ | (show SLeL _ _; refine ⟨?_, ?_⟩) | (show SLeL [] []; exact True.intro) | (refine SLe.int ?_; rw [w64]; omega) | refine SLe.int ?_ | refine SLe.bool ?_ | apply And.intro | exact OLe.snoc1 _ _ | exact OLe.snoc2 _ _ | exact SLe.nil0 | exact SLe.nils | exact SLe.take8 _ _ | exact SLe.lit1 _ | exact SLe.needs _ | exact SLe.pair1 _ _ _ _ | exact SLe.refl _ | refine SLe.agg ?_ | refine SLe.tup ?_))))
 exact code_ok (i := (nxN L (nxA L k) 6).toNat) (by omega)
theorem mem_ins {α : Type} {P : α → Prop} (acc : List α) (i : Nat) (a : α) (h : ∀ x ∈ acc, P x) (ha : P a) : ∀ x ∈ acc.take i ++ a :: acc.drop i, P x := fun x hx => by
 rcases List.mem_append.1 hx with hx | hx
 ·exact h x (List.mem_of_mem_take hx)
 ·rcases List.mem_cons.1 hx with rfl | hx
  ·exact ha
  ·exact h x (List.mem_of_mem_drop hx)
theorem K142g : ∃ G : List Int × Nat → List Course × Nat, (∀ x : List Int × Nat, True → ∀ c ∈ (G x).1, CodeOk c.Code) ∧ FnM Tryz.prog 142 (fun ds os d os' => ∃ x, True ∧ ds = [.loc 1000 0] ∧ os = [eDraw x.1 x.2] ∧ d = eList 2 eCourse (G x).1 ∧ os' = [(1000, eDraw x.1 (G x).2)]) := by
 obtain ⟨G91, g91, K91⟩ := K91g
 refine fn_introE Tryz.call142 Tryz.func142 rfl Tryz.ntmps142 (α := List Int × Nat) (β := List Course × Nat) (fun _ => True) (fun _ y => ∀ c ∈ y.1, CodeOk c.Code) (fun _ => [.loc 1000 0]) (fun x => [eDraw x.1 x.2]) (fun _ y => eList 2 eCourse y.1) (fun x y => [(1000, eDraw x.1 y.2)]) ?_
 rintro ⟨L, p0⟩ _
 refine ⟨by simp, ?_⟩
 have b0 := nx_bd L p0 3 (by omega)
 have e2 : IntKind.i64.wrap (1 + nxN L p0 3) = 1 + nxN L p0 3 := by rw [w64]; omega
 repeat' (first | (refine zH (K' := ?_) (s' := ?_) (fun F w0 fn hE => ?_) ?_; rotate_left 2; focus ((first | apply zC | fail); (repeat' (first | apply zC | apply zD | apply zA | apply zB | refine zF qS qR ?_ ?_ | refine zV [1000] K90 qR qD qZ qF ?_ ⟨L, _, _, (by decide), rfl, rfl, rfl, rfl⟩ qS ?_ | exact True.intro | exact rfl | exact hE | fail)))) | (refine zS qS ?_ ?_ <;> intro hb <;> have hc := hb <;> (try simp only [bF] at hc) <;> (try (exfalso; simp at hc; done))))
 refine zH (fun _ _ _ hE => yE 4 63 2 (fun i => eCourse (([] : List Course).getD i default)) rfl rfl rfl hE) ?_
 refine runE_loop [0, 2, 3, 4] (fun x : List Course × Nat × Nat => [(5, .int .i64 x.2.2)]) (fun x : List Course × Nat × Nat => [(1000, eDraw L x.2.1), (0, .acc 63 2 x.1.length (fun i => eCourse (x.1.getD i default)))]) (fun x : List Course × Nat × Nat => (x.2.2 ≤ 4 ∧ x.1.length ≤ x.2.2) ∧ ∀ c ∈ x.1, CodeOk c.Code) (fun x : List Course × Nat × Nat => 4 - x.2.2) ([], nxA L p0, 0) (fun x => qS) ?_ qE qE ?_
 ·exact ⟨⟨by simp, by simp⟩, fun c hc => by cases hc⟩
 rintro ⟨acc, p, k⟩ n ⟨⟨h1, h2⟩, hco⟩ ih
 simp only at h1 h2 hco
 repeat' (first | (refine zH (K' := ?_) (s' := ?_) (fun F w0 fn hE => ?_) ?_; rotate_left 2; focus ((first | apply zC | apply zG | refine zJ qR ?_ | fail); (repeat' (first | apply zC | apply zD | apply zA | apply zB | refine zF qS qR ?_ ?_ | refine zV [1000] K91 qR qD qZ qF ?_ ⟨(L, _), trivial, rfl, rfl, rfl, rfl⟩ qS ?_ | exact True.intro | exact rfl | exact hE | fail)))) | (refine zS qS ?_ ?_ <;> intro hb <;> have hc := hb <;> (try simp only [bF] at hc) <;> (try (exfalso; simp at hc; done))))
 ·refine runE_loop [0, 2, 3, 4, 5, 6] (fun i : Nat × Unit => [(7, .int .i64 i.1)]) (fun i : Nat × Unit => []) (fun i : Nat × Unit => i.1 ≤ acc.length) (fun i : Nat × Unit => acc.length - i.1) (0, ()) (fun x => qS) ?_ qE qE ?_
  ·exact Nat.zero_le _
  rintro ⟨i, _⟩ n2 h3 ih2
  simp only at h3
  have e1 : IntKind.i64.wrap ((i : Int) + 1) = ((i + 1 : Nat) : Int) := by rw [w64]; omega
  repeat' (first | (refine zH (K' := ?_) (s' := ?_) (fun F w0 fn hE => ?_) ?_; rotate_left 2; focus ((first | apply zC | apply zG | refine zJ qR ?_ | fail); (repeat' (first | apply zC | apply zD | apply zK | apply zA | apply zO | apply zB | refine zF (by simp only [go_sem, e1]; rfl) qR ?_ ?_ | refine zT (by simp only [go_sem, e1]; rfl) qR ?_ ?_ | refine zP qK qK ?_ | refine runDsl (by simp only [go_sem, e1]; rfl) ?_ (by simp only [go_sem, e1]; rfl) ?_ | refine runDcp (by simp only [go_sem, e1]; rfl) (by simp only [go_sem, e1]; rfl) ?_ | refine runDcallg 22 qR (by simp only [go_sem, e1]; rfl) K92 (by simp only [go_sem, e1]; first | done | rfl) (fun hg => ?_) (fun _ => ⟨_, _, rfl, rfl⟩) (by simp only [go_sem, e1]; rfl) ?_ | exact True.intro | exact rfl | exact hE | exact qP | fail)))) | (refine zS qS ?_ ?_ <;> intro hb <;> have hc := hb <;> (try simp only [bF] at hc) <;> (try (exfalso; simp at hc; done))))
  ·simp only [Bool.and_eq_true, decide_eq_true_eq] at hb
   refine zX ih2 ((i + 1, ())) ?_ ?_ ⟨rfl, qE, qE⟩
   ·simp only; omega
   ·simp only; omega
  ·refine zX ih ((acc, ?u8, k + 1)) ?_ ?_ ⟨rfl, qE, qE⟩
   ·exact ⟨⟨by simp only; omega, by simp only; omega⟩, hco⟩
   ·simp only; omega
  ·refine zX ih ((acc.take i ++ ⟨?u10, ?u11⟩ :: acc.drop i, ?u12, k + 1)) ?_ ?_ ⟨rfl, by simp only [go_sem]; repeat' (first | exact trivial | exact True.intro | exact SLe.refl _ | exact OLe.refl _ | exact ⟨_, rfl, OLe.refl _⟩ | refine ⟨_, rfl, ?_⟩ | refine OLe.var ?_ | (show SLeL _ _; refine ⟨?_, ?_⟩) | (show SLeL [] []; exact True.intro) | (refine SLe.int ?_; rw [w64]; omega) | refine SLe.int ?_ | refine SLe.bool ?_ | apply And.intro | refine OLe.ins eCourse _ _ (by omega) ?_ | exact OLe.snoc1 _ _ | exact OLe.snoc2 _ _ | exact SLe.nil0 | exact SLe.nils | exact SLe.take8 _ _ | exact SLe.lit1 _ | exact SLe.needs _ | exact SLe.pair1 _ _ _ _ | exact SLe.refl _ | refine SLe.agg ?_ | refine SLe.tup ?_), by simp only [go_sem]; repeat' (first | exact trivial | exact True.intro | exact SLe.refl _ | exact OLe.refl _ | exact ⟨_, rfl, OLe.refl _⟩ | refine ⟨_, rfl, ?_⟩ | refine OLe.var ?_ | (show SLeL _ _; refine ⟨?_, ?_⟩) | (show SLeL [] []; exact True.intro) | (refine SLe.int ?_; rw [w64]; omega) | refine SLe.int ?_ | refine SLe.bool ?_ | apply And.intro | refine OLe.ins eCourse _ _ (by omega) ?_ | exact OLe.snoc1 _ _ | exact OLe.snoc2 _ _ | exact SLe.nil0 | exact SLe.nils | exact SLe.take8 _ _ | exact SLe.lit1 _ | exact SLe.needs _ | exact SLe.pair1 _ _ _ _ | exact SLe.refl _ | refine SLe.agg ?_ | refine SLe.tup ?_)⟩
   ·exact ⟨⟨by simp only; omega, by simp; omega⟩, mem_ins acc i _ hco (g91 _ trivial)⟩
   ·simp only; omega
 ·refine zH (fun _ _ _ hE => zN 0 qS hE) ?_
  repeat' (first | (refine zH (K' := ?_) (s' := ?_) (fun F w0 fn hE => ?_) ?_; rotate_left 2; focus ((first | (show Run _ _ _ _ _ _; first | apply zC | apply zG | apply zD | apply zK | apply zA | apply zO | refine zJ qR ?_) | (show RunL _ _ _ _ _ _ _; first | apply zB | refine zF qS qR ?_ ?_ | refine runL_gT 22 qR qD ?_ | refine runL_gF 22 qS qR qD qS ?_ | refine runL_gF0 22 qR qD qS ?_ | refine runL_gT 36 qR qD ?_ | refine runL_gF 36 qS qR qD qS ?_ | refine runL_gF0 36 qR qD qS ?_ | refine yF qS qZ qZ (fun bn hbn => ?_) | refine stepnif qF qR qS ?_) | (show RunD _ _ _ _ _ _ _ _ _ _; first | refine zT qS qR ?_ ?_ | refine zP qK qK ?_) | exact True.intro | exact rfl | exact SLe.refl _ | exact SLe0.bool rfl | refine SLe0.bool ?_ | refine SLe0.int ?_ | refine SLe0.str ?_ | exact SLe0.pure rfl | (show SLe _ _; simp only [go_sem]; repeat' (first | exact trivial | exact True.intro | exact SLe.refl _ | exact OLe.refl _ | exact ⟨_, rfl, OLe.refl _⟩ | refine ⟨_, rfl, ?_⟩ | refine OLe.var ?_ | (show SLeL _ _; refine ⟨?_, ?_⟩) | (show SLeL [] []; exact True.intro) | (refine SLe.int ?_; rw [w64]; omega) | refine SLe.int ?_ | refine SLe.bool ?_ | apply And.intro)) | (show subO _ _; simp only [go_sem]; repeat' (first | exact trivial | exact True.intro | exact SLe.refl _ | exact OLe.refl _ | exact ⟨_, rfl, OLe.refl _⟩ | refine ⟨_, rfl, ?_⟩ | refine OLe.var ?_ | (show SLeL _ _; refine ⟨?_, ?_⟩) | (show SLeL [] []; exact True.intro) | (refine SLe.int ?_; rw [w64]; omega) | refine SLe.int ?_ | refine SLe.bool ?_ | apply And.intro)) | exact qP | fail); (repeat' (first | (show Run _ _ _ _ _ _; first | apply zC | apply zG | apply zD | apply zK | apply zA | apply zO | refine zJ qR ?_) | (show RunL _ _ _ _ _ _ _; first | apply zB | refine zF qS qR ?_ ?_ | refine runL_gT 22 qR qD ?_ | refine runL_gF 22 qS qR qD qS ?_ | refine runL_gF0 22 qR qD qS ?_ | refine runL_gT 36 qR qD ?_ | refine runL_gF 36 qS qR qD qS ?_ | refine runL_gF0 36 qR qD qS ?_ | refine yF qS qZ qZ (fun bn hbn => ?_) | refine stepnif qF qR qS ?_) | (show RunD _ _ _ _ _ _ _ _ _ _; first | refine zT qS qR ?_ ?_ | refine zP qK qK ?_) | exact True.intro | exact rfl | exact SLe.refl _ | exact hE | omega | exact SLe0.bool rfl | refine SLe0.bool ?_ | refine SLe0.int ?_ | refine SLe0.str ?_ | exact SLe0.pure rfl | (show SLe _ _; simp only [go_sem]; repeat' (first | exact trivial | exact True.intro | exact SLe.refl _ | exact OLe.refl _ | exact ⟨_, rfl, OLe.refl _⟩ | refine ⟨_, rfl, ?_⟩ | refine OLe.var ?_ | (show SLeL _ _; refine ⟨?_, ?_⟩) | (show SLeL [] []; exact True.intro) | (refine SLe.int ?_; rw [w64]; omega) | refine SLe.int ?_ | refine SLe.bool ?_ | apply And.intro)) | (show subO _ _; simp only [go_sem]; repeat' (first | exact trivial | exact True.intro | exact SLe.refl _ | exact OLe.refl _ | exact ⟨_, rfl, OLe.refl _⟩ | refine ⟨_, rfl, ?_⟩ | refine OLe.var ?_ | (show SLeL _ _; refine ⟨?_, ?_⟩) | (show SLeL [] []; exact True.intro) | (refine SLe.int ?_; rw [w64]; omega) | refine SLe.int ?_ | refine SLe.bool ?_ | apply And.intro)) | exact qP | fail)))) | (refine zS qS ?_ ?_ <;> intro hb <;> have hc := hb <;> (try simp only [bF] at hc) <;> (try (exfalso; simp at hc; done))))
  (refine yA (ds := ?ds14) (⟨(acc, ?u14), hco⟩ : {y : List Course × Nat // ∀ c ∈ y.1, CodeOk c.Code}) qR ?qa14 ?qb14 ?qc14; (case qa14 => (simp only [go_sem]; rfl)); (case' qb14 => (simp only [go_sem]; repeat' (first | exact trivial | exact True.intro | exact SLe.refl _ | exact OLe.refl _ | exact ⟨_, rfl, OLe.refl _⟩ | refine ⟨_, rfl, ?_⟩ | refine OLe.var ?_ | (show SLeL _ _; refine ⟨?_, ?_⟩) | (show SLeL [] []; exact True.intro) | (refine SLe.int ?_; rw [w64]; omega) | refine SLe.int ?_ | refine SLe.bool ?_ | apply And.intro | exact OLe.snoc1 _ _ | exact OLe.snoc2 _ _ | exact SLe.nil0 | exact SLe.nils | exact SLe.take8 _ _ | exact SLe.lit1 _ | exact SLe.needs _ | exact SLe.pair1 _ _ _ _ | exact SLe.refl _ | refine SLe.agg ?_ | refine SLe.tup ?_))); (case' qc14 => (simp only [go_sem]; repeat' (first | exact trivial | exact True.intro | exact SLe.refl _ | exact OLe.refl _ | exact ⟨_, rfl, OLe.refl _⟩ | refine ⟨_, rfl, ?_⟩ | refine OLe.var ?_ | (show SLeL _ _; refine ⟨?_, ?_⟩) | (show SLeL [] []; exact True.intro) | (refine SLe.int ?_; rw [w64]; omega) | refine SLe.int ?_ | refine SLe.bool ?_ | apply And.intro | exact OLe.snoc1 _ _ | exact OLe.snoc2 _ _ | exact SLe.nil0 | exact SLe.nils | exact SLe.take8 _ _ | exact SLe.lit1 _ | exact SLe.needs _ | exact SLe.pair1 _ _ _ _ | exact SLe.refl _ | refine SLe.agg ?_ | refine SLe.tup ?_))))
end Go.Sx
