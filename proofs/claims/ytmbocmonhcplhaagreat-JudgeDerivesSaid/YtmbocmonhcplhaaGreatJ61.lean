/- Part of the proof that the laws of the judge return true for every input: J59, J60, J61. -/
import Derived.Test.YtmbocmonhcplhaaGreatJ31
import Derived.Test.YtmbocmonhcplhaaGreatJ15
set_option linter.all false
namespace Go.Sx
open Go.Proofs Go.RowKit
set_option maxRecDepth 10000
def GOk : Nat → Need → Prop
 | 0, n => ((∀ c ∈ n.Set, CodeOk c.Code) ∧ n.Set.length ≤ 4) ∧ n.L = []
 | d + 1, n => ((∀ c ∈ n.Set, CodeOk c.Code) ∧ n.Set.length ≤ 4) ∧ n.L.length ≤ 3 ∧ ∀ x ∈ n.L, GOk d x
theorem GOk.set {d : Nat} {n : Need} (h : GOk d n) : (∀ c ∈ n.Set, CodeOk c.Code) ∧ n.Set.length ≤ 4 := by cases d <;> exact h.1
theorem GOk.len {d : Nat} {n : Need} (h : GOk d n) : n.L.length ≤ 3 := by
 cases d with
 | zero => rw [h.2]; simp
 | succ d => exact h.2.1
theorem GOk.nok : ∀ (d : Nat) {n : Need}, GOk d n → NOk d n
 | 0, _, h => ⟨fun c hc => (h.1.1 c hc).asc, h.2⟩
 | d + 1, _, h => ⟨fun c hc => (h.1.1 c hc).asc, fun x hx => GOk.nok d (h.2.2 x hx)⟩
def c3 : Nat → Nat
 | 0 => 1
 | d + 1 => 1 + 3 * c3 d
theorem flat_bd {α β : Type} (f : α → List β) (c : Nat) : ∀ l : List α, (∀ x ∈ l, (f x).length ≤ c) → (l.flatMap f).length ≤ l.length * c
 | [], _ => by simp
 | x :: r, h => by
  have h1 := flat_bd f c r fun y hy => h y (List.mem_cons_of_mem _ hy)
  have h2 := h x List.mem_cons_self
  simp only [List.flatMap_cons, List.length_append, List.length_cons, Nat.add_mul, Nat.one_mul]
  omega
theorem GOk.nodes : ∀ (d k : Nat) {n : Need}, GOk d n → (nodesF d k n).length ≤ c3 d
 | 0, _, _, _ => by simp [nodesF, c3]
 | d + 1, k, n, h => by
  have h1 := flat_bd (nodesF d (k + 1)) (c3 d) n.L fun x hx => GOk.nodes d (k + 1) (h.2.2 x hx)
  have h2 := Nat.mul_le_mul_right (c3 d) h.2.1
  rw [nodesF_succ]
  simp only [c3]
  omega
theorem GOk.wok {n : Need} (h : GOk 3 n) : WOk 3 n := ⟨h.nok, by have := GOk.nodes 3 1 h; simp only [c3] at this; omega⟩
theorem GOk.wokd {d : Nat} {n : Need} (hd : d ≤ 3) (h : GOk d n) : WOk d n := ⟨h.nok, by
 have := GOk.nodes d 1 h
 rcases (show d = 0 ∨ d = 1 ∨ d = 2 ∨ d = 3 by omega) with rfl | rfl | rfl | rfl <;> simp only [c3] at this <;> omega⟩
structure PGk (p : Programme) : Prop where
 need : GOk 3 p.Need
 name : p.Name.size ≤ 100000
 excl : ∀ x ∈ p.Exclude, Asc x.1.Code ∧ Asc x.2.Code
theorem PGk.pok {p : Programme} (h : PGk p) : POk 3 p := ⟨h.need.wok, h.name, h.excl⟩
end Go.Sx
namespace Go.Sx
theorem ok2 {a b : UInt8} (ha : okB a.toNat) (hb : okB b.toNat) : CodeOk ⟨#[a, b]⟩ := ⟨by show 1 ≤ 2; omega, by show 2 ≤ 8; omega, fun i h => by
 have h2 : i < 2 := h
 rcases (show i = 0 ∨ i = 1 by omega) with rfl | rfl
 ·exact ha
 ·exact hb⟩
theorem codes6_ok : ∀ i, CodeOk (codes6.getD i ⟨#[65, 49]⟩) := by
 have key : ∀ i, i < 6 → CodeOk (codes6.getD i ⟨#[65, 49]⟩) := by
  intro i hi
  rcases (show i = 0 ∨ i = 1 ∨ i = 2 ∨ i = 3 ∨ i = 4 ∨ i = 5 by omega) with rfl | rfl | rfl | rfl | rfl | rfl
  all_goals exact ok2 (by unfold okB; decide) (by unfold okB; decide)
 intro i
 by_cases h : i < 6
 ·exact key i h
 ·rw [List.getD_eq_getElem?_getD, List.getElem?_eq_none (by rw [codesLen]; omega)]
  exact key 0 (by omega)
theorem code_ok {i : Nat} (h : i < 6) : CodeOk (codes6.getD i default) := by
 have := codes6_ok i
 rw [List.getD_eq_getElem?_getD, List.getElem?_eq_getElem (by rw [codesLen]; exact h)] at this ⊢
 exact this
open Go.Proofs Go.RowKit
attribute [local irreducible] Run RunL RunD RunE SLe0 SLe OLe
set_option maxHeartbeats 2000000
set_option maxRecDepth 8000
theorem K91g : ∃ G : List Int × Nat → Course × Nat, (∀ x : List Int × Nat, True → CodeOk (G x).1.Code) ∧ FnM Tryz.prog 91 (fun ds os d os' => ∃ x, True ∧ ds = [.loc 1000 0] ∧ os = [eDraw x.1 x.2] ∧ d = eCourse (G x).1 ∧ os' = [(1000, eDraw x.1 (G x).2)]) := by
 refine fn_introE Tryz.call91 Tryz.func91 rfl Tryz.ntmps91 (α := List Int × Nat) (β := Course × Nat) (fun _ => True) (fun _ y => CodeOk y.1.Code) (fun _ => [.loc 1000 0]) (fun x => [eDraw x.1 x.2]) (fun _ y => eCourse y.1) (fun x y => [(1000, eDraw x.1 y.2)]) ?_
 rintro ⟨L, k⟩ _
 refine ⟨by simp, ?_⟩
 have b1 := nx_bd L k 6 (by omega)
 have b2 := nx_bd L (nxA L k) 6 (by omega)
 repeat' (first | (refine zH (K' := ?_) (s' := ?_) (fun F w0 fn hE => ?_) ?_; rotate_left 2; focus ((first | apply zC | fail); (repeat' (first | apply zC | apply zA | apply zB | refine zF qS qR ?_ ?_ | refine zW [1000] K90 qR qD qZ qF ?_ ⟨L, _, _, (by decide), rfl, rfl, rfl, rfl⟩ qS ?_ | refine zM K75 qD ?_ ⟨rfl, rfl⟩ qS ?_ | exact True.intro | exact rfl | exact hE | exact qP | fail)))) | (refine zT qS ?_ ?_ <;> intro hb <;> have hc := hb <;> (try simp only [bF] at hc) <;> (try (exfalso; simp at hc; done))))
 (refine yB (ds := ?ds5) (⟨(⟨?u2, ?u3⟩, ?u4), ?u5⟩ : {y : Course × Nat // CodeOk y.1.Code}) qR ?qa5 ?qb5 ?qc5; (case qa5 => (simp only [go_sem]; rfl)); (case' qb5 => (simp only [go_sem]; repeat' (first | exact trivial | exact True.intro | exact SLe.refl _ | exact OLe.refl _ | exact ⟨_, rfl, OLe.refl _⟩ | refine ⟨_, rfl, ?_⟩ | refine OLe.var ?_ | (show SLeL _ _; refine ⟨?_, ?_⟩) | (show SLeL [] []; exact True.intro) | (refine SLe.int ?_; rw [w64]; omega) | refine SLe.int ?_ | refine SLe.bool ?_ | apply And.intro | exact OLe.snoc1 _ _ | exact OLe.snoc2 _ _ | exact SLe.nil0 | exact SLe.nils | exact SLe.take8 _ _ | exact SLe.lit1 _ | exact SLe.needs _ | exact SLe.pair1 _ _ _ _ | exact SLe.refl _ | refine SLe.agg ?_ | refine SLe.tup ?_))); (case' qc5 => (simp only [go_sem]; repeat' (first | exact trivial | exact True.intro | exact SLe.refl _ | exact OLe.refl _ | exact ⟨_, rfl, OLe.refl _⟩ | refine ⟨_, rfl, ?_⟩ | refine OLe.var ?_ | (show SLeL _ _; refine ⟨?_, ?_⟩) | (show SLeL [] []; exact True.intro) | (refine SLe.int ?_; rw [w64]; omega) | refine SLe.int ?_ | refine SLe.bool ?_ | apply And.intro | exact OLe.snoc1 _ _ | exact OLe.snoc2 _ _ | exact SLe.nil0 | exact SLe.nils | exact SLe.take8 _ _ | exact SLe.lit1 _ | exact SLe.needs _ | exact SLe.pair1 _ _ _ _ | exact SLe.refl _ | refine SLe.agg ?_ | refine SLe.tup ?_))))
 exact code_ok (i := (nxN L (nxA L k) 6).toNat) (by omega)
theorem mem_ins {α : Type} {P : α → Prop} (acc : List α) (i : Nat) (a : α) (h : ∀ x ∈ acc, P x) (ha : P a) : ∀ x ∈ acc.take i ++ a :: acc.drop i, P x := fun x hx => by
 rcases List.mem_append.1 hx with hx | hx
 ·exact h x (List.mem_of_mem_take hx)
 ·rcases List.mem_cons.1 hx with rfl | hx
  ·exact ha
  ·exact h x (List.mem_of_mem_drop hx)
theorem K142g : ∃ G : List Int × Nat → List Course × Nat, (∀ x : List Int × Nat, True → (∀ c ∈ (G x).1, CodeOk c.Code) ∧ (G x).1.length ≤ 4) ∧ FnM Tryz.prog 142 (fun ds os d os' => ∃ x, True ∧ ds = [.loc 1000 0] ∧ os = [eDraw x.1 x.2] ∧ d = eList 2 eCourse (G x).1 ∧ os' = [(1000, eDraw x.1 (G x).2)]) := by
 obtain ⟨G91, g91, K91⟩ := K91g
 refine fn_introE Tryz.call142 Tryz.func142 rfl Tryz.ntmps142 (α := List Int × Nat) (β := List Course × Nat) (fun _ => True) (fun _ y => (∀ c ∈ y.1, CodeOk c.Code) ∧ y.1.length ≤ 4) (fun _ => [.loc 1000 0]) (fun x => [eDraw x.1 x.2]) (fun _ y => eList 2 eCourse y.1) (fun x y => [(1000, eDraw x.1 y.2)]) ?_
 rintro ⟨L, p0⟩ _
 refine ⟨by simp, ?_⟩
 have b0 := nx_bd L p0 3 (by omega)
 have e2 : IntKind.i64.wrap (1 + nxN L p0 3) = 1 + nxN L p0 3 := by rw [w64]; omega
 repeat' (first | (refine zH (K' := ?_) (s' := ?_) (fun F w0 fn hE => ?_) ?_; rotate_left 2; focus ((first | apply zC | fail); (repeat' (first | apply zC | apply zD | apply zA | apply zB | refine zF qS qR ?_ ?_ | refine zW [1000] K90 qR qD qZ qF ?_ ⟨L, _, _, (by decide), rfl, rfl, rfl, rfl⟩ qS ?_ | exact True.intro | exact rfl | exact hE | fail)))) | (refine zT qS ?_ ?_ <;> intro hb <;> have hc := hb <;> (try simp only [bF] at hc) <;> (try (exfalso; simp at hc; done))))
 refine zH (fun _ _ _ hE => yF 4 63 2 (fun i => eCourse (([] : List Course).getD i default)) rfl rfl rfl hE) ?_
 refine runE_loop [0, 2, 3, 4] (fun x : List Course × Nat × Nat => [(5, .int .i64 x.2.2)]) (fun x : List Course × Nat × Nat => [(1000, eDraw L x.2.1), (0, .acc 63 2 x.1.length (fun i => eCourse (x.1.getD i default)))]) (fun x : List Course × Nat × Nat => (x.2.2 ≤ 4 ∧ x.1.length ≤ x.2.2) ∧ ∀ c ∈ x.1, CodeOk c.Code) (fun x : List Course × Nat × Nat => 4 - x.2.2) ([], nxA L p0, 0) (fun x => qS) ?_ qE qE ?_
 ·exact ⟨⟨by simp, by simp⟩, fun c hc => by cases hc⟩
 rintro ⟨acc, p, k⟩ n ⟨⟨h1, h2⟩, hco⟩ ih
 simp only at h1 h2 hco
 repeat' (first | (refine zH (K' := ?_) (s' := ?_) (fun F w0 fn hE => ?_) ?_; rotate_left 2; focus ((first | apply zC | apply zG | refine zK qR ?_ | fail); (repeat' (first | apply zC | apply zD | apply zA | apply zB | refine zF qS qR ?_ ?_ | refine zW [1000] K91 qR qD qZ qF ?_ ⟨(L, _), trivial, rfl, rfl, rfl, rfl⟩ qS ?_ | exact True.intro | exact rfl | exact hE | fail)))) | (refine zT qS ?_ ?_ <;> intro hb <;> have hc := hb <;> (try simp only [bF] at hc) <;> (try (exfalso; simp at hc; done))))
 ·refine runE_loop [0, 2, 3, 4, 5, 6] (fun i : Nat × Unit => [(7, .int .i64 i.1)]) (fun i : Nat × Unit => []) (fun i : Nat × Unit => i.1 ≤ acc.length) (fun i : Nat × Unit => acc.length - i.1) (0, ()) (fun x => qS) ?_ qE qE ?_
  ·exact Nat.zero_le _
  rintro ⟨i, _⟩ n2 h3 ih2
  simp only at h3
  have e1 : IntKind.i64.wrap ((i : Int) + 1) = ((i + 1 : Nat) : Int) := by rw [w64]; omega
  repeat' (first | (refine zH (K' := ?_) (s' := ?_) (fun F w0 fn hE => ?_) ?_; rotate_left 2; focus ((first | apply zC | apply zG | refine zK qR ?_ | fail); (repeat' (first | apply zC | apply zD | apply zL | apply zA | apply zP | apply zB | refine zF (by simp only [go_sem, e1]; rfl) qR ?_ ?_ | refine zU (by simp only [go_sem, e1]; rfl) qR ?_ ?_ | refine zQ qK qK ?_ | refine runDsl (by simp only [go_sem, e1]; rfl) ?_ (by simp only [go_sem, e1]; rfl) ?_ | refine runDcp (by simp only [go_sem, e1]; rfl) (by simp only [go_sem, e1]; rfl) ?_ | refine runDcallg 22 qR (by simp only [go_sem, e1]; rfl) K92 (by simp only [go_sem, e1]; first | done | rfl) (fun hg => ?_) (fun _ => ⟨_, _, rfl, rfl⟩) (by simp only [go_sem, e1]; rfl) ?_ | exact True.intro | exact rfl | exact hE | exact qP | fail)))) | (refine zT qS ?_ ?_ <;> intro hb <;> have hc := hb <;> (try simp only [bF] at hc) <;> (try (exfalso; simp at hc; done))))
  ·simp only [Bool.and_eq_true, decide_eq_true_eq] at hb
   refine zY ih2 ((i + 1, ())) ?_ ?_ ⟨rfl, qE, qE⟩
   ·simp only; omega
   ·simp only; omega
  ·refine zY ih ((acc, ?u8, k + 1)) ?_ ?_ ⟨rfl, qE, qE⟩
   ·exact ⟨⟨by simp only; omega, by simp only; omega⟩, hco⟩
   ·simp only; omega
  ·refine zY ih ((acc.take i ++ ⟨?u10, ?u11⟩ :: acc.drop i, ?u12, k + 1)) ?_ ?_ ⟨rfl, by simp only [go_sem]; repeat' (first | exact trivial | exact True.intro | exact SLe.refl _ | exact OLe.refl _ | exact ⟨_, rfl, OLe.refl _⟩ | refine ⟨_, rfl, ?_⟩ | refine OLe.var ?_ | (show SLeL _ _; refine ⟨?_, ?_⟩) | (show SLeL [] []; exact True.intro) | (refine SLe.int ?_; rw [w64]; omega) | refine SLe.int ?_ | refine SLe.bool ?_ | apply And.intro | refine OLe.ins eCourse _ _ (by omega) ?_ | exact OLe.snoc1 _ _ | exact OLe.snoc2 _ _ | exact SLe.nil0 | exact SLe.nils | exact SLe.take8 _ _ | exact SLe.lit1 _ | exact SLe.needs _ | exact SLe.pair1 _ _ _ _ | exact SLe.refl _ | refine SLe.agg ?_ | refine SLe.tup ?_), by simp only [go_sem]; repeat' (first | exact trivial | exact True.intro | exact SLe.refl _ | exact OLe.refl _ | exact ⟨_, rfl, OLe.refl _⟩ | refine ⟨_, rfl, ?_⟩ | refine OLe.var ?_ | (show SLeL _ _; refine ⟨?_, ?_⟩) | (show SLeL [] []; exact True.intro) | (refine SLe.int ?_; rw [w64]; omega) | refine SLe.int ?_ | refine SLe.bool ?_ | apply And.intro | refine OLe.ins eCourse _ _ (by omega) ?_ | exact OLe.snoc1 _ _ | exact OLe.snoc2 _ _ | exact SLe.nil0 | exact SLe.nils | exact SLe.take8 _ _ | exact SLe.lit1 _ | exact SLe.needs _ | exact SLe.pair1 _ _ _ _ | exact SLe.refl _ | refine SLe.agg ?_ | refine SLe.tup ?_)⟩
   ·exact ⟨⟨by simp only; omega, by simp; omega⟩, mem_ins acc i _ hco (g91 _ trivial)⟩
   ·simp only; omega
 ·refine zH (fun _ _ _ hE => zO 0 qS hE) ?_
  repeat' (first | (refine zH (K' := ?_) (s' := ?_) (fun F w0 fn hE => ?_) ?_; rotate_left 2; focus ((first | (show Run _ _ _ _ _ _; first | apply zC | apply zG | apply zD | apply zL | apply zA | apply zP | refine zK qR ?_) | (show RunL _ _ _ _ _ _ _; first | apply zB | refine zF qS qR ?_ ?_ | refine runL_gT 22 qR qD ?_ | refine runL_gF 22 qS qR qD qS ?_ | refine runL_gF0 22 qR qD qS ?_ | refine runL_gT 36 qR qD ?_ | refine runL_gF 36 qS qR qD qS ?_ | refine runL_gF0 36 qR qD qS ?_ | refine yG qS qZ qZ (fun bn hbn => ?_) | refine stepnif qF qR qS ?_) | (show RunD _ _ _ _ _ _ _ _ _ _; first | refine zU qS qR ?_ ?_ | refine zQ qK qK ?_) | exact True.intro | exact rfl | exact SLe.refl _ | exact SLe0.bool rfl | refine SLe0.bool ?_ | refine SLe0.int ?_ | refine SLe0.str ?_ | exact SLe0.pure rfl | (show SLe _ _; simp only [go_sem]; repeat' (first | exact trivial | exact True.intro | exact SLe.refl _ | exact OLe.refl _ | exact ⟨_, rfl, OLe.refl _⟩ | refine ⟨_, rfl, ?_⟩ | refine OLe.var ?_ | (show SLeL _ _; refine ⟨?_, ?_⟩) | (show SLeL [] []; exact True.intro) | (refine SLe.int ?_; rw [w64]; omega) | refine SLe.int ?_ | refine SLe.bool ?_ | apply And.intro)) | (show subO _ _; simp only [go_sem]; repeat' (first | exact trivial | exact True.intro | exact SLe.refl _ | exact OLe.refl _ | exact ⟨_, rfl, OLe.refl _⟩ | refine ⟨_, rfl, ?_⟩ | refine OLe.var ?_ | (show SLeL _ _; refine ⟨?_, ?_⟩) | (show SLeL [] []; exact True.intro) | (refine SLe.int ?_; rw [w64]; omega) | refine SLe.int ?_ | refine SLe.bool ?_ | apply And.intro)) | exact qP | fail); (repeat' (first | (show Run _ _ _ _ _ _; first | apply zC | apply zG | apply zD | apply zL | apply zA | apply zP | refine zK qR ?_) | (show RunL _ _ _ _ _ _ _; first | apply zB | refine zF qS qR ?_ ?_ | refine runL_gT 22 qR qD ?_ | refine runL_gF 22 qS qR qD qS ?_ | refine runL_gF0 22 qR qD qS ?_ | refine runL_gT 36 qR qD ?_ | refine runL_gF 36 qS qR qD qS ?_ | refine runL_gF0 36 qR qD qS ?_ | refine yG qS qZ qZ (fun bn hbn => ?_) | refine stepnif qF qR qS ?_) | (show RunD _ _ _ _ _ _ _ _ _ _; first | refine zU qS qR ?_ ?_ | refine zQ qK qK ?_) | exact True.intro | exact rfl | exact SLe.refl _ | exact hE | omega | exact SLe0.bool rfl | refine SLe0.bool ?_ | refine SLe0.int ?_ | refine SLe0.str ?_ | exact SLe0.pure rfl | (show SLe _ _; simp only [go_sem]; repeat' (first | exact trivial | exact True.intro | exact SLe.refl _ | exact OLe.refl _ | exact ⟨_, rfl, OLe.refl _⟩ | refine ⟨_, rfl, ?_⟩ | refine OLe.var ?_ | (show SLeL _ _; refine ⟨?_, ?_⟩) | (show SLeL [] []; exact True.intro) | (refine SLe.int ?_; rw [w64]; omega) | refine SLe.int ?_ | refine SLe.bool ?_ | apply And.intro)) | (show subO _ _; simp only [go_sem]; repeat' (first | exact trivial | exact True.intro | exact SLe.refl _ | exact OLe.refl _ | exact ⟨_, rfl, OLe.refl _⟩ | refine ⟨_, rfl, ?_⟩ | refine OLe.var ?_ | (show SLeL _ _; refine ⟨?_, ?_⟩) | (show SLeL [] []; exact True.intro) | (refine SLe.int ?_; rw [w64]; omega) | refine SLe.int ?_ | refine SLe.bool ?_ | apply And.intro)) | exact qP | fail)))) | (refine zT qS ?_ ?_ <;> intro hb <;> have hc := hb <;> (try simp only [bF] at hc) <;> (try (exfalso; simp at hc; done))))
  (refine yB (ds := ?ds14) (⟨(acc, ?u14), ⟨hco, by simp only; omega⟩⟩ : {y : List Course × Nat // (∀ c ∈ y.1, CodeOk c.Code) ∧ y.1.length ≤ 4}) qR ?qa14 ?qb14 ?qc14; (case qa14 => (simp only [go_sem]; rfl)); (case' qb14 => (simp only [go_sem]; repeat' (first | exact trivial | exact True.intro | exact SLe.refl _ | exact OLe.refl _ | exact ⟨_, rfl, OLe.refl _⟩ | refine ⟨_, rfl, ?_⟩ | refine OLe.var ?_ | (show SLeL _ _; refine ⟨?_, ?_⟩) | (show SLeL [] []; exact True.intro) | (refine SLe.int ?_; rw [w64]; omega) | refine SLe.int ?_ | refine SLe.bool ?_ | apply And.intro | exact OLe.snoc1 _ _ | exact OLe.snoc2 _ _ | exact SLe.nil0 | exact SLe.nils | exact SLe.take8 _ _ | exact SLe.lit1 _ | exact SLe.needs _ | exact SLe.pair1 _ _ _ _ | exact SLe.refl _ | refine SLe.agg ?_ | refine SLe.tup ?_))); (case' qc14 => (simp only [go_sem]; repeat' (first | exact trivial | exact True.intro | exact SLe.refl _ | exact OLe.refl _ | exact ⟨_, rfl, OLe.refl _⟩ | refine ⟨_, rfl, ?_⟩ | refine OLe.var ?_ | (show SLeL _ _; refine ⟨?_, ?_⟩) | (show SLeL [] []; exact True.intro) | (refine SLe.int ?_; rw [w64]; omega) | refine SLe.int ?_ | refine SLe.bool ?_ | apply And.intro | exact OLe.snoc1 _ _ | exact OLe.snoc2 _ _ | exact SLe.nil0 | exact SLe.nils | exact SLe.take8 _ _ | exact SLe.lit1 _ | exact SLe.needs _ | exact SLe.pair1 _ _ _ _ | exact SLe.refl _ | refine SLe.agg ?_ | refine SLe.tup ?_))))
end Go.Sx
namespace Go.Sx
open Go.Proofs Go.RowKit
attribute [local irreducible] Run RunL RunD RunE SLe0 SLe OLe
set_option maxHeartbeats 2000000
set_option maxRecDepth 8000
theorem GOk_leaf (n : Nat) {x : Need} (h : (∀ c ∈ x.Set, CodeOk c.Code) ∧ x.Set.length ≤ 4) (hL : x.L = []) : GOk n x := by
 cases n
 ·exact ⟨h, hL⟩
 ·exact ⟨h, by rw [hL]; simp, fun y hy => (by rw [hL] at hy; cases hy)⟩
theorem K93g (n : Nat) (hn : n ≤ 3) : ∃ G : (List Int × Nat) × Nat → Need × Nat, (∀ x : (List Int × Nat) × Nat, x.2 ≤ 6 → GOk n (G x).1) ∧ FnM Tryz.prog 93 (fun ds os d os' => ∃ x, x.2 ≤ 6 ∧ ds = [.loc 1000 0, eInt (n : Nat), eInt (x.2 : Nat)] ∧ os = [eDraw x.1.1 x.1.2] ∧ d = eNeedU (G x).1 ∧ os' = [(1000, eDraw x.1.1 (G x).2)]) := by
 induction n with
 | zero =>
  obtain ⟨G142, g142, K142⟩ := K142g
  refine fn_introE Tryz.call93 Tryz.func93 rfl Tryz.ntmps93 (α := (List Int × Nat) × Nat) (β := Need × Nat) (fun x => x.2 ≤ 6) (fun _ y => GOk 0 y.1) (fun x => [.loc 1000 0, eInt ((0 : Nat) : Int), eInt (x.2 : Nat)]) (fun x => [eDraw x.1.1 x.1.2]) (fun _ y => eNeedU y.1) (fun x y => [(1000, eDraw x.1.1 y.2)]) ?_
  rintro ⟨⟨L, p0⟩, m⟩ hm
  simp only at hm
  refine ⟨by simp, ?_⟩
  repeat' (first | (refine zH (K' := ?_) (s' := ?_) (fun F w0 fn hE => ?_) ?_; rotate_left 2; focus ((first | apply zC | apply zG | fail); (repeat' (first | apply zC | apply zA | apply zP | apply zB | refine zF qS qR ?_ ?_ | refine zU qS qR ?_ ?_ | refine zQ qK qK ?_ | refine zW [1000] K90 qR qD qZ qF ?_ ⟨L, _, _, (by first | decide | omega), rfl, rfl, rfl, rfl⟩ qS ?_ | refine runDcallM [1000] K90 qR qD qZ qF ?_ ⟨L, _, _, (by first | decide | omega), rfl, rfl, rfl, rfl⟩ qS ?_ | refine runDcallM [1000] K142 qR qD qZ qF ?_ ⟨(L, _), trivial, rfl, rfl, rfl, rfl⟩ qS ?_ | exact hE | (show allP _; simp only [allP, go_sem, codesLen]; (repeat' apply And.intro) <;> first | exact True.intro | exact (nx_bd _ _ _ (by omega)).1 | exact (nx_bd _ _ _ (by omega)).2 | (refine Int.lt_of_lt_of_le (nx_bd _ _ _ (by omega)).2 (by omega)) | (intros; omega)) | exact True.intro | exact rfl | exact qP | fail)))) | (refine zT qS ?_ ?_ <;> intro hb <;> have hc := hb <;> (try simp only [bF] at hc) <;> (try (exfalso; simp at hc; done))))
  ·(refine yB (ds := ?ds8) (⟨(.mk ?u2 ?u3 ?u4 ?u5 ?u6, ?u7), ?u8⟩ : {y : Need × Nat // GOk 0 y.1}) qR ?qa8 ?qb8 ?qc8; (case qa8 => (simp only [go_sem]; rfl)); (case' qb8 => (simp only [go_sem]; repeat' (first | exact trivial | exact True.intro | exact SLe.refl _ | exact OLe.refl _ | exact ⟨_, rfl, OLe.refl _⟩ | refine ⟨_, rfl, ?_⟩ | refine OLe.var ?_ | (show SLeL _ _; refine ⟨?_, ?_⟩) | (show SLeL [] []; exact True.intro) | (refine SLe.int ?_; rw [w64]; omega) | refine SLe.int ?_ | refine SLe.bool ?_ | apply And.intro | exact OLe.snoc1 _ _ | exact OLe.snoc2 _ _ | exact SLe.nil0 | exact SLe.nils | exact SLe.take8 _ _ | exact SLe.lit1 _ | exact SLe.needs _ | exact SLe.pair1 _ _ _ _ | exact SLe.refl _ | refine SLe.agg ?_ | refine SLe.tup ?_))); (case' qc8 => (simp only [go_sem]; repeat' (first | exact trivial | exact True.intro | exact SLe.refl _ | exact OLe.refl _ | exact ⟨_, rfl, OLe.refl _⟩ | refine ⟨_, rfl, ?_⟩ | refine OLe.var ?_ | (show SLeL _ _; refine ⟨?_, ?_⟩) | (show SLeL [] []; exact True.intro) | (refine SLe.int ?_; rw [w64]; omega) | refine SLe.int ?_ | refine SLe.bool ?_ | apply And.intro | exact OLe.snoc1 _ _ | exact OLe.snoc2 _ _ | exact SLe.nil0 | exact SLe.nils | exact SLe.take8 _ _ | exact SLe.lit1 _ | exact SLe.needs _ | exact SLe.pair1 _ _ _ _ | exact SLe.refl _ | refine SLe.agg ?_ | refine SLe.tup ?_))))
   exact GOk_leaf 0 (g142 _ trivial) rfl
  ·(refine yB (ds := ?ds16) (⟨(.mk ?u10 ?u11 ?u12 ?u13 ?u14, ?u15), ?u16⟩ : {y : Need × Nat // GOk 0 y.1}) qR ?qa16 ?qb16 ?qc16; (case qa16 => (simp only [go_sem]; rfl)); (case' qb16 => (simp only [go_sem]; repeat' (first | exact trivial | exact True.intro | exact SLe.refl _ | exact OLe.refl _ | exact ⟨_, rfl, OLe.refl _⟩ | refine ⟨_, rfl, ?_⟩ | refine OLe.var ?_ | (show SLeL _ _; refine ⟨?_, ?_⟩) | (show SLeL [] []; exact True.intro) | (refine SLe.int ?_; rw [w64]; omega) | refine SLe.int ?_ | refine SLe.bool ?_ | apply And.intro | exact OLe.snoc1 _ _ | exact OLe.snoc2 _ _ | exact SLe.nil0 | exact SLe.nils | exact SLe.take8 _ _ | exact SLe.lit1 _ | exact SLe.needs _ | exact SLe.pair1 _ _ _ _ | exact SLe.refl _ | refine SLe.agg ?_ | refine SLe.tup ?_))); (case' qc16 => (simp only [go_sem]; repeat' (first | exact trivial | exact True.intro | exact SLe.refl _ | exact OLe.refl _ | exact ⟨_, rfl, OLe.refl _⟩ | refine ⟨_, rfl, ?_⟩ | refine OLe.var ?_ | (show SLeL _ _; refine ⟨?_, ?_⟩) | (show SLeL [] []; exact True.intro) | (refine SLe.int ?_; rw [w64]; omega) | refine SLe.int ?_ | refine SLe.bool ?_ | apply And.intro | exact OLe.snoc1 _ _ | exact OLe.snoc2 _ _ | exact SLe.nil0 | exact SLe.nils | exact SLe.take8 _ _ | exact SLe.lit1 _ | exact SLe.needs _ | exact SLe.pair1 _ _ _ _ | exact SLe.refl _ | refine SLe.agg ?_ | refine SLe.tup ?_))))
   exact GOk_leaf 0 (g142 _ trivial) rfl
 | succ n ihn =>
 obtain ⟨G, g93, K93⟩ := ihn (by omega)
 obtain ⟨G142, g142, K142⟩ := K142g
 refine fn_introE Tryz.call93 Tryz.func93 rfl Tryz.ntmps93 (α := (List Int × Nat) × Nat) (β := Need × Nat) (fun x => x.2 ≤ 6) (fun _ y => GOk (n + 1) y.1) (fun x => [.loc 1000 0, eInt ((n + 1 : Nat) : Int), eInt (x.2 : Nat)]) (fun x => [eDraw x.1.1 x.1.2]) (fun _ y => eNeedU y.1) (fun x y => [(1000, eDraw x.1.1 y.2)]) ?_
 rintro ⟨⟨L, p0⟩, m⟩ hm
 simp only at hm
 refine ⟨by simp, ?_⟩
 repeat' (first | (refine zH (K' := ?_) (s' := ?_) (fun F w0 fn hE => ?_) ?_; rotate_left 2; focus ((first | apply zC | apply zG | fail); (repeat' (first | apply zC | apply zD | apply zA | apply zP | apply zB | refine zF qS qR ?_ ?_ | refine zU qS qR ?_ ?_ | refine zQ qK qK ?_ | refine zW [1000] K90 qR qD qZ qF ?_ ⟨L, _, _, (by first | decide | omega), rfl, rfl, rfl, rfl⟩ qS ?_ | refine runDcallM [1000] K90 qR qD qZ qF ?_ ⟨L, _, _, (by first | decide | omega), rfl, rfl, rfl, rfl⟩ qS ?_ | refine runDcallM [1000] K142 qR qD qZ qF ?_ ⟨(L, _), trivial, rfl, rfl, rfl, rfl⟩ qS ?_ | exact hE | (show allP _; simp only [allP, go_sem, codesLen]; (repeat' apply And.intro) <;> first | exact True.intro | exact (nx_bd _ _ _ (by omega)).1 | exact (nx_bd _ _ _ (by omega)).2 | (refine Int.lt_of_lt_of_le (nx_bd _ _ _ (by omega)).2 (by omega)) | (intros; omega)) | exact True.intro | exact rfl | exact qP | fail)))) | (refine zT qS ?_ ?_ <;> intro hb <;> have hc := hb <;> (try simp only [bF] at hc) <;> (try (exfalso; simp at hc; done))))
 ·(refine yB (ds := ?ds24) (⟨(.mk ?u18 ?u19 ?u20 ?u21 ?u22, ?u23), ?u24⟩ : {y : Need × Nat // GOk (n + 1) y.1}) qR ?qa24 ?qb24 ?qc24; (case qa24 => (simp only [go_sem]; rfl)); (case' qb24 => (simp only [go_sem]; repeat' (first | exact trivial | exact True.intro | exact SLe.refl _ | exact OLe.refl _ | exact ⟨_, rfl, OLe.refl _⟩ | refine ⟨_, rfl, ?_⟩ | refine OLe.var ?_ | (show SLeL _ _; refine ⟨?_, ?_⟩) | (show SLeL [] []; exact True.intro) | (refine SLe.int ?_; rw [w64]; omega) | refine SLe.int ?_ | refine SLe.bool ?_ | apply And.intro | exact OLe.snoc1 _ _ | exact OLe.snoc2 _ _ | exact SLe.nil0 | exact SLe.nils | exact SLe.take8 _ _ | exact SLe.lit1 _ | exact SLe.needs _ | exact SLe.pair1 _ _ _ _ | exact SLe.refl _ | refine SLe.agg ?_ | refine SLe.tup ?_))); (case' qc24 => (simp only [go_sem]; repeat' (first | exact trivial | exact True.intro | exact SLe.refl _ | exact OLe.refl _ | exact ⟨_, rfl, OLe.refl _⟩ | refine ⟨_, rfl, ?_⟩ | refine OLe.var ?_ | (show SLeL _ _; refine ⟨?_, ?_⟩) | (show SLeL [] []; exact True.intro) | (refine SLe.int ?_; rw [w64]; omega) | refine SLe.int ?_ | refine SLe.bool ?_ | apply And.intro | exact OLe.snoc1 _ _ | exact OLe.snoc2 _ _ | exact SLe.nil0 | exact SLe.nils | exact SLe.take8 _ _ | exact SLe.lit1 _ | exact SLe.needs _ | exact SLe.pair1 _ _ _ _ | exact SLe.refl _ | refine SLe.agg ?_ | refine SLe.tup ?_))))
  exact GOk_leaf (n + 1) (g142 _ trivial) rfl
 ·(refine yB (ds := ?ds32) (⟨(.mk ?u26 ?u27 ?u28 ?u29 ?u30, ?u31), ?u32⟩ : {y : Need × Nat // GOk (n + 1) y.1}) qR ?qa32 ?qb32 ?qc32; (case qa32 => (simp only [go_sem]; rfl)); (case' qb32 => (simp only [go_sem]; repeat' (first | exact trivial | exact True.intro | exact SLe.refl _ | exact OLe.refl _ | exact ⟨_, rfl, OLe.refl _⟩ | refine ⟨_, rfl, ?_⟩ | refine OLe.var ?_ | (show SLeL _ _; refine ⟨?_, ?_⟩) | (show SLeL [] []; exact True.intro) | (refine SLe.int ?_; rw [w64]; omega) | refine SLe.int ?_ | refine SLe.bool ?_ | apply And.intro | exact OLe.snoc1 _ _ | exact OLe.snoc2 _ _ | exact SLe.nil0 | exact SLe.nils | exact SLe.take8 _ _ | exact SLe.lit1 _ | exact SLe.needs _ | exact SLe.pair1 _ _ _ _ | exact SLe.refl _ | refine SLe.agg ?_ | refine SLe.tup ?_))); (case' qc32 => (simp only [go_sem]; repeat' (first | exact trivial | exact True.intro | exact SLe.refl _ | exact OLe.refl _ | exact ⟨_, rfl, OLe.refl _⟩ | refine ⟨_, rfl, ?_⟩ | refine OLe.var ?_ | (show SLeL _ _; refine ⟨?_, ?_⟩) | (show SLeL [] []; exact True.intro) | (refine SLe.int ?_; rw [w64]; omega) | refine SLe.int ?_ | refine SLe.bool ?_ | apply And.intro | exact OLe.snoc1 _ _ | exact OLe.snoc2 _ _ | exact SLe.nil0 | exact SLe.nils | exact SLe.take8 _ _ | exact SLe.lit1 _ | exact SLe.needs _ | exact SLe.pair1 _ _ _ _ | exact SLe.refl _ | refine SLe.agg ?_ | refine SLe.tup ?_))))
  exact GOk_leaf (n + 1) (g142 _ trivial) rfl
 have b1 := nx_bd L p0 6 (by omega)
 simp only [Bool.or_eq_false_iff, decide_eq_false_iff_not] at hb
 have b2 := nx_bd L (nxA L p0) (if (m : Int) < 3 then (m : Int) else 3) (by split <;> omega)
 repeat' (first | (refine zH (K' := ?_) (s' := ?_) (fun F w0 fn hE => ?_) ?_; rotate_left 2; focus ((first | (show Run _ _ _ _ _ _; first | apply zC | apply zG | apply zD | apply zL | apply zA | apply zP | refine zK qR ?_) | (show RunL _ _ _ _ _ _ _; first | apply zB | refine zF qS qR ?_ ?_ | refine zW [1000] K90 qR qD qZ qF ?_ ⟨L, _, _, (by first | decide | (split <;> omega)), rfl, rfl, rfl, rfl⟩ qS ?_ | refine runL_gT 15 qR qD ?_ | refine runL_gF 15 qS qR qD qS ?_ | refine runL_gF0 15 qR qD qS ?_ | refine runL_gT 19 qR qD ?_ | refine runL_gF 19 qS qR qD qS ?_ | refine runL_gF0 19 qR qD qS ?_ | refine yG qS qZ qZ (fun bn hbn => ?_) | refine stepnif qF qR qS ?_) | (show RunD _ _ _ _ _ _ _ _ _ _; first | refine zU qS qR ?_ ?_ | refine zQ qK qK ?_ | refine runDcallM [1000] K90 qR qD qZ qF ?_ ⟨L, _, _, (by first | decide | (split <;> omega)), rfl, rfl, rfl, rfl⟩ qS ?_) | (show allP _; simp only [allP, go_sem, codesLen]; (repeat' apply And.intro) <;> first | exact True.intro | exact (nx_bd _ _ _ (by omega)).1 | exact (nx_bd _ _ _ (by omega)).2 | (refine Int.lt_of_lt_of_le (nx_bd _ _ _ (by omega)).2 (by omega)) | (intros; omega)) | exact True.intro | exact rfl | exact SLe.refl _ | exact SLe0.bool rfl | refine SLe0.bool ?_ | refine SLe0.int ?_ | refine SLe0.str ?_ | exact SLe0.pure rfl | (show SLe _ _; simp only [go_sem]; repeat' (first | exact trivial | exact True.intro | exact SLe.refl _ | exact OLe.refl _ | exact ⟨_, rfl, OLe.refl _⟩ | refine ⟨_, rfl, ?_⟩ | refine OLe.var ?_ | (show SLeL _ _; refine ⟨?_, ?_⟩) | (show SLeL [] []; exact True.intro) | (refine SLe.int ?_; rw [w64]; omega) | refine SLe.int ?_ | refine SLe.bool ?_ | apply And.intro)) | (show subO _ _; simp only [go_sem]; repeat' (first | exact trivial | exact True.intro | exact SLe.refl _ | exact OLe.refl _ | exact ⟨_, rfl, OLe.refl _⟩ | refine ⟨_, rfl, ?_⟩ | refine OLe.var ?_ | (show SLeL _ _; refine ⟨?_, ?_⟩) | (show SLeL [] []; exact True.intro) | (refine SLe.int ?_; rw [w64]; omega) | refine SLe.int ?_ | refine SLe.bool ?_ | apply And.intro)) | exact qP | fail); (repeat' (first | (show Run _ _ _ _ _ _; first | apply zC | apply zG | apply zD | apply zL | apply zA | apply zP | refine zK qR ?_) | (show RunL _ _ _ _ _ _ _; first | apply zB | refine zF qS qR ?_ ?_ | refine zW [1000] K90 qR qD qZ qF ?_ ⟨L, _, _, (by first | decide | (split <;> omega)), rfl, rfl, rfl, rfl⟩ qS ?_ | refine runL_gT 15 qR qD ?_ | refine runL_gF 15 qS qR qD qS ?_ | refine runL_gF0 15 qR qD qS ?_ | refine runL_gT 19 qR qD ?_ | refine runL_gF 19 qS qR qD qS ?_ | refine runL_gF0 19 qR qD qS ?_ | refine yG qS qZ qZ (fun bn hbn => ?_) | refine stepnif qF qR qS ?_) | (show RunD _ _ _ _ _ _ _ _ _ _; first | refine zU qS qR ?_ ?_ | refine zQ qK qK ?_ | refine runDcallM [1000] K90 qR qD qZ qF ?_ ⟨L, _, _, (by first | decide | (split <;> omega)), rfl, rfl, rfl, rfl⟩ qS ?_) | (show allP _; simp only [allP, go_sem, codesLen]; (repeat' apply And.intro) <;> first | exact True.intro | exact (nx_bd _ _ _ (by omega)).1 | exact (nx_bd _ _ _ (by omega)).2 | (refine Int.lt_of_lt_of_le (nx_bd _ _ _ (by omega)).2 (by omega)) | (intros; omega)) | exact True.intro | exact rfl | exact SLe.refl _ | exact hE | omega | exact SLe0.bool rfl | refine SLe0.bool ?_ | refine SLe0.int ?_ | refine SLe0.str ?_ | exact SLe0.pure rfl | (show SLe _ _; simp only [go_sem]; repeat' (first | exact trivial | exact True.intro | exact SLe.refl _ | exact OLe.refl _ | exact ⟨_, rfl, OLe.refl _⟩ | refine ⟨_, rfl, ?_⟩ | refine OLe.var ?_ | (show SLeL _ _; refine ⟨?_, ?_⟩) | (show SLeL [] []; exact True.intro) | (refine SLe.int ?_; rw [w64]; omega) | refine SLe.int ?_ | refine SLe.bool ?_ | apply And.intro)) | (show subO _ _; simp only [go_sem]; repeat' (first | exact trivial | exact True.intro | exact SLe.refl _ | exact OLe.refl _ | exact ⟨_, rfl, OLe.refl _⟩ | refine ⟨_, rfl, ?_⟩ | refine OLe.var ?_ | (show SLeL _ _; refine ⟨?_, ?_⟩) | (show SLeL [] []; exact True.intro) | (refine SLe.int ?_; rw [w64]; omega) | refine SLe.int ?_ | refine SLe.bool ?_ | apply And.intro)) | exact qP | fail)))) | (refine zT qS ?_ ?_ <;> intro hb <;> have hc := hb <;> (try simp only [bF] at hc) <;> (try (exfalso; simp at hc; done))))
 generalize hM : IntKind.i64.wrap (1 + nxN L (nxA L p0) (if (m : Int) < 3 then (m : Int) else 3)) = M
 have hM1 : 1 ≤ M ∧ M ≤ 3 := by
  have hb2 : 0 ≤ nxN L (nxA L p0) (if (m : Int) < 3 then (m : Int) else 3) ∧ nxN L (nxA L p0) (if (m : Int) < 3 then (m : Int) else 3) < 3 := ⟨b2.1, Int.lt_of_lt_of_le b2.2 (by split <;> omega)⟩
  generalize nxN L (nxA L p0) (if (m : Int) < 3 then (m : Int) else 3) = z at hM hb2
  rw [w64] at hM
  omega
 have e3 : (m : Int).tdiv M = ((m / M.toNat : Nat) : Int) := by
  obtain ⟨q, rfl⟩ : ∃ q : Nat, M = (q : Int) := ⟨M.toNat, by omega⟩
  rfl
 have e4 : IntKind.i64.wrap (((n + 1 : Nat) : Int) - 1) = (n : Int) := by rw [w64]; omega
 have e5 : IntKind.i64.wrap (((m / M.toNat : Nat) : Int)) = ((m / M.toNat : Nat) : Int) := by
  have := Nat.div_le_self m M.toNat
  generalize m / M.toNat = z at this ⊢
  rw [w64]; omega
 have hd : m / M.toNat ≤ 6 := Nat.le_trans (Nat.div_le_self _ _) hm
 refine zH (fun _ _ _ hE => run_nilaccV 1 4 30 5 (fun i => eNeedU (([] : List Need).getD i default)) rfl rfl (by simp only [List.set]; rfl) rfl hE) ?_
 refine runE_loop [0, 1, 2, 6, 7, 8, 9] (fun x : List Need × Nat × Nat => [(10, .int .i64 x.2.2)]) (fun x : List Need × Nat × Nat => [(1000, eDraw L x.2.1), (1, .var [.int .i64 3, .int .i64 0, .int .i64 0, .nils, .acc 2]), (2, .acc 30 5 x.1.length (fun i => eNeedU (x.1.getD i default)))]) (fun x : List Need × Nat × Nat => (x.2.2 ≤ 3 ∧ x.1.length ≤ x.2.2) ∧ ∀ m ∈ x.1, GOk n m) (fun x : List Need × Nat × Nat => 3 - x.2.2) ([], nxA L (nxA L p0), 0) (fun x => qS) ?_ qE qE ?_
 ·exact ⟨⟨by simp, by simp⟩, fun m hm => by cases hm⟩
 rintro ⟨acc, p, k⟩ n2 ⟨⟨h1, h2⟩, hno⟩ ih
 simp only at h1 h2 hno
 repeat' (first | (refine zH (K' := ?_) (s' := ?_) (fun F w0 fn hE => ?_) ?_; rotate_left 2; focus ((first | apply zC | apply zG | refine zK qR ?_ | fail); (repeat' (first | apply zC | apply zD | apply zL | apply zA | apply zP | apply zB | refine zF (by simp only [go_sem, e3, e4, e5]; rfl) qR ?_ ?_ | refine zU (by simp only [go_sem, e3, e4, e5]; rfl) qR ?_ ?_ | refine zQ qK qK ?_ | refine runDapN (by simp only [go_sem, e3, e4, e5]; rfl) ?_ (by simp only [go_sem, e3, e4, e5]; rfl) ?_ | refine runDcallM [1000] K93 qR (by simp only [go_sem, e3, e4, e5]; first | done | rfl) (by simp only [go_sem, e3, e4, e5]) (by first | (simp only [go_sem, e3, e4, e5]; done) | (simp only [go_sem, e3, e4, e5]; rfl)) ?_ ⟨((L, _), (m / M.toNat)), hd, rfl, rfl, rfl, rfl⟩ (by simp only [go_sem, e3, e4, e5]; rfl) ?_ | refine zW [1000] K90 qR (by simp only [go_sem, e3, e4, e5]; first | done | rfl) (by simp only [go_sem, e3, e4, e5]) (by first | (simp only [go_sem, e3, e4, e5]; done) | (simp only [go_sem, e3, e4, e5]; rfl)) ?_ ⟨L, _, _, (by omega), rfl, rfl, rfl, rfl⟩ (by simp only [go_sem, e3, e4, e5]; rfl) ?_ | exact True.intro | exact rfl | exact hE | exact qP | fail)))) | (refine zT qS ?_ ?_ <;> intro hb <;> have hc := hb <;> (try simp only [bF] at hc) <;> (try (exfalso; simp at hc; done))))
 ·refine zH (fun _ _ _ hE => run_ren 3 2 qS hE) ?_
  refine zY ih ((acc ++ [?u34], ?u35, k + 1)) ?_ ?_ ⟨rfl, by simp only [go_sem]; repeat' (first | exact trivial | exact True.intro | exact SLe.refl _ | exact OLe.refl _ | exact ⟨_, rfl, OLe.refl _⟩ | refine ⟨_, rfl, ?_⟩ | refine OLe.var ?_ | (show SLeL _ _; refine ⟨?_, ?_⟩) | (show SLeL [] []; exact True.intro) | (refine SLe.int ?_; rw [w64]; omega) | refine SLe.int ?_ | refine SLe.bool ?_ | apply And.intro | refine ⟨_, rfl, OLe.snoc eNeedU _ _ ?_⟩ | refine OLe.snoc eNeedU _ _ ?_ | exact OLe.snoc1 _ _ | exact OLe.snoc2 _ _ | exact SLe.nil0 | exact SLe.nils | exact SLe.take8 _ _ | exact SLe.lit1 _ | exact SLe.needs _ | exact SLe.pair1 _ _ _ _ | exact SLe.refl _ | refine SLe.agg ?_ | refine SLe.tup ?_), by simp only [go_sem]; repeat' (first | exact trivial | exact True.intro | exact SLe.refl _ | exact OLe.refl _ | exact ⟨_, rfl, OLe.refl _⟩ | refine ⟨_, rfl, ?_⟩ | refine OLe.var ?_ | (show SLeL _ _; refine ⟨?_, ?_⟩) | (show SLeL [] []; exact True.intro) | (refine SLe.int ?_; rw [w64]; omega) | refine SLe.int ?_ | refine SLe.bool ?_ | apply And.intro | refine ⟨_, rfl, OLe.snoc eNeedU _ _ ?_⟩ | refine OLe.snoc eNeedU _ _ ?_ | exact OLe.snoc1 _ _ | exact OLe.snoc2 _ _ | exact SLe.nil0 | exact SLe.nils | exact SLe.take8 _ _ | exact SLe.lit1 _ | exact SLe.needs _ | exact SLe.pair1 _ _ _ _ | exact SLe.refl _ | refine SLe.agg ?_ | refine SLe.tup ?_)⟩
  ·refine ⟨⟨by simp only; omega, by simp; omega⟩, fun m hm => ?_⟩
   rcases List.mem_append.1 hm with hm | hm
   ·exact hno m hm
   ·rw [List.mem_singleton] at hm; subst hm; exact g93 _ hd
  ·simp only; omega
 ·refine zH (fun _ _ _ hE => zO 2 qS hE) ?_
  (refine yB (ds := ?ds43) (⟨(.mk ?u37 ?u38 ?u39 ?u40 ?u41, ?u42), ?u43⟩ : {y : Need × Nat // GOk (n + 1) y.1}) qR ?qa43 ?qb43 ?qc43; (case qa43 => (simp only [go_sem]; rfl)); (case' qb43 => (simp only [go_sem]; repeat' (first | exact trivial | exact True.intro | exact SLe.refl _ | exact OLe.refl _ | exact ⟨_, rfl, OLe.refl _⟩ | refine ⟨_, rfl, ?_⟩ | refine OLe.var ?_ | (show SLeL _ _; refine ⟨?_, ?_⟩) | (show SLeL [] []; exact True.intro) | (refine SLe.int ?_; rw [w64]; omega) | refine SLe.int ?_ | refine SLe.bool ?_ | apply And.intro | exact OLe.snoc1 _ _ | exact OLe.snoc2 _ _ | exact SLe.nil0 | exact SLe.nils | exact SLe.take8 _ _ | exact SLe.lit1 _ | exact SLe.needs _ | exact SLe.pair1 _ _ _ _ | exact SLe.refl _ | refine SLe.agg ?_ | refine SLe.tup ?_))); (case' qc43 => (simp only [go_sem]; repeat' (first | exact trivial | exact True.intro | exact SLe.refl _ | exact OLe.refl _ | exact ⟨_, rfl, OLe.refl _⟩ | refine ⟨_, rfl, ?_⟩ | refine OLe.var ?_ | (show SLeL _ _; refine ⟨?_, ?_⟩) | (show SLeL [] []; exact True.intro) | (refine SLe.int ?_; rw [w64]; omega) | refine SLe.int ?_ | refine SLe.bool ?_ | apply And.intro | exact OLe.snoc1 _ _ | exact OLe.snoc2 _ _ | exact SLe.nil0 | exact SLe.nils | exact SLe.take8 _ _ | exact SLe.lit1 _ | exact SLe.needs _ | exact SLe.pair1 _ _ _ _ | exact SLe.refl _ | refine SLe.agg ?_ | refine SLe.tup ?_))))
  exact ⟨⟨fun c hc => (by cases hc), Nat.zero_le _⟩, (by show acc.length ≤ 3; omega), hno⟩
 ·refine zH (fun _ _ _ hE => zO 2 qS hE) ?_
  (refine yB (ds := ?ds51) (⟨(.mk ?u45 ?u46 ?u47 ?u48 ?u49, ?u50), ?u51⟩ : {y : Need × Nat // GOk (n + 1) y.1}) qR ?qa51 ?qb51 ?qc51; (case qa51 => (simp only [go_sem]; rfl)); (case' qb51 => (simp only [go_sem]; repeat' (first | exact trivial | exact True.intro | exact SLe.refl _ | exact OLe.refl _ | exact ⟨_, rfl, OLe.refl _⟩ | refine ⟨_, rfl, ?_⟩ | refine OLe.var ?_ | (show SLeL _ _; refine ⟨?_, ?_⟩) | (show SLeL [] []; exact True.intro) | (refine SLe.int ?_; rw [w64]; omega) | refine SLe.int ?_ | refine SLe.bool ?_ | apply And.intro | exact OLe.snoc1 _ _ | exact OLe.snoc2 _ _ | exact SLe.nil0 | exact SLe.nils | exact SLe.take8 _ _ | exact SLe.lit1 _ | exact SLe.needs _ | exact SLe.pair1 _ _ _ _ | exact SLe.refl _ | refine SLe.agg ?_ | refine SLe.tup ?_))); (case' qc51 => (simp only [go_sem]; repeat' (first | exact trivial | exact True.intro | exact SLe.refl _ | exact OLe.refl _ | exact ⟨_, rfl, OLe.refl _⟩ | refine ⟨_, rfl, ?_⟩ | refine OLe.var ?_ | (show SLeL _ _; refine ⟨?_, ?_⟩) | (show SLeL [] []; exact True.intro) | (refine SLe.int ?_; rw [w64]; omega) | refine SLe.int ?_ | refine SLe.bool ?_ | apply And.intro | exact OLe.snoc1 _ _ | exact OLe.snoc2 _ _ | exact SLe.nil0 | exact SLe.nils | exact SLe.take8 _ _ | exact SLe.lit1 _ | exact SLe.needs _ | exact SLe.pair1 _ _ _ _ | exact SLe.refl _ | refine SLe.agg ?_ | refine SLe.tup ?_))))
  exact ⟨⟨fun c hc => (by cases hc), Nat.zero_le _⟩, (by show acc.length ≤ 3; omega), hno⟩
end Go.Sx
