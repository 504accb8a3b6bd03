/- Part of the proof that the laws of the judge return true for every input: J43, J45. -/
import Derived.Test.YtmbocmonhcplhaaGreatJ11
import Derived.Test.YtmbocmonhcplhaaGreatS4
import Derived.Test.YtmbocmonhcplhaaGreatJ50
import Derived.Test.YtmbocmonhcplhaaGreatJ41
set_option linter.all false
namespace Go.Sx
open Go.Proofs Go.RowKit
attribute [local irreducible] Run RunL RunD OpT SLe0 SLe OLe
set_option maxHeartbeats 2000000
set_option maxRecDepth 8000
set_option maxHeartbeats 8000000
attribute [go_sem] lendS slA clF
@[go_sem] def aAch (l : List Ach) : OB := .acc 65 8 l.length (fun i => eAch (l.getD i default))
def tooOld (p : Programme) (day : Int) (a : Ach) : Bool := decide (0 < p.Age) && decide (p.Age < wr (termP day - termP a.Day))
theorem K43 : FnOK Tryz.prog 43 (fun ds d => ∃ (p : Programme) (day : Int) (a : Ach), ds = [eAch a, .fp (pCells p), .fp [.int .i64 day]] ∧ d = .bool (tooOld p day a)) := by
 refine fn_intro Tryz.call43 Tryz.func43 rfl Tryz.ntmps43 ?_
 rintro ds d ⟨p, day, a, rfl, rfl⟩
 refine ⟨by simp, fun w0 => ?_⟩
 cases h : decide (0 < p.Age)
 ·repeat' (first | apply zC | apply zA | apply zP | apply zB | refine zF (by simp only [go_sem, h]; rfl) qR ?_ ?_ | refine zU (by simp only [go_sem, h]; rfl) qR ?_ ?_ | refine zQ qK qK ?_ | refine runDcallg 8 qR (by simp only [go_sem, h]; rfl) K44 (by simp only [go_sem, h]; first | done | rfl) (fun hg => ?_) (fun _ => ⟨_, rfl, rfl⟩) (by simp only [go_sem, h]; rfl) ?_ | refine zI qR ?_ | exact True.intro | exact rfl | refine SLe0.bool ?_ | exact qP | fail)
  ·simp only [tooOld, h]; rfl
 ·repeat' (first | apply zC | apply zA | apply zP | apply zB | refine zF (by simp only [go_sem, h]; rfl) qR ?_ ?_ | refine zU (by simp only [go_sem, h]; rfl) qR ?_ ?_ | refine zQ qK qK ?_ | refine runDcallg 8 qR (by simp only [go_sem, h]; rfl) K44 (by simp only [go_sem, h]; first | done | rfl) (fun hg => ?_) (fun _ => ⟨_, rfl, rfl⟩) (by simp only [go_sem, h]; rfl) ?_ | refine zI qR ?_ | exact True.intro | exact rfl | refine SLe0.bool ?_ | exact qP | fail)
  ·simp only [tooOld, h]; rfl
theorem idxF_iff {α : Type} [Inhabited α] (p : α → Bool) : ∀ (l : List α) (k : Nat), (idxF p l k = -1 ∧ ∀ x ∈ l, p x = false) ∨ ∃ i : Nat, i < l.length ∧ idxF p l k = ((k + i : Nat) : Int) ∧ p (l.getD i default) = true ∧ ∀ j, j < i → p (l.getD j default) = false
 | [], k => .inl ⟨rfl, fun x hx => by cases hx⟩
 | a :: r, k => by
  cases h : p a
  ·rcases idxF_iff p r (k + 1) with ⟨h1, h2⟩ | ⟨i, h1, h2, h3, h4⟩
   ·left
    refine ⟨by rw [idxF, h]; exact h1, fun x hx => ?_⟩
    rcases List.mem_cons.1 hx with rfl | hx
    ·exact h
    ·exact h2 x hx
   ·right
    refine ⟨i + 1, by simpa using h1, ?_, by simpa using h3, fun j hj => ?_⟩
    ·rw [idxF, h]
     show idxF p r (k + 1) = _
     rw [h2]; congr 1; omega
    ·cases j with
     | zero => exact h
     | succ j => rw [List.getD_cons_succ]; exact h4 j (by omega)
  ·right
   exact ⟨0, by simp, by rw [idxF, h]; rfl, h, fun j hj => absurd hj (Nat.not_lt_zero j)⟩
theorem ole_ach (xs : List Ach) (k : Nat) (v : Ach) (hk : k < xs.length) : OLe (.acc 65 8 xs.length (setF k (eAch v) fun i => eAch (xs.getD i default))) (aAch (xs.set k v)) := OLe.accS (by simp) fun i hi => by
 simp only [setF]
 by_cases h : i = k
 ·subst h
  simp [List.getD_eq_getElem?_getD, hk]
 ·have h' : ¬ k = i := fun hc => h hc.symm
  simp [h, List.getD_eq_getElem?_getD, List.getElem?_set, h']
theorem K42 : FnM Tryz.prog 42 (fun ds os d os' => ∃ (l : List Ach) (f : Nat) (caps : List SD) (p : Ach → Bool), ((∀ a, FnV Tryz.prog f caps [eAch a] (.bool (p a))) ∧ (∀ k d0 L dm, frzL k d0 L dm caps = caps) ∧ ∀ k, menL k caps = false) ∧ ds = [.acc 1000, .fn f caps] ∧ os = [aAch l] ∧ d = .acc 1000 ∧ os' = [(1000, aAch (l.filter fun a => !p a))]) := by
 refine fn_introM Tryz.call42 Tryz.func42 rfl Tryz.ntmps42 ?_
 rintro ds os d os' ⟨l, f, caps, p, ⟨hp, hcf, hcm⟩, rfl, rfl, rfl, rfl⟩
 refine ⟨by simp, fun F w0 => ?_⟩
 have hp' : ∀ i, i < l.length → FnV Tryz.prog f caps [eAch (l.getD i default)] (.bool (p (l.getD i default))) := fun i _ => hp _
 refine run_lenA 1000 rfl fun hl => ?_
 rcases idxF_iff p l 0 with ⟨h1, h2⟩ | ⟨i, h1, h2, h3, h4⟩
 ·have hf : (l.filter fun a => !p a) = l := List.filter_eq_self.2 fun a ha => by rw [h2 a ha]; rfl
  rw [hf]
  repeat' (first | apply zC | apply zA | apply zB | refine zF (by simp only [go_sem, h1, hcf]; rfl) qR ?_ ?_ | refine stepcallB1 1000 (by simp only [go_sem, h1, hcf]; rfl) K101 (by simp only [go_sem, h1, hcf]; first | done | rfl) ?_ ⟨l, f, caps, p, hp', rfl, rfl⟩ qR (by simp only [go_sem, h1, hcf]; rfl) ?_ | (refine zE (by simp only [go_sem, h1, hcf]; rfl) ?_ ?_ <;> intro hb <;> have hc := hb <;> (try simp only [bF] at hc) <;> (try (exfalso; simp at hc; done))) | refine yC qR (by simp only [go_sem, h1, hcf]; rfl) ?_ ?_ | exact True.intro | exact rfl | exact SLe.refl _ | (show subO _ _; simp only [go_sem, h1, hcf]; repeat' (first | exact trivial | exact True.intro | exact SLe.refl _ | exact OLe.refl _ | exact ⟨_, rfl, OLe.refl _⟩ | refine ⟨_, rfl, ?_⟩ | refine OLe.var ?_ | (show SLeL _ _; refine ⟨?_, ?_⟩) | (show SLeL [] []; exact True.intro) | (refine SLe.int ?_; rw [w64]; omega) | refine SLe.int ?_ | refine SLe.bool ?_ | apply And.intro)) | fail)
  all_goals skip
 ·rw [Nat.zero_add] at h2
  have e1 : ((i : Int) == -1) = false := by rw [beq_eq_false_iff_ne]; omega
  have e2 : IntKind.i64.wrap ((i : Int) + 1) = ((i + 1 : Nat) : Int) := by rw [w64]; omega
  have hne : 0 < l.length := by omega
  have hf0 : (l.take (i + 1)).filter (fun a => !p a) = l.take i := by
   rw [List.take_add_one, List.filter_append, List.getElem?_eq_getElem h1]
   have q1 : (l.take i).filter (fun a => !p a) = l.take i := List.filter_eq_self.2 fun a ha => by
    obtain ⟨j, hj⟩ := List.getElem?_of_mem ha
    rw [List.getElem?_take] at hj
    split at hj
    ·rename_i hji
     have := h4 j hji
     rw [List.getD_eq_getElem?_getD, hj] at this
     rw [show p a = false from this]; rfl
    ·cases hj
   rw [List.getD_eq_getElem?_getD, List.getElem?_eq_getElem h1] at h3
   rw [q1]
   simp only [Option.toList, List.filter_cons, List.filter_nil]
   rw [show p l[i] = true from h3]; simp
  repeat' (first | apply zC | apply zG | apply zD | apply zA | apply zB | refine zF (by simp only [go_sem, h2, e1, e2, hcf]; rfl) qR ?_ ?_ | refine stepcallB1 1000 (by simp only [go_sem, h2, e1, e2, hcf]; rfl) K101 (by simp only [go_sem, h2, e1, e2, hcf]; first | done | rfl) ?_ ⟨l, f, caps, p, hp', rfl, rfl⟩ qR (by simp only [go_sem, h2, e1, e2, hcf]; rfl) ?_ | (refine zE (by simp only [go_sem, h2, e1, e2, hcf]; rfl) ?_ ?_ <;> intro hb <;> have hc := hb <;> (try simp only [bF] at hc) <;> (try (exfalso; simp at hc; done))) | exact True.intro | exact rfl | fail)
  refine zN [0, 1] (fun x : Nat × Nat × List Ach => [(6, .int .i64 x.1), (5, .int .i64 x.2.1)]) (fun x : Nat × Nat × List Ach => [(1000, aAch x.2.2)]) (fun x : Nat × Nat × List Ach => (x.2.1 < x.1 ∧ x.1 ≤ l.length ∧ x.2.2.length = l.length) ∧ x.2.2.take x.2.1 = (l.take x.1).filter (fun a => !p a) ∧ x.2.2.drop x.1 = l.drop x.1) (fun x : Nat × Nat × List Ach => l.length - x.1) (i + 1, i, l) (fun x => qS) ?_ qL qL ?_
  ·exact ⟨⟨by simp only; omega, by simp only; omega, rfl⟩, hf0.symm, rfl⟩
  rintro ⟨j, q, xs⟩ ⟨⟨g1, g2, g3⟩, g4, g5⟩
  simp only at g1 g2 g3 g4 g5
  clear hf0 h4 h3 h2 e1 e2 hp'
  repeat' (first | apply zC | apply zA | apply zB | refine zF qS qR ?_ ?_ | exact True.intro | exact rfl | fail)
  (refine zE qS ?_ ?_ <;> intro hb <;> have hc := hb <;> (try simp only [bF] at hc) <;> (try (exfalso; simp at hc; done)))
  ·have hj : j < xs.length := by assumption
   have hv := hp (xs.getD j default)
   have hxj : xs.getD j default = l.getD j default := by
    have := congrArg (fun z : List Ach => z.getD 0 default) g5
    simpa [List.getD_eq_getElem?_getD, List.getElem?_drop] using this
   have hd1 : xs.drop (j + 1) = l.drop (j + 1) := by
    have := congrArg (fun z : List Ach => z.drop 1) g5
    simpa [List.drop_drop, Nat.add_comm] using this
   have ht1 : (l.take (j + 1)).filter (fun a => !p a) = (l.take j).filter (fun a => !p a) ++ (if p (xs.getD j default) then [] else [xs.getD j default]) := by
    rw [hxj, List.take_add_one, List.filter_append, List.getD_eq_getElem?_getD, List.getElem?_eq_getElem (by omega)]
    congr 1
    simp only [Option.toList, Option.getD_some, List.filter_cons, List.filter_nil]
    cases p l[j] <;> simp
   repeat' (first | apply zC | apply zG | apply zD | apply zA | apply zB | refine zF (by simp only [go_sem, hcm]; rfl) qR ?_ ?_ | refine yD (hv) (by simp only [go_sem, hcm]) (by simp only [go_sem, hcm]) ?_ (by simp only [go_sem, hcm]; rfl) ?_ | exact True.intro | exact rfl | exact qP | fail)
   (refine zE qS ?_ ?_ <;> intro hb <;> have hc := hb <;> (try simp only [bF] at hc) <;> (try (exfalso; simp at hc; done)))
   ·have hb2 : p (xs.getD j default) = false := by simpa using hb
    have e3 : IntKind.i64.wrap ((q : Int) + 1) = ((q + 1 : Nat) : Int) := by rw [w64]; omega
    rw [hb2] at ht1
    repeat' (first | apply zC | apply zL | apply zA | apply zB | refine zF (by simp only [go_sem, e3, hcm]; rfl) qR ?_ ?_ | exact True.intro | exact rfl | exact qP | fail)
    refine zR (o' := aAch (xs.set q (xs.getD j default))) 1000 qR (ole_ach xs q _ (by omega)) ?_
    refine zS (j + 1, q + 1, xs.set q (xs.getD j default)) ?_ ?_ ⟨rfl, qL, qL⟩
    ·refine ⟨⟨by simp only; omega, by simp only; omega, by simp [g3]⟩, ?_, ?_⟩
     ·simp only
      rw [ht1, ← g4]
      simp only [Bool.false_eq_true, if_false]
      rw [List.take_add_one, List.take_set_of_le (Nat.le_refl _), List.getElem?_set_self (by omega)]
      rfl
     ·simp only
      rw [List.drop_set_of_lt (by omega)]; exact hd1
    ·simp only; omega
   ·have hb2 : p (xs.getD j default) = true := by simpa using hb
    rw [hb2] at ht1
    repeat' (first | apply zG | apply zL | apply zA | apply zB | refine zF (by simp only [go_sem, hcm]; rfl) qR ?_ ?_ | exact True.intro | exact rfl | fail)
    refine zS (j + 1, q, xs) ?_ ?_ ⟨rfl, qL, qL⟩
    ·exact ⟨⟨by simp only; omega, by simp only; omega, g3⟩, by simp only; rw [ht1, g4]; simp, hd1⟩
    ·simp only; omega
  ·have hjl : j = l.length := by omega
   have hne2 : 0 < xs.length := by omega
   have htk : l.take j = l := List.take_of_length_le (by omega)
   rw [htk] at g4
   repeat' (first | apply zC | apply zA | apply zB | refine zF (by simp only [go_sem, hcm, hcf]; rfl) qR ?_ ?_ | refine stepsl (by simp only [go_sem, hcm, hcf]; rfl) ?_ (by simp only [go_sem, hcm, hcf]; rfl) ?_ | refine stepclr (by simp only [go_sem, hcm, hcf]; rfl) (by simp only [go_sem, hcm, hcf]; rfl) qK qK (by simp only [go_sem, hcm, hcf]; rfl) ?_ | refine stepcut (by simp only [go_sem, hcm, hcf]; rfl) (by simp only [go_sem, hcm, hcf]; rfl) (by simp only [go_sem, hcm, hcf]; rfl) (by first | kernel_rfl | (simp only [go_sem, hcm, hcf]; rfl)) qK ⟨by omega, by omega, by omega⟩ (by simp only [go_sem, hcm, hcf]; rfl) ?_ | refine zK qR ?_ | exact True.intro | exact rfl | exact qP | fail)
   refine zR (o' := aAch (l.filter fun a => !p a)) 1000 qR (OLe.accS (by rw [← g4, List.length_take]; omega) fun t ht => ?_) ?_
   ·simp only [clF]
    rw [if_pos ht, ← g4]
    have : (xs.take q).getD t default = xs.getD t default := by simp only [List.getD_eq_getElem?_getD, List.getElem?_take, ht, if_true]
    rw [this]; rfl
   refine yC qR qS ?_ ?_
   ·exact SLe.refl _
   ·(show subO _ _; simp only [go_sem]; repeat' (first | exact SLe.any1 | exact trivial | exact True.intro | exact SLe.refl _ | exact OLe.refl _ | exact ⟨_, rfl, OLe.refl _⟩ | refine ⟨_, rfl, ?_⟩ | refine OLe.var ?_ | (show SLeL _ _; refine ⟨?_, ?_⟩) | (show SLeL [] []; exact True.intro) | (refine SLe.int ?_; rw [w64]; omega) | refine SLe.int ?_ | refine SLe.bool ?_ | apply And.intro))
end Go.Sx
namespace Go.Sx
open Go.Proofs Go.RowKit
theorem errF_zero : ∀ (qs : List (Need × Nat)), errF qs = 0 → ∀ x ∈ qs, oneR x.1 = 0
 | [], _, x, hx => by cases hx
 | y :: r, h, x, hx => by
  rw [errF] at h
  split at h
  ·rename_i h1
   rcases List.mem_cons.1 hx with rfl | hx
   ·exact h1
   ·exact errF_zero r h x hx
  ·rename_i h1; exact absurd h h1
theorem chk_one {qs : List (Need × Nat)} (h : chkQ qs = 0) : ∀ x ∈ qs, oneR x.1 = 0 := by
 rw [chkQ] at h
 split at h
 ·cases h
 ·exact errF_zero qs h
theorem oneR_N {n : Need} (h : oneR n = 0) : 0 ≤ n.N := by
 rw [oneR] at h
 split at h
 ·split at h
  ·cases h
  ·rename_i h1
   simp only [Bool.or_eq_true, bne_iff_ne, ne_eq, decide_eq_true_eq, not_or, Decidable.not_not] at h1
   omega
 split at h
 ·split at h
  ·cases h
  ·split at h
   ·cases h
   ·rename_i h1
    simp only [Bool.not_eq_true', Bool.and_eq_false_iff, decide_eq_false_iff_not, not_or, Decidable.not_not] at h1
    omega
 split at h
 ·split at h
  ·cases h
  ·rename_i h1
   simp only [Bool.or_eq_true, bne_iff_ne, ne_eq, not_or, Decidable.not_not] at h1
   omega
 split at h
 ·split at h
  ·cases h
  ·split at h
   ·cases h
   ·rename_i h1
    simp only [Bool.not_eq_true', Bool.and_eq_false_iff, decide_eq_false_iff_not, not_or, Decidable.not_not] at h1
    omega
 ·cases h
theorem oneR_L {n : Need} (h : oneR n = 0) (hk : ¬ (n.Kind = 1 ∨ n.Kind = 2)) : 0 < n.L.length := by
 have key : bareR n = true → 0 < n.L.length := fun hb => by
  simp only [bareR, Bool.and_eq_true, decide_eq_true_eq] at hb
  omega
 rw [oneR, if_neg (fun h => hk (.inl h)), if_neg (fun h => hk (.inr h))] at h
 split at h
 ·split at h
  ·cases h
  ·rename_i h1
   simp only [Bool.or_eq_true, Bool.not_eq_true', not_or, Bool.not_eq_false] at h1
   exact key h1.1
 split at h
 ·split at h
  ·cases h
  ·rename_i h1
   simp only [Bool.not_eq_true', Bool.not_eq_false] at h1
   exact key h1
 ·cases h
theorem nodes_self (d k : Nat) (n : Need) : (n, k) ∈ nodesF d k n := by
 cases d <;> simp [nodesF]
theorem nodes_NN : ∀ (d k : Nat) (n : Need), (∀ x ∈ nodesF d k n, oneR x.1 = 0) → NN d n
 | 0, k, n, h => oneR_N (h _ (nodes_self 0 k n))
 | d + 1, k, n, h => ⟨oneR_N (h _ (nodes_self (d + 1) k n)), fun x hx => nodes_NN d (k + 1) x fun y hy => h y (by
   rw [nodesF]
   exact List.mem_cons_of_mem _ (List.mem_flatMap.2 ⟨x, hx, hy⟩))⟩
theorem sum_pos : ∀ (l : List Nat), (∀ x ∈ l, 1 ≤ x) → 0 < l.length → 1 ≤ l.sum
 | [], _, h => absurd h (Nat.lt_irrefl 0)
 | x :: r, h, _ => by
  have := h x (List.mem_cons_self ..)
  simp only [List.sum_cons]; omega
theorem cntL_append : ∀ a b : List (Need × Nat), cntL (a ++ b) = cntL a + cntL b
 | [], b => by simp [cntL]
 | x :: r, b => by simp only [List.cons_append, cntL, cntL_append r b]; omega
theorem cntL_mem {α : Type} (f : α → List (Need × Nat)) : ∀ (l : List α) (x : α), x ∈ l → cntL (f x) ≤ cntL (l.flatMap f)
 | [], x, h => by cases h
 | y :: r, x, h => by
  rw [List.flatMap_cons, cntL_append]
  rcases List.mem_cons.1 h with rfl | h
  ·omega
  ·have := cntL_mem f r x h; omega
theorem cntL_flat {α : Type} (f : α → List (Need × Nat)) : ∀ l : List α, (∀ x ∈ l, 1 ≤ cntL (f x)) → l.length ≤ cntL (l.flatMap f)
 | [], _ => Nat.le_refl _
 | y :: r, h => by
  rw [List.flatMap_cons, cntL_append]
  have h1 := h y (List.mem_cons_self ..)
  have h2 := cntL_flat f r fun x hx => h x (List.mem_cons_of_mem _ hx)
  simp only [List.length_cons]; omega
theorem oneR_leaf {n : Need} (h : oneR n = 0) (hl : leafR n = true) : n.L = [] := by
 simp only [leafR, Bool.and_eq_true, bne_iff_ne] at hl
 by_cases h1 : n.Kind = 1
 ·rw [oneR_1 h1] at h
  split at h
  ·cases h
  ·rename_i hc
   simp only [Bool.or_eq_true, decide_eq_true_eq, not_or] at hc
   exact List.eq_nil_of_length_eq_zero (by omega)
 by_cases h2 : n.Kind = 2
 ·rw [oneR_2 h2] at h
  split at h
  ·cases h
  ·rename_i hc
   simp only [decide_eq_true_eq] at hc
   exact List.eq_nil_of_length_eq_zero (by omega)
 ·rw [oneR, if_neg h1, if_neg h2, if_neg hl.1, if_neg hl.2] at h
  cases h
theorem leafR_kind {n : Need} (h : leafR n = false) : ¬ (n.Kind = 1 ∨ n.Kind = 2) := by
 simp only [leafR, Bool.and_eq_false_iff, bne_eq_false_iff_eq] at h
 omega
theorem chk_M : ∀ (d k : Nat) (n : Need), NOk d n → (∀ x ∈ nodesF d k n, oneR x.1 = 0) → cntL (nodesF d k n) ≤ 8 → MOk d n ∧ 1 ≤ cntL (nodesF d k n)
 | 0, k, n, hn, h, hc => by
  refine ⟨hn.2, ?_⟩
  have h1 := h _ (nodes_self 0 k n)
  cases hl : leafR n
  ·have := oneR_L h1 (leafR_kind hl)
   rw [hn.2] at this
   exact absurd this (Nat.lt_irrefl 0)
  ·simp only [nodesF, cntL, hl, if_true]; omega
 | d + 1, k, n, hn, h, hc => by
  have h1 := h _ (nodes_self (d + 1) k n)
  have e : cntL (nodesF (d + 1) k n) = (if leafR n then 1 else 0) + cntL (n.L.flatMap (nodesF d (k + 1))) := rfl
  have hx : ∀ x ∈ n.L, MOk d x ∧ 1 ≤ cntL (nodesF d (k + 1) x) := fun x hx => by
   have h2 := cntL_mem (nodesF d (k + 1)) n.L x hx
   refine chk_M d (k + 1) x (hn.2 x hx) (fun y hy => h y ?_) (by omega)
   rw [nodesF]
   exact List.mem_cons_of_mem _ (List.mem_flatMap.2 ⟨x, hx, hy⟩)
  have h3 := cntL_flat (nodesF d (k + 1)) n.L fun x hm => (hx x hm).2
  refine ⟨⟨by omega, oneR_leaf h1, fun x hm => (hx x hm).1⟩, ?_⟩
  cases hl : leafR n
  ·have h4 : 0 < n.L.length := oneR_L h1 (leafR_kind hl)
   rw [e, hl]
   omega
  ·rw [e, hl, if_pos rfl]; omega
theorem nodes_cnt : ∀ (d k : Nat) (n : Need), NOk d n → (∀ x ∈ nodesF d k n, oneR x.1 = 0) → 1 ≤ cntW d n
 | 0, k, n, hn, h => by
  rw [cntW]
  split
  ·exact Nat.le_refl _
  ·rename_i hk
   have := oneR_L (h _ (nodes_self 0 k n)) hk
   rw [hn.2] at this
   exact absurd this (Nat.lt_irrefl 0)
 | d + 1, k, n, hn, h => by
  rw [cntW]
  split
  ·exact Nat.le_refl _
  ·rename_i hk
   refine sum_pos _ (fun x hx => ?_) (by rw [List.length_map]; exact oneR_L (h _ (nodes_self (d + 1) k n)) hk)
   obtain ⟨m, hm, rfl⟩ := List.mem_map.1 hx
   exact nodes_cnt d (k + 1) m (hn.2 m hm) fun y hy => h y (by
    rw [nodesF]
    exact List.mem_cons_of_mem _ (List.mem_flatMap.2 ⟨m, hm, hy⟩))
theorem chk_le {qs : List (Need × Nat)} (h : chkQ qs = 0) : cntL qs ≤ 8 := by
 rw [chkQ] at h
 split at h
 ·cases h
 ·rename_i hc
  simp only [Bool.or_eq_true, Bool.not_eq_true', Bool.and_eq_false_iff, decide_eq_true_eq, decide_eq_false_iff_not, not_or] at hc
  omega
theorem chkP_Q {d : Nat} {p : Programme} (h : chkP d p = 0) : chkQ (nodesF d 1 p.Need) = 0 := by
 rw [chkP] at h
 split at h
 ·cases h
 split at h
 ·cases h
 split at h
 ·cases h
 split at h
 ·assumption
 ·exact h
theorem chkP_NN {d : Nat} {p : Programme} (h : chkP d p = 0) : NN d p.Need := nodes_NN d 1 _ (chk_one (chkP_Q h))
theorem chkP_cnt {d : Nat} {p : Programme} (hp : POk d p) (h : chkP d p = 0) : 1 ≤ cntW d p.Need := nodes_cnt d 1 _ hp.need.1 (chk_one (chkP_Q h))
theorem chkP_M {d : Nat} {p : Programme} (hp : POk d p) (h : chkP d p = 0) : MOk d p.Need := (chk_M d 1 _ hp.need.1 (chk_one (chkP_Q h)) (chk_le (chkP_Q h))).1
theorem td100 (y : Int) : y.tdiv 100 = if 0 ≤ y then y / 100 else -((-y) / 100) := by
 split
 ·rw [Int.tdiv_eq_ediv_of_nonneg (by assumption)]
 ·rename_i h
  have := Int.neg_tdiv (-y) 100
  rw [Int.neg_neg] at this
  rw [this, Int.tdiv_eq_ediv_of_nonneg (by omega)]
theorem tm100 (y : Int) : y.tmod 100 = if 0 ≤ y then y % 100 else -((-y) % 100) := by
 have := Int.mul_tdiv_add_tmod y 100
 rw [td100] at this
 split <;> rename_i h <;> simp only [h, if_true, if_false] at this <;> omega
theorem wr_self (x : Int) (h1 : -9223372036854775808 ≤ x) (h2 : x < 9223372036854775808) : IntKind.i64.wrap x = x := by rw [w64]; omega
theorem divP_eq (n : Int) (h1 : -9223372036854775709 ≤ n) (h2 : n < 9223372036854775808) : divP n 100 = n / 100 := by
 have hm := tm100 n
 have hb : -100 < n.tmod 100 ∧ n.tmod 100 < 100 := by rw [hm]; split <;> omega
 have b : (n.tmod 100 + 100).tmod 100 = n % 100 := by
  rw [tm100 (n.tmod 100 + 100), if_pos (by omega), hm]; split <;> omega
 have d : (n - n % 100).tdiv 100 = n / 100 := by rw [td100]; split <;> omega
 unfold divP wr
 rw [wr_self (n.tmod 100 + 100) (by omega) (by omega), b, wr_self (n - n % 100) (by omega) (by omega), d, wr_self (n / 100) (by omega) (by omega)]
theorem divR_eq (n : Int) (h1 : -9223372036854775808 ≤ n) (h2 : n < 9223372036854775808) : divR n 100 = n / 100 := by
 have hm := tm100 n
 have hd := td100 n
 have hb : -9223372036854775808 < n.tdiv 100 ∧ n.tdiv 100 < 9223372036854775808 := by rw [hd]; split <;> omega
 unfold divR wr
 rw [wr_self (n.tdiv 100) (by omega) (by omega), wr_self (n.tdiv 100 - 1) (by omega) (by omega), hm, hd]
 (repeat' split) <;> omega
theorem term_eq (x : Int) (h1 : -9223372036854775808 ≤ x) (h2 : x < 9223372036854775808) : termP x = divR x 100 := by
 rw [divR_eq x h1 h2]
 unfold termP
 split
 ·have e : wr (x + 100) = x + 100 := wr_self _ (by omega) (by omega)
  rw [e, divP_eq _ (by omega) (by omega)]
  show IntKind.i64.wrap _ = _
  rw [wr_self _ (by omega) (by omega)]; omega
 ·exact divP_eq _ (by omega) (by omega)
def S0 : Nat → Bool := fun z => z == 0
def derF (d : Nat) (p : Programme) (s : Scale) (l : List Ach) (day : Int) : Bool :=
 decide (chkP d p = 0) && okScale s && (let y := l.filter fun a => !tooOld p day a
  decide (y.length ≤ 10) && (List.range (2 ^ y.length)).any fun set => wholeR p y set && (List.range 1024).any fun part => aft s y d p.Need S0 part && (part &&& set == part))
def keepR (p : Programme) (day : Int) (a : Ach) : Bool := decide (p.Age ≤ 0) || decide (wr (divR day 100 - divR a.Day 100) ≤ p.Age)
def derR (d : Nat) (p : Programme) (s : Scale) (l : List Ach) (day : Int) : Bool :=
 decide (chkP d p = 0) && okScale s && (let y := l.filter fun a => keepR p day a
  decide (y.length ≤ 10) && (List.range (2 ^ y.length)).any fun set => wholeR p y set && (List.range (set + 1)).any fun part => (part &&& set == part) && refA s y (2 ^ y.length) d p.Need S0 part)
def DayOk (x : Int) : Prop := termP x = divR x 100
theorem keep_eq {p : Programme} {day : Int} {a : Ach} (h1 : DayOk day) (h2 : DayOk a.Day) : keepR p day a = !tooOld p day a := by
 rw [keepR, tooOld, ← h1, ← h2, Bool.not_and]
 congr 1
 ·rw [← decide_not]; exact decide_eq_decide.2 (by omega)
 ·rw [← decide_not]; exact decide_eq_decide.2 (by omega)
theorem der_eq (d : Nat) (p : Programme) (s : Scale) (l : List Ach) (day : Int) (h1 : DayOk day) (h2 : ∀ a ∈ l, DayOk a.Day) : derF d p s l day = derR d p s l day := by
 have e : (l.filter fun a => keepR p day a) = l.filter fun a => !tooOld p day a := List.filter_congr fun a ha => keep_eq h1 (h2 a ha)
 unfold derF derR
 rw [e]
 generalize (l.filter fun a => !tooOld p day a) = y
 refine congrArg (fun b => decide (chkP d p = 0) && okScale s && b) ?_
 by_cases hy : y.length ≤ 10
 ·simp only [decide_eq_true hy, Bool.true_and]
  have hM : 2 ^ y.length ≤ 1024 := Nat.pow_le_pow_right (n := 2) (by omega) hy
  have hR := aft_refA s y hy d p.Need S0 S0 ⟨fun _ _ => rfl, fun z hz => by
   have : z = 0 := by simpa [S0] using hz
   rw [this]; exact Nat.two_pow_pos _⟩
  rw [Bool.eq_iff_iff, List.any_eq_true, List.any_eq_true]
  constructor
  ·rintro ⟨set, hs, h⟩
   simp only [Bool.and_eq_true, List.any_eq_true, List.mem_range] at h hs
   obtain ⟨hw, part, hp, ha, hsub⟩ := h
   have hle : part ≤ set := by
    have : part &&& set ≤ set := Nat.and_le_right
    rw [beq_iff_eq.1 hsub] at this
    exact this
   refine ⟨set, by simpa using hs, ?_⟩
   simp only [Bool.and_eq_true, List.any_eq_true, List.mem_range]
   exact ⟨hw, part, by omega, hsub, by rw [← hR.1 part (by omega)]; exact ha⟩
  ·rintro ⟨set, hs, h⟩
   simp only [Bool.and_eq_true, List.any_eq_true, List.mem_range] at h hs
   obtain ⟨hw, part, hp, hsub, ha⟩ := h
   refine ⟨set, by simpa using hs, ?_⟩
   simp only [Bool.and_eq_true, List.any_eq_true, List.mem_range]
   exact ⟨hw, part, by omega, by rw [hR.1 part (by omega)]; exact ha, hsub⟩
 ·simp only [decide_eq_false hy, Bool.false_and]
end Go.Sx
