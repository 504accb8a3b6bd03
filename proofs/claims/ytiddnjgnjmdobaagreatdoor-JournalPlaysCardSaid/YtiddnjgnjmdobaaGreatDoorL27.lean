/- Part of the proofs that the laws of the journal return true for every input: L26, L27. -/
import Derived.Test.YtiddnjgnjmdobaaGreatDoorL11
set_option linter.unusedVariables false
set_option linter.unusedSimpArgs false
set_option linter.all false
/-! L26: strings.Index of one byte, strings.SplitN. -/
namespace Go.Sx
open Go.Proofs Go.RowKit
attribute [local irreducible] Run RunL RunD SLe0 SLe OLe
set_option maxHeartbeats 2000000
set_option maxRecDepth 8000
set_option linter.unusedSimpArgs false
set_option linter.unusedVariables false
def cutL (c : UInt8) : List UInt8 → Option (List UInt8 × List UInt8)
  | [] => none
  | b :: l => if b = c then some ([], l) else (cutL c l).map fun p => (b :: p.1, p.2)
theorem cutL_none (c : UInt8) : ∀ (l : List UInt8), cutL c l = none → Lib.indexByte l c = -1
  | [], _ => rfl
  | b :: l, h => by
    simp only [cutL] at h
    by_cases hb : b = c
    · rw [if_pos hb] at h; cases h
    · rw [if_neg hb, Option.map_eq_none_iff] at h
      have := cutL_none c l h
      simp [Lib.indexByte, hb, this]
theorem cutL_some (c : UInt8) : ∀ (l a b : List UInt8), cutL c l = some (a, b) → Lib.indexByte l c = (a.length : Int) ∧ l = a ++ c :: b ∧ c ∉ a
  | [], a, b, h => by cases h
  | x :: l, a, b, h => by
    simp only [cutL] at h
    by_cases hb : x = c
    · rw [if_pos hb] at h
      cases h
      subst hb
      simp [Lib.indexByte]
    · rw [if_neg hb, Option.map_eq_some_iff] at h
      obtain ⟨⟨a', b'⟩, h1, h2⟩ := h
      simp only [Prod.mk.injEq] at h2
      obtain ⟨rfl, rfl⟩ := h2
      obtain ⟨q1, q2, q3⟩ := cutL_some c l a' b' h1
      refine ⟨?_, by rw [q2]; rfl, by simp [q3]; exact fun h => hb h.symm⟩
      have hne : ¬ (Lib.indexByte l c = -1) := by rw [q1]; omega
      simp [Lib.indexByte, hb, q1]
def spN : Nat → List UInt8 → List (List UInt8)
  | 0, l => [l]
  | k + 1, l => match cutL 32 l with
    | none => [l]
    | some (a, b) => a :: spN k b
theorem spN_more : ∀ (k j : Nat) (l : List UInt8), l.length ≤ k → spN k l = spN (k + j) l
  | 0, j, l, h => by
    have : l = [] := List.eq_nil_of_length_eq_zero (by omega)
    subst this
    cases j <;> simp [spN, cutL]
  | k + 1, j, l, h => by
    rw [show k + 1 + j = (k + j) + 1 by omega]
    simp only [spN]
    cases hc : cutL 32 l with
    | none => rfl
    | some p =>
      obtain ⟨a, b⟩ := p
      obtain ⟨_, q2, _⟩ := cutL_some _ _ _ _ hc
      have hl := congrArg List.length q2
      simp only [List.length_append, List.length_cons] at hl
      simp only [spN_more k j b (by omega)]
theorem K89 : FnOK Tryz.prog 89 (fun ds d => ∃ (s : ByteArray) (c : UInt8), ds = [.str s, .int .u8 (c.toNat : Int)] ∧ d = .int .i64 (Lib.indexByte (L s) c)) := by
  refine fn_intro Tryz.call89 Tryz.func89 rfl Tryz.ntmps89 ?_
  rintro ds d ⟨s, c, rfl, rfl⟩
  refine ⟨by simp, fun w0 => ?_⟩
  repeat' (first | apply run_seq | apply run_region | apply runL_nil | refine runxP (by simp only [go_sem]; rfl) (by rfl) ?_ ?_ | refine run_ret (by rfl) ?_ | refine stepx2 (by first | (simp only [go_sem]; done) | (simp only [go_sem]; rfl)) (by first | (simp only [go_sem]; done) | (simp only [go_sem]; rfl)) ?_ ((ext104 s c)) (by simp only [go_sem]; rfl) ?_ | exact True.intro | exact rfl | refine SLe0.int ?_)
theorem K78 : FnOK Tryz.prog 78 (fun ds d => ∃ (s : ByteArray) (c : UInt8), ds = [.str s, .str (B [c])] ∧ d = .int .i64 (Lib.indexByte (L s) c)) := by
  refine fn_intro Tryz.call78 Tryz.func78 rfl Tryz.ntmps78 ?_
  rintro ds d ⟨s, c, rfl, rfl⟩
  refine ⟨by simp, fun w0 => ?_⟩
  have h1 : (B [c]).size = 1 := rfl
  have h2 : (((B [c]).size : Nat) : Int) = 1 := rfl
  repeat' (first | apply run_seq | apply run_block | apply run_region | apply runL_nil | refine runxP (by simp only [go_sem, h1, h2]; rfl) (by rfl) ?_ ?_ | refine stepcall K89 (by simp only [go_sem, h1, h2]; first | done | rfl) ?_ ⟨s, c, rfl, rfl⟩ (by simp only [go_sem, h1, h2]; rfl) ?_ | (refine run_cond (by simp only [go_sem, h1, h2]; rfl) ?_ ?_ <;> intro hb <;> have hc := hb <;> (try simp only [decide_eq_true_eq, decide_eq_false_iff_not, Int.not_lt, Int.not_le, Int.ofNat_lt, Int.ofNat_le, Bool.and_eq_true, Bool.or_eq_true, Bool.or_eq_false_iff, Bool.not_eq_true', Bool.not_eq_false', beq_iff_eq, beq_eq_false_iff_ne, bne_iff_ne, bne_eq_false_iff_eq] at hc) <;> (try (exfalso; simp at hc; done))) | refine run_ret (by rfl) ?_ | exact True.intro | exact rfl | refine SLe0.int ?_ | (show allP _; first | exact True.intro | (simp only [allP, go_sem, Bool.not_eq_true', Bool.not_eq_false', implies_true, true_and, and_true, and_self, imp_self]; done) | (simp [allP, go_sem]; done) | (simp [allP, go_sem] at *; first | done | assumption | omega | (simp_all; done)) | (simp only [allP, go_sem]; intros; simp_all; done) | (simp only [allP, go_sem, ByteArray.size_append, size_mk, List.size_toArray, List.length_append, List.length_cons, List.length_nil, and_true, true_and]; (repeat' apply And.intro) <;> omega)))
  rw [← hc]
  simp [Lib.indexByte, L, B]
theorem K70 : FnOK Tryz.prog 70 (fun ds d => ∃ (s : ByteArray) (c : UInt8), ds = [.str s, .str (B [c])] ∧ d = .int .i64 (Lib.indexByte (L s) c)) := by
  refine fn_intro Tryz.call70 Tryz.func70 rfl Tryz.ntmps70 ?_
  rintro ds d ⟨s, c, rfl, rfl⟩
  refine ⟨by simp, fun w0 => ?_⟩
  repeat' (first | apply run_seq | apply run_region | apply runL_nil | refine runxP (by simp only [go_sem]; rfl) (by rfl) ?_ ?_ | refine stepcall K78 (by simp only [go_sem]; first | done | rfl) ?_ ⟨s, c, rfl, rfl⟩ (by simp only [go_sem]; rfl) ?_ | refine run_ret (by rfl) ?_ | exact True.intro | exact rfl | refine SLe0.int ?_)
end Go.Sx

/-! L27: strings.SplitN by blanks, at most three parts. -/
namespace Go.Sx
open Go.Proofs Go.RowKit
attribute [local irreducible] Run RunL RunD SLe0 SLe OLe
set_option maxHeartbeats 2000000
set_option maxRecDepth 8000
set_option linter.unusedSimpArgs false
set_option linter.unusedVariables false
def psF (ps : List ByteArray) (j : Nat) : SD := .str (ps.getD j ByteArray.empty)
theorem psF_set (ps : List ByteArray) (x : ByteArray) (j : Nat) : setF ps.length (.str x) (psF ps) j = psF (ps ++ [x]) j := by
  simp only [setF, psF]
  by_cases h : j = ps.length
  · subst h; simp
  · by_cases h2 : j < ps.length
    · simp [h, List.getElem?_append_left h2]
    · simp [h, List.getElem?_append_right (Nat.not_lt.1 h2), List.getElem?_eq_none (Nat.not_lt.1 h2), List.getElem?_eq_none (show [x].length ≤ j - ps.length by simp; omega)]
theorem be32 : (B [32] == ByteArray.empty) = false := beq_eq_false_iff_ne.2 fun h => by have := congrArg ByteArray.size h; simp [B, ByteArray.size] at this
theorem be32' : (B [32] == (⟨#[]⟩ : ByteArray)) = false := be32
set_option maxHeartbeats 4000000
theorem K61 : FnOK Tryz.prog 61 (fun ds d => ∃ s : ByteArray, s.size ≤ 400000000 ∧ ds = [.str s, .str (B [32]), .int .i64 0, .int .i64 3] ∧ d = .list 1 (spN 2 (L s)).length (psF ((spN 2 (L s)).map B))) := by
  refine fn_intro Tryz.call61 Tryz.func61 rfl Tryz.ntmps61 ?_
  rintro ds d ⟨s, hs, rfl, rfl⟩
  refine ⟨by simp, fun w0 => ?_⟩
  have h1 : (B [32]).size = 1 := rfl
  have h2 : (((B [32]).size : Nat) : Int) = 1 := rfl
  have e0 : IntKind.i64.wrap ((s.size : Int) + 1) = ((s.size + 1 : Nat) : Int) := by rw [w64]; omega
  obtain ⟨M, hM, hM2⟩ : ∃ M : Nat, (if ((s.size + 1 : Nat) : Int) < 3 then ((s.size + 1 : Nat) : Int) else 3) = ((M + 1 : Nat) : Int) ∧ M = min 2 s.size := by
    by_cases h : s.size < 2
    · exact ⟨s.size, by rw [if_pos (by omega)], by omega⟩
    · exact ⟨2, by rw [if_neg (by omega)]; rfl, by omega⟩
  have e3 : IntKind.i64.wrap (((M + 1 : Nat) : Int) - 1) = (M : Int) := by rw [w64]; omega
  repeat' (first | apply run_seq | apply run_skip | apply run_block | apply run_region | apply runL_nil | refine runxP (by simp only [go_sem, h1, h2, be32, be32', e0, hM, e3]; rfl) (by rfl) ?_ ?_ | (refine run_cond (by simp only [go_sem, h1, h2, be32, be32', e0, hM, e3]; rfl) ?_ ?_ <;> intro hb <;> have hc := hb <;> (try simp only [decide_eq_true_eq, decide_eq_false_iff_not, Int.not_lt, Int.not_le, Int.ofNat_lt, Int.ofNat_le, Bool.and_eq_true, Bool.or_eq_true, Bool.or_eq_false_iff, Bool.not_eq_true', Bool.not_eq_false', beq_iff_eq, beq_eq_false_iff_ne, bne_iff_ne, bne_eq_false_iff_eq] at hc) <;> (try (exfalso; simp at hc; done))) | exact True.intro | exact rfl | (show allP _; first | exact True.intro | (simp only [allP, go_sem, Bool.not_eq_true', Bool.not_eq_false', implies_true, true_and, and_true, and_self, imp_self]; done) | (simp [allP, go_sem]; done) | (simp [allP, go_sem] at *; first | done | assumption | omega | (simp_all; done)) | (simp only [allP, go_sem]; intros; simp_all; done) | (simp only [allP, go_sem, ByteArray.size_append, size_mk, List.size_toArray, List.length_append, List.length_cons, List.length_nil, and_true, true_and]; (repeat' apply And.intro) <;> omega)))
  refine run_accLe (o' := .acc 9 1 (M + 1) (psF [])) 0 (by rfl) (OLe.accS (by simp) fun i hi => rfl) ?_
  refine run_loopK [1, 2, 3, 9] (fun x : Nat × ByteArray × List ByteArray => [(0, .str x.2.1), (10, eInt x.1)]) (fun x : Nat × ByteArray × List ByteArray => [(0, .acc 9 1 (M + 1) (psF x.2.2))]) (fun x : Nat × ByteArray × List ByteArray => x.1 ≤ M ∧ x.2.2.length = x.1 ∧ x.2.1.size ≤ 400000000 ∧ x.2.2 ++ (spN (M - x.1) (L x.2.1)).map B = (spN M (L s)).map B) (fun x : Nat × ByteArray × List ByteArray => M - x.1) (0, s, []) (fun x => by simp only [go_sem]; rfl) ?_ (by simp only [go_sem]; repeat' (first | exact trivial | exact True.intro | exact SLe.refl _ | exact OLe.refl _ | exact ⟨_, rfl, OLe.refl _⟩ | refine ⟨_, rfl, ?_⟩ | refine OLe.var ?_ | (show SLeL _ _; refine ⟨?_, ?_⟩) | (show SLeL [] []; exact True.intro) | (refine SLe.int ?_; rw [w64]; omega) | refine SLe.int ?_ | refine SLe.bool ?_ | apply And.intro)) (by simp only [go_sem]; repeat' (first | exact trivial | exact True.intro | exact SLe.refl _ | exact OLe.refl _ | exact ⟨_, rfl, OLe.refl _⟩ | refine ⟨_, rfl, ?_⟩ | refine OLe.var ?_ | (show SLeL _ _; refine ⟨?_, ?_⟩) | (show SLeL [] []; exact True.intro) | (refine SLe.int ?_; rw [w64]; omega) | refine SLe.int ?_ | refine SLe.bool ?_ | apply And.intro)) ?_
  · exact ⟨Nat.zero_le _, rfl, hs, by simp⟩
  rintro ⟨i, r, ps⟩ ⟨g1, g2, g3, g4⟩
  simp only at g1 g2 g3 g4
  subst g2
  have e4 : IntKind.i64.wrap ((ps.length : Int) + 1) = ((ps.length + 1 : Nat) : Int) := by rw [w64]; omega
  have hsp : spN M (L s) = spN 2 (L s) := by
    by_cases h : s.size < 2
    · rw [show M = s.size by omega, spN_more s.size (2 - s.size) (L s) (by rw [← size_L]; omega), show s.size + (2 - s.size) = 2 by omega]
    · rw [show M = 2 by omega]
  have hfin : ps ++ [r] = (spN M (L s)).map B → ∀ f : Nat → SD, f = setF ps.length (.str r) (psF ps) → SLe0 (.list 1 (ps.length + 1) f) (.list 1 (spN 2 (L s)).length (psF ((spN 2 (L s)).map B))) := fun h f hf => by
    refine SLe0.of rfl (SLe.list ?_ fun i hi => ?_)
    · rw [← hsp]
      have := congrArg List.length h
      simpa using this
    · rw [hf, ← hsp, ← h]
      exact psF_set _ _ _
  repeat' (first | apply run_seq | apply run_region | apply runL_nil | refine runxP (by simp only [go_sem, e4]; rfl) (by rfl) ?_ ?_ | exact True.intro | exact rfl)
  (refine run_cond (by simp only [go_sem]; rfl) ?_ ?_ <;> intro hb <;> have hc := hb <;> (try simp only [decide_eq_true_eq, decide_eq_false_iff_not, Int.not_lt, Int.not_le, Int.ofNat_lt, Int.ofNat_le, Bool.and_eq_true, Bool.or_eq_true, Bool.or_eq_false_iff, Bool.not_eq_true', Bool.not_eq_false', beq_iff_eq, beq_eq_false_iff_ne, bne_iff_ne, bne_eq_false_iff_eq] at hc) <;> (try (exfalso; simp at hc; done)))
  · cases hc0 : cutL 32 (L r) with
    | none =>
      have hix := cutL_none _ _ hc0
      repeat' (first | apply run_seq | apply run_skip | apply run_block | apply run_region | apply runL_nil | refine runxP (by simp only [go_sem, hix, e4]; rfl) (by rfl) ?_ ?_ | refine stepcall K70 (by simp only [go_sem, hix, e4]; first | done | rfl) ?_ ⟨r, 32, rfl, rfl⟩ (by simp only [go_sem, hix, e4]; rfl) ?_ | (refine run_cond (by simp only [go_sem, hix, e4]; rfl) ?_ ?_ <;> intro hb <;> have hc := hb <;> (try simp only [decide_eq_true_eq, decide_eq_false_iff_not, Int.not_lt, Int.not_le, Int.ofNat_lt, Int.ofNat_le, Bool.and_eq_true, Bool.or_eq_true, Bool.or_eq_false_iff, Bool.not_eq_true', Bool.not_eq_false', beq_iff_eq, beq_eq_false_iff_ne, bne_iff_ne, bne_eq_false_iff_eq] at hc) <;> (try (exfalso; simp at hc; done))) | refine run_exit (by rfl) ?_ | exact True.intro | exact rfl | (show allP _; first | exact True.intro | (simp only [allP, go_sem, Bool.not_eq_true', Bool.not_eq_false', implies_true, true_and, and_true, and_self, imp_self]; done) | (simp [allP, go_sem]; done) | (simp [allP, go_sem] at *; first | done | assumption | omega | (simp_all; done)) | (simp only [allP, go_sem]; intros; simp_all; done) | (simp only [allP, go_sem, ByteArray.size_append, size_mk, List.size_toArray, List.length_append, List.length_cons, List.length_nil, and_true, true_and]; (repeat' apply And.intro) <;> omega)))
      refine runL_frz 0 (by simp only [go_sem]; rfl) ?_
      repeat' (first | apply runL_nil | refine runxP (by simp only [go_sem, e4]; rfl) (by rfl) ?_ ?_ | refine run_ret (by rfl) ?_ | (show allP _; first | exact True.intro | (simp only [allP, go_sem, Bool.not_eq_true', Bool.not_eq_false', implies_true, true_and, and_true, and_self, imp_self]; done) | (simp [allP, go_sem]; done) | (simp [allP, go_sem] at *; first | done | assumption | omega | (simp_all; done)) | (simp only [allP, go_sem]; intros; simp_all; done) | (simp only [allP, go_sem, ByteArray.size_append, size_mk, List.size_toArray, List.length_append, List.length_cons, List.length_nil, and_true, true_and]; (repeat' apply And.intro) <;> omega)))
      refine hfin ?_ _ rfl
      rw [← g4]
      cases hm : M - ps.length with
      | zero => simp only [spN, List.map_cons, List.map_nil, B_L]
      | succ m => simp only [spN, hc0, List.map_cons, List.map_nil, B_L]
    | some p =>
      obtain ⟨a, b⟩ := p
      obtain ⟨hix, hr, hna⟩ := cutL_some _ _ _ _ hc0
      have hrl : a.length + 1 + b.length = r.size := by rw [size_L, hr]; simp; omega
      have e5 : IntKind.i64.wrap ((a.length : Int) + 0) = ((a.length : Nat) : Int) := by rw [w64]; omega
      have e6 : IntKind.i64.wrap ((a.length : Int) + 1) = ((a.length + 1 : Nat) : Int) := by rw [w64]; omega
      repeat' (first | apply run_seq | apply run_skip | apply run_block | apply run_blk | apply run_region | apply runL_nil | refine runxP (by simp only [go_sem, hix, h1, h2, e4, e5, e6]; rfl) (by rfl) ?_ ?_ | refine stepcall K70 (by simp only [go_sem, hix, h1, h2, e4, e5, e6]; first | done | rfl) ?_ ⟨r, 32, rfl, rfl⟩ (by simp only [go_sem, hix, h1, h2, e4, e5, e6]; rfl) ?_ | (refine run_cond (by simp only [go_sem, hix, h1, h2, e4, e5, e6]; rfl) ?_ ?_ <;> intro hb <;> have hc := hb <;> (try simp only [decide_eq_true_eq, decide_eq_false_iff_not, Int.not_lt, Int.not_le, Int.ofNat_lt, Int.ofNat_le, Bool.and_eq_true, Bool.or_eq_true, Bool.or_eq_false_iff, Bool.not_eq_true', Bool.not_eq_false', beq_iff_eq, beq_eq_false_iff_ne, bne_iff_ne, bne_eq_false_iff_eq] at hc) <;> (try (exfalso; simp at hc; done))) | refine run_exit (by rfl) ?_ | refine run_lp (ps.length+1,r.extract (a.length+1) r.size,ps ++ [r.extract 0 a.length]) ?_ ?_ ⟨rfl, by simp only [go_sem]; repeat' (first | exact trivial | exact True.intro | exact SLe.refl _ | exact OLe.refl _ | exact ⟨_, rfl, OLe.refl _⟩ | refine ⟨_, rfl, ?_⟩ | refine OLe.var ?_ | (show SLeL _ _; refine ⟨?_, ?_⟩) | (show SLeL [] []; exact True.intro) | (refine SLe.int ?_; rw [w64]; omega) | refine SLe.int ?_ | refine SLe.bool ?_ | apply And.intro | (refine OLe.accS rfl (fun _ _ => psF_set _ _ _))), by simp only [go_sem]; repeat' (first | exact trivial | exact True.intro | exact SLe.refl _ | exact OLe.refl _ | exact ⟨_, rfl, OLe.refl _⟩ | refine ⟨_, rfl, ?_⟩ | refine OLe.var ?_ | (show SLeL _ _; refine ⟨?_, ?_⟩) | (show SLeL [] []; exact True.intro) | (refine SLe.int ?_; rw [w64]; omega) | refine SLe.int ?_ | refine SLe.bool ?_ | apply And.intro | (refine OLe.accS rfl (fun _ _ => psF_set _ _ _)))⟩ | exact True.intro | exact rfl | omega | (show allP _; first | exact True.intro | (simp only [allP, go_sem, Bool.not_eq_true', Bool.not_eq_false', implies_true, true_and, and_true, and_self, imp_self]; done) | (simp [allP, go_sem]; done) | (simp [allP, go_sem] at *; first | done | assumption | omega | (simp_all; done)) | (simp only [allP, go_sem]; intros; simp_all; done) | (simp only [allP, go_sem, ByteArray.size_append, size_mk, List.size_toArray, List.length_append, List.length_cons, List.length_nil, and_true, true_and]; (repeat' apply And.intro) <;> omega)))
      have q1 : L (r.extract (a.length + 1) r.size) = b := by
        rw [L_extract, hr, List.take_of_length_le (by simp; omega), show a.length + 1 = (a ++ [32]).length by simp, show a ++ 32 :: b = (a ++ [32]) ++ b by simp, List.drop_left]
      have q2 : L (r.extract 0 a.length) = a := by
        rw [L_extract, hr, List.drop_zero, Nat.sub_zero, List.take_left]
      refine ⟨by simp only; omega, by simp, by simp only; rw [size_L, q1]; omega, ?_⟩
      simp only
      rw [← g4, q1]
      have hm : M - ps.length = (M - (ps.length + 1)) + 1 := by omega
      rw [hm]
      simp only [spN, hc0]
      rw [List.append_assoc]
      congr 1
      have : r.extract 0 a.length = B a := by rw [← B_L (r.extract 0 a.length), q2]
      rw [this, List.map_cons, List.singleton_append]
  · have hi : ps.length = M := by omega
    repeat' (first | apply run_seq | apply run_region | apply runL_nil | refine runxP (by simp only [go_sem, e4]; rfl) (by rfl) ?_ ?_ | refine run_exit (by rfl) ?_ | exact True.intro | exact rfl | (show allP _; first | exact True.intro | (simp only [allP, go_sem, Bool.not_eq_true', Bool.not_eq_false', implies_true, true_and, and_true, and_self, imp_self]; done) | (simp [allP, go_sem]; done) | (simp [allP, go_sem] at *; first | done | assumption | omega | (simp_all; done)) | (simp only [allP, go_sem]; intros; simp_all; done) | (simp only [allP, go_sem, ByteArray.size_append, size_mk, List.size_toArray, List.length_append, List.length_cons, List.length_nil, and_true, true_and]; (repeat' apply And.intro) <;> omega)))
    refine runL_frz 0 (by simp only [go_sem]; rfl) ?_
    repeat' (first | apply runL_nil | refine runxP (by simp only [go_sem, e4]; rfl) (by rfl) ?_ ?_ | refine run_ret (by rfl) ?_ | (show allP _; first | exact True.intro | (simp only [allP, go_sem, Bool.not_eq_true', Bool.not_eq_false', implies_true, true_and, and_true, and_self, imp_self]; done) | (simp [allP, go_sem]; done) | (simp [allP, go_sem] at *; first | done | assumption | omega | (simp_all; done)) | (simp only [allP, go_sem]; intros; simp_all; done) | (simp only [allP, go_sem, ByteArray.size_append, size_mk, List.size_toArray, List.length_append, List.length_cons, List.length_nil, and_true, true_and]; (repeat' apply And.intro) <;> omega)))
    refine hfin ?_ _ rfl
    rw [← g4, hi, Nat.sub_self]
    simp only [spN, List.map_cons, List.map_nil, B_L]
theorem K52 : FnOK Tryz.prog 52 (fun ds d => ∃ s : ByteArray, s.size ≤ 400000000 ∧ ds = [.str s, .str (B [32]), .int .i64 3] ∧ d = .list 1 (spN 2 (L s)).length (psF ((spN 2 (L s)).map B))) := by
  refine fn_intro Tryz.call52 Tryz.func52 rfl Tryz.ntmps52 ?_
  rintro ds d ⟨s, hs, rfl, rfl⟩
  refine ⟨by simp, fun w0 => ?_⟩
  repeat' (first | apply run_seq | apply run_region | apply runL_nil | refine runxP (by simp only [go_sem]; rfl) (by rfl) ?_ ?_ | refine stepcall K61 (by simp only [go_sem]; first | done | rfl) ?_ ⟨s, hs, rfl, rfl⟩ (by simp only [go_sem]; rfl) ?_ | refine run_ret (by rfl) ?_ | exact True.intro | exact rfl | exact SLe0.pure rfl)
end Go.Sx
