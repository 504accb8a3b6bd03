/- Part of the proofs that the laws of the journal return true for every input: L32. -/
import Derived.Test.YtiddnjgnjmdobaaGreatDoorL31
import Derived.Test.YtiddnjgnjmdobaaGreatDoorL30
import Derived.Test.YtiddnjgnjmdobaaGreatDoorL8
set_option linter.unusedVariables false
set_option linter.unusedSimpArgs false
set_option linter.all false
/-! L32: the program's Open. -/
namespace Go.Sx
open Go.Proofs Go.RowKit
attribute [local irreducible] Run RunL RunD OpT SLe0 SLe OLe
set_option maxHeartbeats 2000000
set_option maxRecDepth 8000
set_option linter.unusedSimpArgs false
set_option linter.unusedVariables false
theorem run_st {P : Program} {F : List Nat} {w0 : Base} {fin : Exit → Act → World → Prop} {k : List It} {s s' : St} (h : s = s') (hn : Run P F w0 fin k s') : Run P F w0 fin k s := h ▸ hn
theorem sufB_last (t : ByteArray) (h : 0 < t.size) : sufB t (B [10]) = !(lastN t) := by
  have h2 : (B [10]).size = 1 := rfl
  have hl : t.size - 1 < (L t).length := by rw [← size_L]; omega
  have h3 : t.extract (t.size - 1) t.size = B [(L t)[t.size - 1]] := L_inj (by
    rw [L_extract, show t.size - (t.size - 1) = 1 by omega]
    exact (congrArg (List.take 1) (List.drop_eq_getElem_cons hl)).trans rfl)
  have h4 : t.data.toList.getD (t.size - 1) 0 = (L t)[t.size - 1] := by
    rw [List.getD_eq_getElem?_getD]
    show ((L t)[t.size - 1]?).getD 0 = _
    rw [List.getElem?_eq_getElem hl]; rfl
  unfold sufB lastN
  rw [h2, h3, h4]
  generalize (L t)[t.size - 1] = c
  have h5 : decide (1 ≤ t.size) = true := decide_eq_true (by omega)
  have h6 : decide (t.size > 0) = true := decide_eq_true h
  rw [h5, h6, Bool.true_and, Bool.true_and]
  by_cases hc : c = 10
  · subst hc; rfl
  · have h7 : (B [c] == B [10]) = false := beq_eq_false_iff_ne.2 fun hx => hc (by have := congrArg L hx; simpa [L_B] using this)
    have h8 : ((c.toNat : Int) != 10) = true := by
      rw [bne_iff_ne]
      intro hx
      exact hc (UInt8.toNat_inj.1 (by show c.toNat = 10; omega))
    rw [h7, h8]; rfl
theorem whole_of (t : ByteArray) (h : lastN t = false) : Whole (L t) := by
  rcases List.eq_nil_or_concat (L t) with h0 | ⟨y, c, hy⟩
  · exact .inl h0
  · right
    rw [List.concat_eq_append] at hy
    have hsz : t.size = y.length + 1 := by rw [size_L, hy]; simp
    have h4 : t.data.toList.getD (t.size - 1) 0 = c := by
      show (L t).getD (t.size - 1) 0 = c
      rw [hy, hsz, Nat.add_sub_cancel, List.getD_eq_getElem?_getD, List.getElem?_append_right (Nat.le_refl _), Nat.sub_self]; rfl
    refine ⟨y, ?_⟩
    rw [hy]
    unfold lastN at h
    rw [h4, hsz] at h
    simp only [gt_iff_lt, Nat.zero_lt_succ, decide_true, Bool.true_and, bne_eq_false_iff_eq] at h
    have : c = 10 := UInt8.toNat_inj.1 (by show c.toNat = 10; omega)
    rw [this]
theorem whole_D (k : Dk) (h : opOk k = true) : Whole (L (opD k).t) := by
  cases hl : lastN k.t
  · simp only [opD, hl, cond_false]; exact whole_of _ hl
  · have hpu : puOk k (B [10]) = true := by simpa [opOk, opOff h, hl] using h
    have hw : wOk k = true := by cases h : wOk k <;> simp [puOk, h] at hpu ⊢
    simp only [opD, hl, cond_true, puD, hw]
    rw [syD_t, wrD_t _ _ hw]
    exact .inr ⟨L k.t, by simp [L, B]⟩
theorem open_law (k : Dk) (h : opOk k = true) : (picL (L (opD k).t)).foldl recO' [] = (recs [] (L (opD k).t)).map B := by
  rw [recs_law _ _ (Nat.le_refl _) (whole_D k h)]; rfl
theorem K22f : FnM Tryz.prog 22 (fun ds os d os' => ∃ (k : Dk), (k.t.size ≤ 300000000 ∧ opOk k = false) ∧ ds = [.loc 1000 0] ∧ os = [eDk k] ∧ d = .tup [.nilp, .nils] ∧ os' = [(1000, eDk (bif k.off then k else opD k))]) := by
  refine fn_introMX Tryz.call22 Tryz.func22 rfl Tryz.ntmps22 ?_
  rintro ds os d os' ⟨k, ⟨h1, h2⟩, rfl, rfl, rfl, rfl⟩
  refine ⟨by simp, fun F w0 => ?_⟩
  have b1 : (B [10]).size = 1 := rfl
  have hs1 : k.t.size + (B [10]).size ≤ 9223372036854775807 := by rw [b1]; omega
  cases hof : k.off
  · have hl : lastN k.t = true := by cases h : lastN k.t <;> simp [opOk, h, hof] at h2 ⊢
    have hz : k.t.size > 0 := by
      rcases Nat.eq_zero_or_pos k.t.size with h | h
      · simp [lastN, h] at hl
      · exact h
    have hne : (k.t == ByteArray.empty) = false := beq_eq_false_iff_ne.2 fun hx => by rw [hx] at hz; simp at hz
    have hsf : sufB k.t (B [10]) = false := by rw [sufB_last _ hz, hl]; rfl
    have hpu : puOk k (B [10]) = false := by simpa [opOk, hof, hl] using h2
    have hss : k.t.size ≤ 68719476736 ∧ (B [10]).size ≤ 68719476736 := ⟨by omega, by rw [b1]; omega⟩
    simp only [opD, hl, cond_true, cond_false]
    repeat' (first | apply run_seq | apply run_skip | apply run_region | apply runL_nil | refine runxP (by simp only [go_sem, hof, hne, hsf, hpu]; rfl) (by rfl) ?_ ?_ | refine stepcallg 23 (by rfl) (by simp only [go_sem, hof, hne, hsf, hpu]; rfl) K41 (by simp only [go_sem, hof, hne, hsf, hpu]; first | done | rfl) (fun hg => ?_) (fun _ => ⟨k.t, B [10], hss, rfl, rfl⟩) (by simp only [go_sem, hof, hne, hsf, hpu]; rfl) ?_ | refine stepcallM [0, 1000] K42 (by rfl) (by simp only [go_sem, hof, hne, hsf, hpu]; first | done | rfl) (by simp only [go_sem, hof, hne, hsf, hpu]) (by first | (simp only [go_sem, hof, hne, hsf, hpu]; done) | (simp only [go_sem, hof, hne, hsf, hpu]; rfl)) ?_ ⟨⟨0, false⟩, k, B [10], hs1, rfl, rfl, rfl, rfl⟩ (by simp only [go_sem, hof, hne, hsf, hpu]; rfl) ?_ | refine runL_gT 31 (by rfl) (by simp only [go_sem, hof, hne, hsf, hpu]; first | done | rfl) ?_ | (refine run_cond (by simp only [go_sem, hof, hne, hsf, hpu]; rfl) ?_ ?_ <;> intro hb <;> have hc := hb <;> (try simp only [decide_eq_true_eq, decide_eq_false_iff_not, Int.not_lt, Int.not_le, Int.ofNat_lt, Int.ofNat_le, Bool.and_eq_true, Bool.or_eq_true, Bool.or_eq_false_iff, Bool.not_eq_true', Bool.not_eq_false', beq_iff_eq, beq_eq_false_iff_ne, bne_iff_ne, bne_eq_false_iff_eq] at hc) <;> (try (exfalso; simp at hc; done))) | refine run_retMX (by rfl) (by simp only [go_sem, hof, hne, hsf, hpu]; rfl) ?_ ?_ | exact True.intro | exact rfl | exact SLe.refl _ | (show subO _ _; simp only [go_sem, hof, hne, hsf, hpu]; repeat' (first | exact trivial | exact True.intro | exact SLe.refl _ | exact OLe.refl _ | exact ⟨_, rfl, OLe.refl _⟩ | refine ⟨_, rfl, ?_⟩ | refine OLe.var ?_ | (show SLeL _ _; refine ⟨?_, ?_⟩) | (show SLeL [] []; exact True.intro) | (refine SLe.int ?_; rw [w64]; omega) | refine SLe.int ?_ | refine SLe.bool ?_ | apply And.intro)) | (show allP _; first | exact True.intro | (simp only [allP, go_sem, Bool.not_eq_true', Bool.not_eq_false', implies_true, true_and, and_true, and_self, imp_self]; done) | (simp [allP, go_sem]; done) | (simp [allP, go_sem] at *; first | done | assumption | omega | (simp_all; done)) | (simp only [allP, go_sem]; intros; simp_all; done) | (simp only [allP, go_sem, ByteArray.size_append, size_mk, List.size_toArray, List.length_append, List.length_cons, List.length_nil, and_true, true_and]; (repeat' apply And.intro) <;> omega)))
  · simp only [cond_true]
    repeat' (first | apply run_seq | apply run_region | apply runL_nil | refine runxP (by simp only [go_sem, hof]; rfl) (by rfl) ?_ ?_ | (refine run_cond (by simp only [go_sem, hof]; rfl) ?_ ?_ <;> intro hb <;> have hc := hb <;> (try simp only [decide_eq_true_eq, decide_eq_false_iff_not, Int.not_lt, Int.not_le, Int.ofNat_lt, Int.ofNat_le, Bool.and_eq_true, Bool.or_eq_true, Bool.or_eq_false_iff, Bool.not_eq_true', Bool.not_eq_false', beq_iff_eq, beq_eq_false_iff_ne, bne_iff_ne, bne_eq_false_iff_eq] at hc) <;> (try (exfalso; simp at hc; done))) | refine run_retMX (by rfl) (by simp only [go_sem, hof]; rfl) ?_ ?_ | exact True.intro | exact rfl | exact SLe.refl _ | (show subO _ _; simp only [go_sem, hof]; repeat' (first | exact trivial | exact True.intro | exact SLe.refl _ | exact OLe.refl _ | exact ⟨_, rfl, OLe.refl _⟩ | refine ⟨_, rfl, ?_⟩ | refine OLe.var ?_ | (show SLeL _ _; refine ⟨?_, ?_⟩) | (show SLeL [] []; exact True.intro) | (refine SLe.int ?_; rw [w64]; omega) | refine SLe.int ?_ | refine SLe.bool ?_ | apply And.intro)) | (show allP _; first | exact True.intro | (simp only [allP, go_sem, Bool.not_eq_true', Bool.not_eq_false', implies_true, true_and, and_true, and_self, imp_self]; done) | (simp [allP, go_sem]; done) | (simp [allP, go_sem] at *; first | done | assumption | omega | (simp_all; done)) | (simp only [allP, go_sem]; intros; simp_all; done) | (simp only [allP, go_sem, ByteArray.size_append, size_mk, List.size_toArray, List.length_append, List.length_cons, List.length_nil, and_true, true_and]; (repeat' apply And.intro) <;> omega)))
end Go.Sx
