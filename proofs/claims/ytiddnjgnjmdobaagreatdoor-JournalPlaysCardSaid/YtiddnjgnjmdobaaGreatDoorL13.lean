/- Part of the proofs that the laws of the journal return true for every input: L13a, L13. -/
import Derived.Test.YtiddnjgnjmdobaaGreatDoorL12
import Derived.Test.YtiddnjgnjmdobaaGreatDoorS3
set_option linter.unusedVariables false
set_option linter.unusedSimpArgs false
set_option linter.all false
/-! L13a: the bytes' places of a generic replacer. -/
namespace Go.Sx
open Go.Proofs Go.RowKit
set_option maxRecDepth 20000
def mapL (f : Nat → Int) : List SD := (List.range 256).map fun i => .int .u8 (f i)
theorem mapL_len (f : Nat → Int) : (mapL f).length = 256 := by simp [mapL]
def upF (f : Nat → Int) (i : Nat) (v : Int) : Nat → Int := fun j => if j = i then v else f j
theorem mapL_drop (f : Nat → Int) (i : Nat) (h : i < 256) : (mapL f).drop i = .int .u8 (f i) :: (mapL f).drop (i + 1) := by
  have hl : i < (mapL f).length := by rw [mapL_len]; exact h
  rw [List.drop_eq_getElem_cons hl]
  simp [mapL]
theorem mapL_set (f : Nat → Int) (i : Nat) (v : Int) (h : i < 256) : (mapL f).take i ++ (.int .u8 v :: (mapL f).drop (i + 1)) = mapL (upF f i v) := by
  apply List.ext_getElem?
  intro j
  have hl : (mapL f).length = 256 := mapL_len f
  have hg : ∀ (g : Nat → Int) (j : Nat), (mapL g)[j]? = if j < 256 then some (.int .u8 (g j)) else none := fun g j => by
    simp only [mapL, List.getElem?_map, List.getElem?_range']
    by_cases hj : j < 256
    · rw [List.getElem?_range hj, if_pos hj]; rfl
    · rw [if_neg hj, List.getElem?_eq_none (by simp; omega)]; rfl
  rcases Nat.lt_trichotomy j i with hj | hj | hj
  · rw [List.getElem?_append_left (by rw [List.length_take]; omega), List.getElem?_take_of_lt hj, hg, hg]
    simp only [upF, if_neg (show ¬ j = i by omega)]
  · subst hj
    rw [List.getElem?_append_right (by rw [List.length_take]; omega), List.length_take, hl, Nat.min_eq_left (by omega), Nat.sub_self, hg, if_pos h]
    simp [upF]
  · rw [List.getElem?_append_right (by rw [List.length_take]; omega), List.length_take, hl, Nat.min_eq_left (by omega)]
    obtain ⟨m, rfl⟩ : ∃ m, j = i + 1 + m := ⟨j - (i + 1), by omega⟩
    rw [show i + 1 + m - i = m + 1 by omega, List.getElem?_cons_succ, List.getElem?_drop, hg, hg]
    simp only [upF, if_neg (show ¬ i + 1 + m = i by omega)]
theorem il_men (k : Nat) : ∀ l : List Nat, ∀ f : Nat → Int, menL k (l.map fun i => SD.int .u8 (f i)) = false
  | [], _ => rfl
  | a :: r, f => by simp only [List.map_cons, menL, men, il_men k r f, Bool.or_self]
theorem il_pure : ∀ l : List Nat, ∀ f : Nat → Int, pureL (l.map fun i => SD.int .u8 (f i)) = true
  | [], _ => rfl
  | a :: r, f => by simp only [List.map_cons, pureL, pureD, il_pure r f, Bool.and_self]
theorem il_frz (k : Nat) (d0 : SD) (G : Nat → SD) (dm : SD) : ∀ l : List Nat, ∀ f : Nat → Int, frzL k d0 G dm (l.map fun i => SD.int .u8 (f i)) = l.map fun i => SD.int .u8 (f i)
  | [], _ => rfl
  | a :: r, f => by simp only [List.map_cons, frzL, frz, il_frz k d0 G dm r f]
theorem il_purge (k : Nat) : ∀ l : List Nat, ∀ f : Nat → Int, purgeL k (l.map fun i => SD.int .u8 (f i)) = l.map fun i => SD.int .u8 (f i)
  | [], _ => rfl
  | a :: r, f => by simp only [List.map_cons, purgeL, men, cond_false, il_purge k r f]
theorem il_prg (pb ph : Nat → Bool) : ∀ l : List Nat, ∀ f : Nat → Int, prgL pb ph (l.map fun i => SD.int .u8 (f i)) = l.map fun i => SD.int .u8 (f i)
  | [], _ => rfl
  | a :: r, f => by simp only [List.map_cons, prgL, allN, cond_true, il_prg pb ph r f]
theorem il_ren (σ : Nat → Nat) : ∀ l : List Nat, ∀ f : Nat → Int, renL σ (l.map fun i => SD.int .u8 (f i)) = l.map fun i => SD.int .u8 (f i)
  | [], _ => rfl
  | a :: r, f => by simp only [List.map_cons, renL, ren, il_ren σ r f]
theorem il_all (pb ph : Nat → Bool) : ∀ l : List Nat, ∀ f : Nat → Int, allNL pb ph (l.map fun i => SD.int .u8 (f i)) = true
  | [], _ => rfl
  | a :: r, f => by simp only [List.map_cons, allNL, allN, il_all pb ph r f, Bool.and_self]
theorem ml1 (k : Nat) (f : Nat → Int) : menL k (mapL f) = false := il_men k _ f
theorem ml2 (f : Nat → Int) : pureL (mapL f) = true := il_pure _ f
theorem ml3 (k : Nat) (d0 : SD) (G : Nat → SD) (dm : SD) (f : Nat → Int) : frzL k d0 G dm (mapL f) = mapL f := il_frz k d0 G dm _ f
theorem ml4 (k : Nat) (f : Nat → Int) : purgeL k (mapL f) = mapL f := il_purge k _ f
theorem ml5 (pb ph : Nat → Bool) (f : Nat → Int) : prgL pb ph (mapL f) = mapL f := il_prg pb ph _ f
theorem ml6 (σ : Nat → Nat) (f : Nat → Int) : renL σ (mapL f) = mapL f := il_ren σ _ f
theorem ml7 (pb ph : Nat → Bool) (f : Nat → Int) : allNL pb ph (mapL f) = true := il_all pb ph _ f
theorem mlt (f : Nat → Int) : (mapL f).take 256 = mapL f := List.take_of_length_le (by rw [mapL_len]; omega)
theorem mld (f : Nat → Int) : (mapL f).drop 256 = [] := List.drop_eq_nil_of_le (by rw [mapL_len]; omega)
theorem zcT168 : zcT Tryz.prog 168 = some (.agg (.str ByteArray.empty :: .int .i64 0 :: .str ByteArray.empty :: .nilp :: .nils :: .int .i64 0 :: mapL (fun _ => 0))) := by kernel_rfl
theorem plT130_all : ∀ i, i < 256 → plT Tryz.prog 130 i = some (i, 1) := by
  intro i hi
  have h : (List.range 256).all (fun i => plT Tryz.prog 130 i == some (i, 1)) = true := by kernel_rfl
  have := List.all_eq_true.1 h i (List.mem_range.2 hi)
  simpa using this
attribute [irreducible] mapL
attribute [go_sem] mapL_len ml1 ml2 ml3 ml4 ml5 ml6 ml7 mlt mld zcT168
theorem tU164 : Tryz.prog.underlying 164 = some (.slice 163) := by kernel_rfl
theorem info163 : (Tryz.prog.info? 163).map (fun i => (i.zero, i.size, i.bytes)) = some (some (.pointer none), 1, 8) := by kernel_rfl
end Go.Sx

/-! L13: a generic replacer's tree. -/
namespace Go.Sx
open Go.Proofs Go.RowKit
attribute [local irreducible] Run RunL RunD SLe0 SLe OLe
set_option maxHeartbeats 2000000
set_option maxRecDepth 8000
set_option linter.unusedSimpArgs false
set_option linter.unusedVariables false
@[go_sem] def eNd (v : ByteArray) (p : Int) (pre : ByteArray) (nx tb : SD) : OB := .var [.str v, .int .i64 p, .str pre, nx, tb]
@[go_sem] def eGr (tb : SD) (ts : Int) (f : Nat → Int) : OB := .var (.str ByteArray.empty :: .int .i64 0 :: .str ByteArray.empty :: .nilp :: tb :: .int .i64 ts :: mapL f)
theorem emb : (ByteArray.empty == ByteArray.empty) = true := rfl
theorem ems : ByteArray.empty.size = 0 := rfl
theorem emb2 : (ByteArray.empty == (⟨#[]⟩ : ByteArray)) = true := rfl
theorem emb3 (a : UInt8) : (B [a] == (⟨#[]⟩ : ByteArray)) = false := beq_eq_false_iff_ne.2 fun h => by have := congrArg ByteArray.size h; exact absurd this (by simp [size_mk])
theorem emb4 (a b : UInt8) : (B [a, b] == (⟨#[]⟩ : ByteArray)) = false := beq_eq_false_iff_ne.2 fun h => by have := congrArg ByteArray.size h; exact absurd this (by simp [size_mk])
theorem emb5 (a : UInt8) : (B [a] == ByteArray.empty) = false := emb3 a
theorem exs1 (a : UInt8) : (B [a]).extract 1 1 = ByteArray.empty := rfl
theorem exs2 (a b : UInt8) : (B [a, b]).extract 1 2 = B [b] := rfl
theorem gt0 (a b : UInt8) : (B [a, b]).data.toList.getD 0 0 = a := rfl
attribute [go_sem] emb ems emb2 emb3 emb4 emb5 exs1 exs2 gt0
theorem A3 : FnM Tryz.prog 111 (fun ds os d os' => ∃ (v : ByteArray) (p : Int), True ∧ ds = [.loc 1000 0, .str ByteArray.empty, .str v, .int .i64 p, .any] ∧ os = [eNd ByteArray.empty 0 ByteArray.empty .nilp .nils] ∧ d = .tup [] ∧ os' = [(1000, eNd v p ByteArray.empty .nilp .nils)]) := by
  refine fn_introM Tryz.call111 Tryz.func111 rfl Tryz.ntmps111 ?_
  rintro ds os d os' ⟨v, p, -, rfl, rfl, rfl, rfl⟩
  refine ⟨by simp, fun F w0 => ?_⟩
  repeat' (first | apply run_seq | apply run_region | apply runL_nil | refine runxP (by simp only [go_sem]; rfl) (by rfl) ?_ ?_ | (refine run_cond (by simp only [go_sem]; rfl) ?_ ?_ <;> intro hb <;> have hc := hb <;> (try simp only [decide_eq_true_eq, decide_eq_false_iff_not, Int.not_lt, Int.not_le, Int.ofNat_lt, Int.ofNat_le, Bool.and_eq_true, Bool.or_eq_true, Bool.or_eq_false_iff, Bool.not_eq_true', Bool.not_eq_false', beq_iff_eq, beq_eq_false_iff_ne, bne_iff_ne, bne_eq_false_iff_eq] at hc) <;> (try (exfalso; simp at hc; done))) | refine run_retM (by rfl) (by simp only [go_sem]; rfl) ?_ ?_ | exact True.intro | exact rfl | exact SLe.refl _ | (show subO _ _; simp only [go_sem]; repeat' (first | exact trivial | exact True.intro | exact SLe.refl _ | exact OLe.refl _ | exact ⟨_, rfl, OLe.refl _⟩ | refine ⟨_, rfl, ?_⟩ | refine OLe.var ?_ | (show SLeL _ _; refine ⟨?_, ?_⟩) | (show SLeL [] []; exact True.intro) | (refine SLe.int ?_; rw [w64]; omega) | refine SLe.int ?_ | refine SLe.bool ?_ | apply And.intro)))
theorem A2 : FnM Tryz.prog 111 (fun ds os d os' => ∃ (f : Nat → Int) (v : ByteArray), True ∧ ds = [.loc 1000 0, .str (B [92]), .str v, .int .i64 4, .loc 1001 0] ∧ os = [eNd ByteArray.empty 0 ByteArray.empty .nilp .nils, eGr (.vsl 1002 0 2 2) 2 f, .var [.loc 1000 0, .nilp]] ∧ d = .tup [] ∧
    os' = [(1000, eNd ByteArray.empty 0 (B [92]) (.loc 0 0) .nils), (1001, eGr (.vsl 1002 0 2 2) 2 f), (1002, .var [.loc 1000 0, .nilp]), (0, eNd v 4 ByteArray.empty .nilp .nils)]) := by
  refine fn_introM Tryz.call111 Tryz.func111 rfl Tryz.ntmps111 ?_
  rintro ds os d os' ⟨f, v, -, rfl, rfl, rfl, rfl⟩
  refine ⟨by simp, fun F w0 => ?_⟩
  repeat' (first | apply run_seq | apply run_skip | apply run_region | apply runL_nil | refine runxP (by simp only [go_sem]; rfl) (by rfl) ?_ ?_ | (refine run_cond (by simp only [go_sem]; rfl) ?_ ?_ <;> intro hb <;> have hc := hb <;> (try simp only [decide_eq_true_eq, decide_eq_false_iff_not, Int.not_lt, Int.not_le, Int.ofNat_lt, Int.ofNat_le, Bool.and_eq_true, Bool.or_eq_true, Bool.or_eq_false_iff, Bool.not_eq_true', Bool.not_eq_false', beq_iff_eq, beq_eq_false_iff_ne, bne_iff_ne, bne_eq_false_iff_eq] at hc) <;> (try (exfalso; simp at hc; done))) | exact True.intro | exact rfl)
  refine runL_fgt 239 (by simp only [go_sem]; rfl) ?_
  repeat' (first | apply runL_nil | refine stepcallM [0] A3 (by rfl) (by simp only [go_sem]; first | done | rfl) (by simp only [go_sem]) (by first | (simp only [go_sem]; done) | (simp only [go_sem]; rfl)) ?_ ⟨v, 4, trivial, rfl, rfl, rfl, rfl⟩ (by simp only [go_sem]; rfl) ?_ | refine run_endM (by rfl) ?_ ?_ | exact True.intro | exact SLe.refl _ | (show subO _ _; simp only [go_sem]; repeat' (first | exact trivial | exact True.intro | exact SLe.refl _ | exact OLe.refl _ | exact ⟨_, rfl, OLe.refl _⟩ | refine ⟨_, rfl, ?_⟩ | refine OLe.var ?_ | (show SLeL _ _; refine ⟨?_, ?_⟩) | (show SLeL [] []; exact True.intro) | (refine SLe.int ?_; rw [w64]; omega) | refine SLe.int ?_ | refine SLe.bool ?_ | apply And.intro)))
theorem A1 : FnM Tryz.prog 111 (fun ds os d os' => ∃ (f : Nat → Int) (v : ByteArray), (f 92 = 0) ∧ ds = [.loc 1000 0, .str (B [92, 92]), .str v, .int .i64 4, .loc 1000 0] ∧ os = [eGr (.vsl 1001 0 2 2) 2 f, .var [.nilp, .nilp]] ∧ d = .tup [] ∧
    os' = [(1000, eGr (.vsl 1001 0 2 2) 2 f), (1001, .var [.loc 0 0, .nilp]), (0, eNd ByteArray.empty 0 (B [92]) (.loc 1 0) .nils), (1, eNd v 4 ByteArray.empty .nilp .nils)]) := by
  refine fn_introM Tryz.call111 Tryz.func111 rfl Tryz.ntmps111 ?_
  rintro ds os d os' ⟨f, v, hf, rfl, rfl, rfl, rfl⟩
  refine ⟨by simp, fun F w0 => ?_⟩
  have hpl := plT130_all 92 (by omega)
  have hdr := mapL_drop f 92 (by omega)
  repeat' (first | apply run_seq | apply run_skip | apply run_region | apply run_draw | apply runL_nil | refine runxP (by simp only [go_sem, hpl, hdr, hf]; rfl) (by rfl) ?_ ?_ | refine runDqP (by simp only [go_sem, hpl, hdr, hf]; rfl) (by rfl) ?_ ?_ | refine runD_end (by kernel_rfl) (by kernel_rfl) ?_ | refine runDcallM [0, 1000, 1001] A2 (by rfl) (by simp only [go_sem, hpl, hdr, hf]; first | done | rfl) (by simp only [go_sem, hpl, hdr, hf]) (by first | (simp only [go_sem, hpl, hdr, hf]; done) | (simp only [go_sem, hpl, hdr, hf]; rfl)) ?_ ⟨f, v, trivial, rfl, rfl, rfl, rfl⟩ (by simp only [go_sem, hpl, hdr, hf]; rfl) ?_ | (refine run_cond (by simp only [go_sem, hpl, hdr, hf]; rfl) ?_ ?_ <;> intro hb <;> have hc := hb <;> (try simp only [decide_eq_true_eq, decide_eq_false_iff_not, Int.not_lt, Int.not_le, Int.ofNat_lt, Int.ofNat_le, Bool.and_eq_true, Bool.or_eq_true, Bool.or_eq_false_iff, Bool.not_eq_true', Bool.not_eq_false', beq_iff_eq, beq_eq_false_iff_ne, bne_iff_ne, bne_eq_false_iff_eq] at hc) <;> (try (exfalso; simp at hc; done))) | refine run_endM (by rfl) ?_ ?_ | exact True.intro | exact rfl | exact SLe.refl _ | (show subO _ _; simp only [go_sem, hpl, hdr, hf]; repeat' (first | exact trivial | exact True.intro | exact SLe.refl _ | exact OLe.refl _ | exact ⟨_, rfl, OLe.refl _⟩ | refine ⟨_, rfl, ?_⟩ | refine OLe.var ?_ | (show SLeL _ _; refine ⟨?_, ?_⟩) | (show SLeL [] []; exact True.intro) | (refine SLe.int ?_; rw [w64]; omega) | refine SLe.int ?_ | refine SLe.bool ?_ | apply And.intro)) | (show allP _; first | exact True.intro | (simp only [allP, go_sem, Bool.not_eq_true', Bool.not_eq_false', implies_true, true_and, and_true, and_self, imp_self]; done) | (simp [allP, go_sem]; done) | (simp [allP, go_sem] at *; first | done | assumption | omega | (simp_all; done)) | (simp only [allP, go_sem]; intros; simp_all; done) | (simp only [allP, go_sem, ByteArray.size_append, size_mk, List.size_toArray, List.length_append, List.length_cons, List.length_nil, and_true, true_and]; (repeat' apply And.intro) <;> omega)))
end Go.Sx
