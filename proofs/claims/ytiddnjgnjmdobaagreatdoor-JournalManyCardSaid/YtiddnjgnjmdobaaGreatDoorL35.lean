/- Part of the proof that JournalMany returns true for every input: L35. -/
import Derived.Test.YtiddnjgnjmdobaaGreatDoorL34
set_option linter.unusedVariables false
set_option linter.unusedSimpArgs false
set_option linter.all false
/-! L35: the states that the law's sanity meets (plain), and what the log does in them. -/
namespace Go.Sx
open Go.Proofs Go.RowKit
theorem decL_n10 (n : Nat) : 10 ∉ decL n := by
  induction n using Nat.strongRecOn with
  | _ n ih =>
    rw [decL]
    by_cases h : n < 10
    · rw [if_pos h]
      intro hc
      simp only [List.mem_singleton] at hc
      have := congrArg UInt8.toNat hc
      simp at this
      omega
    · rw [if_neg h]
      intro hc
      rcases List.mem_append.1 hc with hc | hc
      · exact ih (n / 10) (by omega) hc
      · simp only [List.mem_singleton] at hc
        have := congrArg UInt8.toNat hc
        simp at this
        omega
theorem hxD_n10 : ∀ n : Nat, n < 16 → hxD n ≠ 10 := by decide
theorem hexL_n10 (l : List UInt8) : 10 ∉ hexL l := by
  intro hc
  simp only [hexL, List.mem_flatMap, List.mem_cons, List.not_mem_nil, or_false] at hc
  obtain ⟨x, _, h | h⟩ := hc
  · exact hxD_n10 _ (by have := x.toNat_lt; omega) h.symm
  · exact hxD_n10 _ (by omega) h.symm
theorem escL_n10 (l : List UInt8) : 10 ∉ escL l := by
  intro hc
  simp only [escL, List.mem_flatMap] at hc
  obtain ⟨x, _, h⟩ := hc
  unfold escC at h
  split at h
  · simp at h
  · split at h
    · simp at h
    · rename_i h2; simp only [List.mem_singleton] at h; exact h2 h.symm
theorem line_split (r : List UInt8) : ∃ a, lineL r = a ++ [10] ∧ 10 ∉ a := by
  refine ⟨decL r.length ++ [32] ++ hexL (dgR (B r)) ++ [32] ++ escL r, by simp [lineL], ?_⟩
  simp only [List.mem_append, List.mem_singleton, not_or]
  exact ⟨⟨⟨⟨decL_n10 _, by decide⟩, hexL_n10 _⟩, by decide⟩, escL_n10 _⟩
theorem recOf_line (r : List UInt8) : recOf (lineL r) = some r := by
  unfold recOf; rw [parse_line, if_pos rfl]
theorem recs_line (r rest : List UInt8) : recs [] (lineL r ++ rest) = r :: recs [] rest := by
  obtain ⟨a, h1, h2⟩ := line_split r
  have h3 : lineL r ++ rest = a ++ 10 :: rest := by rw [h1]; simp
  rw [h3, recs_app a rest h2, List.nil_append, ← h1, recOf_line]; rfl
theorem lineL_min (r : List UInt8) : 18 ≤ (lineL r).length := by
  have l2 : (hexL (dgR (B r))).length = 16 := by rw [hexL_len, dgR_len]
  simp only [lineL, List.length_append, List.length_cons, List.length_nil]; omega
theorem recs_torn (a : List UInt8) (h : 10 ∉ a) (hl : a.length ≤ 10) : recs [] (a ++ [10]) = [] := by
  have h1 : recOf (a ++ [10]) = none := by
    unfold recOf
    rw [if_neg]
    intro hc
    have h2 := lineL_min (parse 0 (a ++ [10]))
    rw [hc] at h2
    simp at h2; omega
  rw [recs_app a [] h, List.nil_append, h1]; rfl
def wk (t : ByteArray) : Dk := ⟨t, 0, false, false, 0⟩
def rs (t : ByteArray) : List ByteArray := (recs [] (L t)).map B
theorem lastN_line (t : ByteArray) (r : List UInt8) : lastN (t ++ B (lineL r)) = false := by
  obtain ⟨a, h1, _⟩ := line_split r
  have hz : 0 < (t ++ B (lineL r)).size := by have hq : (B (lineL r)).size = (lineL r).length := size_B _; rw [ByteArray.size_append, hq, h1]; simp; omega
  have hL : L (t ++ B (lineL r)) = (L t ++ a) ++ [10] := by
    have : L (t ++ B (lineL r)) = L t ++ lineL r := by simp [L, B]
    rw [this, h1]; simp
  unfold lastN
  have h4 : (t ++ B (lineL r)).data.toList.getD ((t ++ B (lineL r)).size - 1) 0 = 10 := by
    show (L (t ++ B (lineL r))).getD _ 0 = 10
    rw [size_L, hL, List.length_append, List.length_singleton, Nat.add_sub_cancel, List.getD_eq_getElem?_getD, List.getElem?_append_right (Nat.le_refl _), Nat.sub_self]; rfl
  rw [h4, decide_eq_true (show (t ++ B (lineL r)).size > 0 from hz)]; rfl
theorem wk_put (t s : ByteArray) : puOk (wk t) s = true ∧ puD (wk t) s = wk (t ++ s) := by
  simp [puOk, puD, wOk, wrD, wDk, syD, wk]
theorem FnM.weaken {P : Program} {f : Nat} {R R' : List SD → List OB → SD → List (Nat × OB) → Prop} (hf : FnM P f R) (h : ∀ ds os d os', R' ds os d os' → R ds os d os') : FnM P f R' := ⟨hf.call, fun ds os d os' hr => hf.ok ds os d os' (h ds os d os' hr)⟩
theorem K25w : FnM Tryz.prog 25 (fun ds os d os' => ∃ (t s : ByteArray) (n : Int), (t.size + (liB s).size ≤ 262144 ∧ s.size ≤ 400000000) ∧ ds = [.loc 1000 0, .str s] ∧ os = [eLg 1001 ⟨n, false⟩, eDk (wk t)] ∧ d = eInt 0 ∧
    os' = [(1000, eLg 1001 ⟨IntKind.i64.wrap (n + 1), false⟩), (1001, eDk (wk (t ++ liB s)))]) := by
  refine (K25of K44).weaken ?_
  rintro ds os d os' ⟨t, s, n, ⟨h1, h2⟩, rfl, rfl, rfl, rfl⟩
  have h3 : decide (t.size + (liB s).size > 262144) = false := decide_eq_false (by omega)
  have h3' : decide ((wk t).t.size + (liB s).size > 262144) = false := h3
  have e1 : apE ⟨n, false⟩ (wk t) s = 0 := by unfold apE; rw [h3', (wk_put t (liB s)).1]; rfl
  have e2 : apL ⟨n, false⟩ (wk t) s = ⟨IntKind.i64.wrap (n + 1), false⟩ := by unfold apL; rw [h3', (wk_put t (liB s)).1]; rfl
  have e3 : apK ⟨n, false⟩ (wk t) s = wk (t ++ liB s) := by unfold apK; rw [h3', (wk_put t (liB s)).2]; rfl
  exact ⟨⟨n, false⟩, wk t, s, ⟨by show t.size ≤ _; omega, h2⟩, rfl, rfl, by rw [e1], by rw [e2, e3]⟩
theorem K25f : FnM Tryz.prog 25 (fun ds os d os' => ∃ (t s : ByteArray) (n : Int), (t.size + (liB s).size ≤ 262144 ∧ s.size ≤ 400000000) ∧ ds = [.loc 1000 0, .str s] ∧ os = [eLg 1001 ⟨n, false⟩, eDk ⟨t, 0, false, true, 1⟩] ∧ d = eInt 54 ∧
    os' = [(1000, eLg 1001 ⟨n, true⟩), (1001, eDk ⟨t ++ liB s, ((liB s).size : Int), true, true, 0⟩)]) := by
  refine (K25of K44).weaken ?_
  rintro ds os d os' ⟨t, s, n, ⟨h1, h2⟩, rfl, rfl, rfl, rfl⟩
  have h3 : decide (((⟨t, 0, false, true, 1⟩ : Dk)).t.size + (liB s).size > 262144) = false := decide_eq_false (by show ¬ (t.size + _ > _); omega)
  have w0 : IntKind.i64.wrap 0 = 0 := by decide
  have w1 : IntKind.i64.wrap ((0 : Int) + ((liB s).size : Int)) = ((liB s).size : Int) := by rw [w64]; omega
  have p1 : puOk ⟨t, 0, false, true, 1⟩ (liB s) = false := by simp [puOk, wOk, wrD, wDk, w0]
  have p2 : puD ⟨t, 0, false, true, 1⟩ (liB s) = ⟨t ++ liB s, ((liB s).size : Int), true, true, 0⟩ := by
    simp only [puD, wOk, wrD, wDk, syD, Bool.not_false, Bool.true_and, cond_true, cond_false, decide_true, decide_false, Bool.not_true]
    simp [w0]
    rw [Int.zero_add] at w1; exact w1
  exact ⟨⟨n, false⟩, ⟨t, 0, false, true, 1⟩, s, ⟨by show t.size ≤ _; omega, h2⟩, rfl, rfl, by unfold apE; rw [h3, p1]; rfl, by unfold apL apK; rw [h3, p1, p2]; rfl⟩
theorem K25b : FnM Tryz.prog 25 (fun ds os d os' => ∃ (k : Dk) (s : ByteArray) (n : Int), (k.t.size ≤ 400000000 ∧ s.size ≤ 400000000) ∧ ds = [.loc 1000 0, .str s] ∧ os = [eLg 1001 ⟨n, true⟩, eDk k] ∧ d = eInt 54 ∧ os' = [(1000, eLg 1001 ⟨n, true⟩), (1001, eDk k)]) := by
  refine (K25of K44).weaken ?_
  rintro ds os d os' ⟨k, s, n, h, rfl, rfl, rfl, rfl⟩
  exact ⟨⟨n, true⟩, k, s, h, rfl, rfl, rfl, rfl⟩
theorem K22w : FnM Tryz.prog 22 (fun ds os d os' => ∃ (t : ByteArray), (t.size ≤ 300000000 ∧ lastN t = false) ∧ ds = [.loc 1000 0] ∧ os = [eDk (wk t)] ∧ d = .tup [.loc 0 0, strs (rs t)] ∧ os' = [(1000, eDk (wk t)), (0, eLg 1000 ⟨((rs t).length : Int), false⟩)]) := by
  refine K22t.weaken ?_
  rintro ds os d os' ⟨t, ⟨h1, h2⟩, rfl, rfl, rfl, rfl⟩
  have h3 : opOk (wk t) = true := by simp [opOk, wk, h2]
  have h4 : opD (wk t) = wk t := by simp [opD, wk, h2]
  exact ⟨wk t, ⟨h1, h3⟩, rfl, rfl, by rw [h4]; rfl, by rw [h4]; simp [rs, wk]⟩
theorem K20w : FnM Tryz.prog 20 (fun ds os d os' => ∃ (t x : ByteArray), (t.size ≤ 400000000 ∧ x.size ≤ 400000000 ∧ 3 ≤ x.size) ∧ ds = [.loc 1000 0, eInt 3] ∧ os = [eDk ⟨t ++ x, (x.size : Int), true, true, 0⟩] ∧ d = .tup [] ∧ os' = [(1000, eDk (wk (t ++ x.extract 0 3)))]) := by
  refine K20.weaken ?_
  rintro ds os d os' ⟨t, x, ⟨h1, h2, h3⟩, rfl, rfl, rfl, rfl⟩
  have hs : (t ++ x).size = t.size + x.size := ByteArray.size_append
  have e1 : loS ⟨t ++ x, (x.size : Int), true, true, 0⟩ 3 = (x.size : Int) - 3 := by
    simp only [loS, Bool.cond_decide]
    rw [if_neg (by omega), if_neg (by omega)]
  have e2 : (((t ++ x).size : Int) - ((x.size : Int) - 3)).toNat = t.size + 3 := by rw [hs]; omega
  have e3 : (t ++ x).extract 0 (t.size + 3) = t ++ x.extract 0 3 := L_inj (by
    have q1 : L (t ++ x) = L t ++ L x := by simp [L]
    have q2 : L (t ++ x.extract 0 3) = L t ++ L (x.extract 0 3) := by simp [L]
    rw [L_extract, q1, q2, L_extract, List.drop_zero, List.drop_zero, Nat.sub_zero, Nat.sub_zero, size_L, List.take_length_add_append])
  refine ⟨⟨t ++ x, (x.size : Int), true, true, 0⟩, 3, ⟨by show (0 : Int) ≤ (x.size : Int); omega, by show (x.size : Int) ≤ ((t ++ x).size : Int); rw [hs]; omega, by show (t ++ x).size ≤ _; rw [hs]; omega⟩, rfl, rfl, rfl, ?_⟩
  rw [e1]
  show [(1000, eDk (wk (t ++ x.extract 0 3)))] = [(1000, eDk ⟨(t ++ x).extract 0 (((t ++ x).size : Int) - ((x.size : Int) - 3)).toNat, 0, false, false, 0⟩)]
  rw [e2, e3]; rfl
end Go.Sx
