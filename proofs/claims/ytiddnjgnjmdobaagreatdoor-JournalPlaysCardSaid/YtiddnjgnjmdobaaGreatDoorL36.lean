/- Part of the proofs that the laws of the journal return true for every input: L35, L36. -/
import Derived.Test.YtiddnjgnjmdobaaGreatDoorL34
import Derived.Test.YtiddnjgnjmdobaaGreatDoorL18
set_option linter.unusedVariables false
set_option linter.unusedSimpArgs false
set_option linter.all false
/-! L35: the states that the law's sanity meets (plain), and what the log does in them. -/
namespace Go.Sx
open Go.Proofs Go.RowKit
theorem decL_n10 (n : Nat) : 10 ∉ decL n := by
  induction n using Nat.strongRecOn with
  | _ n ih =>
    rw [decL]
    by_cases h : n < 10
    · rw [if_pos h]
      intro hc
      simp only [List.mem_singleton] at hc
      have := congrArg UInt8.toNat hc
      simp at this
      omega
    · rw [if_neg h]
      intro hc
      rcases List.mem_append.1 hc with hc | hc
      · exact ih (n / 10) (by omega) hc
      · simp only [List.mem_singleton] at hc
        have := congrArg UInt8.toNat hc
        simp at this
        omega
theorem hxD_n10 : ∀ n : Nat, n < 16 → hxD n ≠ 10 := by decide
theorem hexL_n10 (l : List UInt8) : 10 ∉ hexL l := by
  intro hc
  simp only [hexL, List.mem_flatMap, List.mem_cons, List.not_mem_nil, or_false] at hc
  obtain ⟨x, _, h | h⟩ := hc
  · exact hxD_n10 _ (by have := x.toNat_lt; omega) h.symm
  · exact hxD_n10 _ (by omega) h.symm
theorem escL_n10 (l : List UInt8) : 10 ∉ escL l := by
  intro hc
  simp only [escL, List.mem_flatMap] at hc
  obtain ⟨x, _, h⟩ := hc
  unfold escC at h
  split at h
  · simp at h
  · split at h
    · simp at h
    · rename_i h2; simp only [List.mem_singleton] at h; exact h2 h.symm
theorem line_split (r : List UInt8) : ∃ a, lineL r = a ++ [10] ∧ 10 ∉ a := by
  refine ⟨decL r.length ++ [32] ++ hexL (dgR (B r)) ++ [32] ++ escL r, by simp [lineL], ?_⟩
  simp only [List.mem_append, List.mem_singleton, not_or]
  exact ⟨⟨⟨⟨decL_n10 _, by decide⟩, hexL_n10 _⟩, by decide⟩, escL_n10 _⟩
theorem recOf_line (r : List UInt8) : recOf (lineL r) = some r := by
  unfold recOf; rw [parse_line, if_pos rfl]
theorem recs_line (r rest : List UInt8) : recs [] (lineL r ++ rest) = r :: recs [] rest := by
  obtain ⟨a, h1, h2⟩ := line_split r
  have h3 : lineL r ++ rest = a ++ 10 :: rest := by rw [h1]; simp
  rw [h3, recs_app a rest h2, List.nil_append, ← h1, recOf_line]; rfl
theorem lineL_min (r : List UInt8) : 18 ≤ (lineL r).length := by
  have l2 : (hexL (dgR (B r))).length = 16 := by rw [hexL_len, dgR_len]
  simp only [lineL, List.length_append, List.length_cons, List.length_nil]; omega
def wk (t : ByteArray) : Dk := ⟨t, 0, false, false, 0⟩
def rs (t : ByteArray) : List ByteArray := (recs [] (L t)).map B
theorem lastN_line (t : ByteArray) (r : List UInt8) : lastN (t ++ B (lineL r)) = false := by
  obtain ⟨a, h1, _⟩ := line_split r
  have hz : 0 < (t ++ B (lineL r)).size := by have hq : (B (lineL r)).size = (lineL r).length := size_B _; rw [ByteArray.size_append, hq, h1]; simp; omega
  have hL : L (t ++ B (lineL r)) = (L t ++ a) ++ [10] := by
    have : L (t ++ B (lineL r)) = L t ++ lineL r := by simp [L, B]
    rw [this, h1]; simp
  unfold lastN
  have h4 : (t ++ B (lineL r)).data.toList.getD ((t ++ B (lineL r)).size - 1) 0 = 10 := by
    show (L (t ++ B (lineL r))).getD _ 0 = 10
    rw [size_L, hL, List.length_append, List.length_singleton, Nat.add_sub_cancel, List.getD_eq_getElem?_getD, List.getElem?_append_right (Nat.le_refl _), Nat.sub_self]; rfl
  rw [h4, decide_eq_true (show (t ++ B (lineL r)).size > 0 from hz)]; rfl
theorem wk_put (t s : ByteArray) : puOk (wk t) s = true ∧ puD (wk t) s = wk (t ++ s) := by
  simp [puOk, puD, wOk, wrD, wDk, syD, wk]
theorem FnM.weaken {P : Program} {f : Nat} {R R' : List SD → List OB → SD → List (Nat × OB) → Prop} (hf : FnM P f R) (h : ∀ ds os d os', R' ds os d os' → R ds os d os') : FnM P f R' := ⟨hf.call, fun ds os d os' hr => hf.ok ds os d os' (h ds os d os' hr)⟩
theorem K25w : FnM Tryz.prog 25 (fun ds os d os' => ∃ (t s : ByteArray) (n : Int), (t.size + (liB s).size ≤ 262144 ∧ s.size ≤ 400000000) ∧ ds = [.loc 1000 0, .str s] ∧ os = [eLg 1001 ⟨n, false⟩, eDk (wk t)] ∧ d = eInt 0 ∧
    os' = [(1000, eLg 1001 ⟨IntKind.i64.wrap (n + 1), false⟩), (1001, eDk (wk (t ++ liB s)))]) := by
  refine (K25of K44).weaken ?_
  rintro ds os d os' ⟨t, s, n, ⟨h1, h2⟩, rfl, rfl, rfl, rfl⟩
  have h3 : decide (t.size + (liB s).size > 262144) = false := decide_eq_false (by omega)
  have h3' : decide ((wk t).t.size + (liB s).size > 262144) = false := h3
  have e1 : apE ⟨n, false⟩ (wk t) s = 0 := by unfold apE; rw [h3', (wk_put t (liB s)).1]; rfl
  have e2 : apL ⟨n, false⟩ (wk t) s = ⟨IntKind.i64.wrap (n + 1), false⟩ := by unfold apL; rw [h3', (wk_put t (liB s)).1]; rfl
  have e3 : apK ⟨n, false⟩ (wk t) s = wk (t ++ liB s) := by unfold apK; rw [h3', (wk_put t (liB s)).2]; rfl
  exact ⟨⟨n, false⟩, wk t, s, ⟨by show t.size ≤ _; omega, h2⟩, rfl, rfl, by rw [e1], by rw [e2, e3]⟩
theorem K25f : FnM Tryz.prog 25 (fun ds os d os' => ∃ (t s : ByteArray) (n : Int), (t.size + (liB s).size ≤ 262144 ∧ s.size ≤ 400000000) ∧ ds = [.loc 1000 0, .str s] ∧ os = [eLg 1001 ⟨n, false⟩, eDk ⟨t, 0, false, true, 1⟩] ∧ d = eInt 54 ∧
    os' = [(1000, eLg 1001 ⟨n, true⟩), (1001, eDk ⟨t ++ liB s, ((liB s).size : Int), true, true, 0⟩)]) := by
  refine (K25of K44).weaken ?_
  rintro ds os d os' ⟨t, s, n, ⟨h1, h2⟩, rfl, rfl, rfl, rfl⟩
  have h3 : decide (((⟨t, 0, false, true, 1⟩ : Dk)).t.size + (liB s).size > 262144) = false := decide_eq_false (by show ¬ (t.size + _ > _); omega)
  have w0 : IntKind.i64.wrap 0 = 0 := by decide
  have w1 : IntKind.i64.wrap ((0 : Int) + ((liB s).size : Int)) = ((liB s).size : Int) := by rw [w64]; omega
  have p1 : puOk ⟨t, 0, false, true, 1⟩ (liB s) = false := by simp [puOk, wOk, wrD, wDk, w0]
  have p2 : puD ⟨t, 0, false, true, 1⟩ (liB s) = ⟨t ++ liB s, ((liB s).size : Int), true, true, 0⟩ := by
    simp only [puD, wOk, wrD, wDk, syD, Bool.not_false, Bool.true_and, cond_true, cond_false, decide_true, decide_false, Bool.not_true]
    simp [w0]
    rw [Int.zero_add] at w1; exact w1
  exact ⟨⟨n, false⟩, ⟨t, 0, false, true, 1⟩, s, ⟨by show t.size ≤ _; omega, h2⟩, rfl, rfl, by unfold apE; rw [h3, p1]; rfl, by unfold apL apK; rw [h3, p1, p2]; rfl⟩
theorem K25b : FnM Tryz.prog 25 (fun ds os d os' => ∃ (k : Dk) (s : ByteArray) (n : Int), (k.t.size ≤ 400000000 ∧ s.size ≤ 400000000) ∧ ds = [.loc 1000 0, .str s] ∧ os = [eLg 1001 ⟨n, true⟩, eDk k] ∧ d = eInt 54 ∧ os' = [(1000, eLg 1001 ⟨n, true⟩), (1001, eDk k)]) := by
  refine (K25of K44).weaken ?_
  rintro ds os d os' ⟨k, s, n, h, rfl, rfl, rfl, rfl⟩
  exact ⟨⟨n, true⟩, k, s, h, rfl, rfl, rfl, rfl⟩
theorem K22w : FnM Tryz.prog 22 (fun ds os d os' => ∃ (t : ByteArray), (t.size ≤ 300000000 ∧ lastN t = false) ∧ ds = [.loc 1000 0] ∧ os = [eDk (wk t)] ∧ d = .tup [.loc 0 0, strs (rs t)] ∧ os' = [(1000, eDk (wk t)), (0, eLg 1000 ⟨((rs t).length : Int), false⟩)]) := by
  refine K22t.weaken ?_
  rintro ds os d os' ⟨t, ⟨h1, h2⟩, rfl, rfl, rfl, rfl⟩
  have h3 : opOk (wk t) = true := by simp [opOk, wk, h2]
  have h4 : opD (wk t) = wk t := by simp [opD, wk, h2]
  exact ⟨wk t, ⟨h1, h3⟩, rfl, rfl, by rw [h4]; rfl, by rw [h4]; simp [rs, wk]⟩
theorem K20w : FnM Tryz.prog 20 (fun ds os d os' => ∃ (t x : ByteArray), (t.size ≤ 400000000 ∧ x.size ≤ 400000000 ∧ 3 ≤ x.size) ∧ ds = [.loc 1000 0, eInt 3] ∧ os = [eDk ⟨t ++ x, (x.size : Int), true, true, 0⟩] ∧ d = .tup [] ∧ os' = [(1000, eDk (wk (t ++ x.extract 0 3)))]) := by
  refine K20.weaken ?_
  rintro ds os d os' ⟨t, x, ⟨h1, h2, h3⟩, rfl, rfl, rfl, rfl⟩
  have hs : (t ++ x).size = t.size + x.size := ByteArray.size_append
  have e1 : loS ⟨t ++ x, (x.size : Int), true, true, 0⟩ 3 = (x.size : Int) - 3 := by
    simp only [loS, Bool.cond_decide]
    rw [if_neg (by omega), if_neg (by omega)]
  have e2 : (((t ++ x).size : Int) - ((x.size : Int) - 3)).toNat = t.size + 3 := by rw [hs]; omega
  have e3 : (t ++ x).extract 0 (t.size + 3) = t ++ x.extract 0 3 := L_inj (by
    have q1 : L (t ++ x) = L t ++ L x := by simp [L]
    have q2 : L (t ++ x.extract 0 3) = L t ++ L (x.extract 0 3) := by simp [L]
    rw [L_extract, q1, q2, L_extract, List.drop_zero, List.drop_zero, Nat.sub_zero, Nat.sub_zero, size_L, List.take_length_add_append])
  refine ⟨⟨t ++ x, (x.size : Int), true, true, 0⟩, 3, ⟨by show (0 : Int) ≤ (x.size : Int); omega, by show (x.size : Int) ≤ ((t ++ x).size : Int); rw [hs]; omega, by show (t ++ x).size ≤ _; rw [hs]; omega⟩, rfl, rfl, rfl, ?_⟩
  rw [e1]
  show [(1000, eDk (wk (t ++ x.extract 0 3)))] = [(1000, eDk ⟨(t ++ x).extract 0 (((t ++ x).size : Int) - ((x.size : Int) - 3)).toNat, 0, false, false, 0⟩)]
  rw [e2, e3]; rfl
end Go.Sx

/-! L36: the law's sanity. -/
namespace Go.Sx
open Go.Proofs Go.RowKit
attribute [local irreducible] Run RunL RunD OpT SLe0 SLe OLe
set_option maxHeartbeats 2000000
set_option maxRecDepth 8000
set_option linter.unusedSimpArgs false
set_option linter.unusedVariables false
theorem K33w : FnM Tryz.prog 33 (fun ds os d os' => ∃ (t u : ByteArray) (want : List ByteArray), ((t.size ≤ 300000000 ∧ want.length ≤ 60000000000) ∧ u = (bif lastN t then t ++ B [10] else t) ∧ rs u = want) ∧ ds = [.loc 1000 0, strs want] ∧ os = [eDk (wk t)] ∧ d = .bool true ∧ os' = [(1000, eDk (wk u))]) := by
  refine K33.weaken ?_
  rintro ds os d os' ⟨t, u, want, ⟨h1, rfl, h3⟩, rfl, rfl, rfl, rfl⟩
  have q1 : opOk (wk t) = true := by unfold opOk; rw [(wk_put t (B [10])).1]; simp [wk]
  have q2 : opD (wk t) = wk (bif lastN t then t ++ B [10] else t) := by
    unfold opD
    rw [(wk_put t (B [10])).2, show (wk t).t = t from rfl]
    cases lastN t <;> rfl
  have q3 : opA (wk t) = wk (bif lastN t then t ++ B [10] else t) := by unfold opA; rw [q2]; rfl
  have q4 : opR (wk t) = want := by unfold opR; rw [q2]; exact h3
  exact ⟨wk t, want, h1, rfl, rfl, by rw [q1, q4]; simp, by rw [q3]⟩
def sA : ByteArray := B [97, 98]
def sC : ByteArray := B [97, 10, 92]
def sX : ByteArray := B [120]
def sY : ByteArray := B [121]
def sE : ByteArray := B []
def T1 : ByteArray := ByteArray.empty ++ liB sA
def T2 : ByteArray := T1 ++ liB sE
def T3 : ByteArray := T2 ++ liB sC
theorem liB_small (s : ByteArray) (h : s.size ≤ 20) : (liB s).size ≤ 80 := by
  have : (liB s).size = (lineL (L s)).length := size_B _
  rw [this]
  have := lineL_len (L s) (by rw [← size_L]; omega)
  rw [← size_L] at this; omega
theorem zA : sA.size = 2 := rfl
theorem zC : sC.size = 3 := rfl
theorem zX : sX.size = 1 := rfl
theorem zY : sY.size = 1 := rfl
theorem zE : sE.size = 0 := rfl
theorem z1 : T1.size ≤ 80 := by unfold T1; rw [ByteArray.size_append]; have := liB_small sA (by rw [zA]; omega); simp; omega
theorem z2 : T2.size ≤ 160 := by unfold T2; rw [ByteArray.size_append]; have := liB_small sE (by rw [zE]; omega); have := z1; omega
theorem z3 : T3.size ≤ 240 := by unfold T3; rw [ByteArray.size_append]; have := liB_small sC (by rw [zC]; omega); have := z2; omega
theorem c1 : ByteArray.empty.size + (liB sA).size ≤ 262144 ∧ sA.size ≤ 400000000 := by have := liB_small sA (by rw [zA]; omega); rw [zA]; simp; omega
theorem c2 : T1.size + (liB sE).size ≤ 262144 ∧ sE.size ≤ 400000000 := by have := liB_small sE (by rw [zE]; omega); rw [zE]; have := z1; omega
theorem c3 : T2.size + (liB sC).size ≤ 262144 ∧ sC.size ≤ 400000000 := by have := liB_small sC (by rw [zC]; omega); rw [zC]; have := z2; omega
theorem c4 : T3.size + (liB sX).size ≤ 262144 ∧ sX.size ≤ 400000000 := by have := liB_small sX (by rw [zX]; omega); rw [zX]; have := z3; omega
theorem ln0 : lastN ByteArray.empty = false := by simp [lastN]
theorem w01 : IntKind.i64.wrap (0 + 1) = 1 := by decide
theorem w12 : IntKind.i64.wrap (1 + 1) = 2 := by decide
theorem w23 : IntKind.i64.wrap (2 + 1) = 3 := by decide
def x3 : ByteArray := (liB sX).extract 0 3
def T4 : ByteArray := T3 ++ x3
def T5 : ByteArray := T4 ++ B [10]
def T6 : ByteArray := T5 ++ liB sY
def kFl : Dk := ⟨T3 ++ liB sX, ((liB sX).size : Int), true, true, 0⟩
theorem L_app (a b : ByteArray) : L (a ++ b) = L a ++ L b := by simp [L]
theorem L_liB (s : ByteArray) : L (liB s) = lineL (L s) := rfl
theorem L_T3 : L T3 = lineL [97, 98] ++ (lineL [] ++ lineL [97, 10, 92]) := by
  unfold T3 T2 T1
  rw [L_app, L_app, L_app, L_liB, L_liB, L_liB]
  show [] ++ lineL [97, 98] ++ lineL [] ++ lineL [97, 10, 92] = _
  simp
theorem hWt : (⟨#[50, 32]⟩ : ByteArray) ++ B (hexL (dgR sA)) ++ ⟨#[32, 97, 98, 10, 48, 32]⟩ ++ B (hexL (dgR sE)) ++ ⟨#[32, 10, 51, 32]⟩ ++ B (hexL (dgR sC)) ++ ⟨#[32, 97, 92, 110, 92, 92, 10]⟩ = T3 := L_inj (by
  rw [L_T3]
  simp only [L_app]
  have d2 : decL 2 = [50] := decL_lt 2 (by omega)
  have d0 : decL 0 = [48] := decL_lt 0 (by omega)
  have d3 : decL 3 = [51] := decL_lt 3 (by omega)
  have f1 : lineL [97, 98] = decL 2 ++ [32] ++ hexL (dgR sA) ++ [32] ++ [97, 98] ++ [10] := rfl
  have f2 : lineL [] = decL 0 ++ [32] ++ hexL (dgR sE) ++ [32] ++ [] ++ [10] := rfl
  have f3 : lineL [97, 10, 92] = decL 3 ++ [32] ++ hexL (dgR sC) ++ [32] ++ [97, 92, 110, 92, 92] ++ [10] := rfl
  rw [f1, f2, f3, d2, d0, d3]
  show [50, 32] ++ hexL (dgR sA) ++ [32, 97, 98, 10, 48, 32] ++ hexL (dgR sE) ++ [32, 10, 51, 32] ++ hexL (dgR sC) ++ [32, 97, 92, 110, 92, 92, 10] = _
  simp)
theorem dg_cons (s : ByteArray) : ∃ c r, dgR s = c :: r := by
  cases h : dgR s with
  | nil => have := dgR_len s; rw [h] at this; simp at this
  | cons c r => exact ⟨c, r, rfl⟩
def h0 : UInt8 := hxD (((dgR sX).headD 0).toNat / 16)
theorem h0n : h0 ≠ 10 := hxD_n10 _ (by have := ((dgR sX).headD 0).toNat_lt; omega)
theorem L_x3 : L x3 = [49, 32, h0] := by
  obtain ⟨c, r, hc⟩ := dg_cons sX
  unfold x3
  rw [L_extract, L_liB]
  have d1 : decL 1 = [49] := decL_lt 1 (by omega)
  have f1 : lineL (L sX) = decL 1 ++ [32] ++ hexL (dgR sX) ++ [32] ++ escL [120] ++ [10] := rfl
  rw [f1, d1]
  unfold h0
  rw [hc]
  simp [hexL]
theorem L_T5 : L T5 = lineL [97, 98] ++ (lineL [] ++ (lineL [97, 10, 92] ++ ([49, 32, h0] ++ [10]))) := by
  unfold T5 T4
  rw [L_app, L_app, L_T3, L_x3]
  show _ ++ [10] = _
  simp
theorem h5 : T3 ++ (⟨#[49, 32]⟩ : ByteArray) ++ (B (hexL (L (B (dgR sX) ++ (⟨#[32]⟩ : ByteArray))))).extract 0 1 ++ ⟨#[10]⟩ = T5 := L_inj (by
  obtain ⟨c, r, hc⟩ := dg_cons sX
  unfold T5 T4
  simp only [L_app, L_x3, L_extract]
  show L T3 ++ [49, 32] ++ ((hexL (dgR sX ++ [32])).drop 0).take (1 - 0) ++ [10] = L T3 ++ [49, 32, h0] ++ [10]
  unfold h0
  rw [hc]
  simp [hexL])
theorem torn (rest : List UInt8) : recs [] ([49, 32, h0] ++ 10 :: rest) = recs [] rest := by
  have hn : 10 ∉ [49, 32, h0] := by
    simp only [List.mem_cons, List.not_mem_nil, or_false, not_or]
    exact ⟨by decide, by decide, fun h => h0n h.symm⟩
  rw [recs_app _ rest hn, List.nil_append]
  have h1 : recOf ([49, 32, h0] ++ [10]) = none := by
    unfold recOf
    rw [if_neg]
    intro hc
    have h2 := lineL_min (parse 0 ([49, 32, h0] ++ [10]))
    rw [hc] at h2
    simp at h2
  rw [h1]; rfl
theorem rsT5 : rs T5 = [sA, sE, sC] := by
  unfold rs
  rw [L_T5, recs_line, recs_line, recs_line, torn []]; rfl
theorem rsT6 : rs T6 = [sA, sE, sC, sY] := by
  unfold rs T6
  rw [L_app, L_T5, L_liB]
  have : lineL [97, 98] ++ (lineL [] ++ (lineL [97, 10, 92] ++ ([49, 32, h0] ++ [10]))) ++ lineL (L sY) = lineL [97, 98] ++ (lineL [] ++ (lineL [97, 10, 92] ++ ([49, 32, h0] ++ 10 :: (lineL (L sY) ++ [])))) := by simp
  rw [this, recs_line, recs_line, recs_line, torn, recs_line]; rfl
theorem lnT4 : lastN T4 = true := by
  have hz : T4.size = T3.size + 3 := by unfold T4; rw [ByteArray.size_append, size_L x3, L_x3]; rfl
  have hL : L T4 = (L T3 ++ [49, 32]) ++ [h0] := by unfold T4; rw [L_app, L_x3]; simp
  have hl : T4.size = (L T3 ++ [49, 32]).length + 1 := by rw [size_L T4, hL]; simp
  have h4 : T4.data.toList.getD (T4.size - 1) 0 = h0 := by
    show (L T4).getD _ 0 = h0
    rw [hl, hL, Nat.add_sub_cancel, List.getD_eq_getElem?_getD, List.getElem?_append_right (Nat.le_refl _), Nat.sub_self]; rfl
  unfold lastN
  rw [h4, decide_eq_true (show T4.size > 0 by omega), Bool.true_and, bne_iff_ne]
  intro hx
  exact h0n (UInt8.toNat_inj.1 (by show h0.toNat = 10; omega))
theorem lnT5 : lastN T5 = false := by
  have hl : T5.size = T4.size + 1 := by unfold T5; rw [ByteArray.size_append]; rfl
  have hL : L T5 = L T4 ++ [10] := by unfold T5; rw [L_app]
  have h4 : T5.data.toList.getD (T5.size - 1) 0 = 10 := by
    show (L T5).getD _ 0 = 10
    rw [hl, hL, Nat.add_sub_cancel, size_L T4, List.getD_eq_getElem?_getD, List.getElem?_append_right (Nat.le_refl _), Nat.sub_self]; rfl
  unfold lastN
  rw [h4, decide_eq_true (show T5.size > 0 by omega)]; rfl
theorem z4 : T4.size ≤ 243 := by have := z3; unfold T4; rw [ByteArray.size_append, size_L x3, L_x3]; simp; omega
theorem z5 : T5.size ≤ 244 := by have := z4; unfold T5; rw [ByteArray.size_append]; have : (B [10]).size = 1 := rfl; omega
theorem z6 : T6.size ≤ 324 := by have := z5; unfold T6; rw [ByteArray.size_append]; have := liB_small sY (by rw [zY]; omega); omega
theorem c6 : T5.size + (liB sY).size ≤ 262144 ∧ sY.size ≤ 400000000 := by have := liB_small sY (by rw [zY]; omega); rw [zY]; have := z5; omega
theorem zF : kFl.t.size ≤ 400 := by show (T3 ++ liB sX).size ≤ 400; rw [ByteArray.size_append]; have := liB_small sX (by rw [zX]; omega); have := z3; omega
theorem cb : kFl.t.size ≤ 400000000 ∧ sX.size ≤ 400000000 := ⟨by have := zF; omega, by rw [zX]; omega⟩
theorem cF : kFl.t.size ≤ 300000000 ∧ opOk kFl = false := ⟨by have := zF; omega, rfl⟩
theorem c20 : T3.size ≤ 400000000 ∧ (liB sX).size ≤ 400000000 ∧ 3 ≤ (liB sX).size := by
  refine ⟨by have := z3; omega, by have := liB_small sX (by rw [zX]; omega); omega, ?_⟩
  have h1 : (liB sX).size = (lineL (L sX)).length := size_B _
  have := lineL_min (L sX); omega
theorem c33 : (T4.size ≤ 300000000 ∧ [sA, sE, sC].length ≤ 60000000000) ∧ T5 = (bif lastN T4 then T4 ++ B [10] else T4) ∧ rs T5 = [sA, sE, sC] := ⟨⟨by have := z4; omega, by simp⟩, by rw [lnT4]; rfl, rsT5⟩
theorem c33' : (T6.size ≤ 300000000 ∧ [sA, sE, sC, sY].length ≤ 60000000000) ∧ T6 = (bif lastN T6 then T6 ++ B [10] else T6) ∧ rs T6 = [sA, sE, sC, sY] := ⟨⟨by have := z6; omega, by simp⟩, by unfold T6; rw [show liB sY = B (lineL (L sY)) from rfl, lastN_line]; rfl, rsT6⟩
theorem c22 : T5.size ≤ 300000000 ∧ lastN T5 = false := ⟨by have := z5; omega, lnT5⟩
theorem wkt (t : ByteArray) : (wk t).t = t := rfl
end Go.Sx
