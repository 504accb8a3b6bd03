/- Part of the proof that JournalMany returns true for every input: L36. -/
import Derived.Test.YtiddnjgnjmdobaaGreatDoorL35
import Derived.Test.YtiddnjgnjmdobaaGreatDoorL17
set_option linter.unusedVariables false
set_option linter.unusedSimpArgs false
set_option linter.all false
/-! L36: the law's sanity. -/
namespace Go.Sx
open Go.Proofs Go.RowKit
attribute [local irreducible] Run RunL RunD OpT SLe0 SLe OLe
set_option maxHeartbeats 2000000
set_option maxRecDepth 8000
set_option linter.unusedSimpArgs false
set_option linter.unusedVariables false
theorem K33w : FnM Tryz.prog 33 (fun ds os d os' => ∃ (t u : ByteArray) (want : List ByteArray), ((t.size ≤ 300000000 ∧ want.length ≤ 60000000000) ∧ u = (bif lastN t then t ++ B [10] else t) ∧ rs u = want) ∧ ds = [.loc 1000 0, strs want] ∧ os = [eDk (wk t)] ∧ d = .bool true ∧ os' = [(1000, eDk (wk u))]) := by
  refine K33.weaken ?_
  rintro ds os d os' ⟨t, u, want, ⟨h1, rfl, h3⟩, rfl, rfl, rfl, rfl⟩
  have q1 : opOk (wk t) = true := by unfold opOk; rw [(wk_put t (B [10])).1]; simp [wk]
  have q2 : opD (wk t) = wk (bif lastN t then t ++ B [10] else t) := by
    unfold opD
    rw [(wk_put t (B [10])).2, show (wk t).t = t from rfl]
    cases lastN t <;> rfl
  have q3 : opA (wk t) = wk (bif lastN t then t ++ B [10] else t) := by unfold opA; rw [q2]; rfl
  have q4 : opR (wk t) = want := by unfold opR; rw [q2]; exact h3
  exact ⟨wk t, want, h1, rfl, rfl, by rw [q1, q4]; simp, by rw [q3]⟩
def sA : ByteArray := B [97, 98]
def sC : ByteArray := B [97, 10, 92]
def sX : ByteArray := B [120]
def sY : ByteArray := B [121]
def sE : ByteArray := B []
def T1 : ByteArray := ByteArray.empty ++ liB sA
def T2 : ByteArray := T1 ++ liB sE
def T3 : ByteArray := T2 ++ liB sC
theorem liB_small (s : ByteArray) (h : s.size ≤ 20) : (liB s).size ≤ 80 := by
  have : (liB s).size = (lineL (L s)).length := size_B _
  rw [this]
  have := lineL_len (L s) (by rw [← size_L]; omega)
  rw [← size_L] at this; omega
theorem zA : sA.size = 2 := rfl
theorem zC : sC.size = 3 := rfl
theorem zX : sX.size = 1 := rfl
theorem zY : sY.size = 1 := rfl
theorem zE : sE.size = 0 := rfl
theorem z1 : T1.size ≤ 80 := by unfold T1; rw [ByteArray.size_append]; have := liB_small sA (by rw [zA]; omega); simp; omega
theorem z2 : T2.size ≤ 160 := by unfold T2; rw [ByteArray.size_append]; have := liB_small sE (by rw [zE]; omega); have := z1; omega
theorem z3 : T3.size ≤ 240 := by unfold T3; rw [ByteArray.size_append]; have := liB_small sC (by rw [zC]; omega); have := z2; omega
theorem c1 : ByteArray.empty.size + (liB sA).size ≤ 262144 ∧ sA.size ≤ 400000000 := by have := liB_small sA (by rw [zA]; omega); rw [zA]; simp; omega
theorem c2 : T1.size + (liB sE).size ≤ 262144 ∧ sE.size ≤ 400000000 := by have := liB_small sE (by rw [zE]; omega); rw [zE]; have := z1; omega
theorem c3 : T2.size + (liB sC).size ≤ 262144 ∧ sC.size ≤ 400000000 := by have := liB_small sC (by rw [zC]; omega); rw [zC]; have := z2; omega
theorem c4 : T3.size + (liB sX).size ≤ 262144 ∧ sX.size ≤ 400000000 := by have := liB_small sX (by rw [zX]; omega); rw [zX]; have := z3; omega
theorem rs0 : rs ByteArray.empty = [] := rfl
theorem rs0l : (rs ByteArray.empty).length = 0 := rfl
theorem ln0 : lastN ByteArray.empty = false := by simp [lastN]
theorem w01 : IntKind.i64.wrap (0 + 1) = 1 := by decide
theorem w12 : IntKind.i64.wrap (1 + 1) = 2 := by decide
theorem w23 : IntKind.i64.wrap (2 + 1) = 3 := by decide
def x3 : ByteArray := (liB sX).extract 0 3
def T4 : ByteArray := T3 ++ x3
def T5 : ByteArray := T4 ++ B [10]
def T6 : ByteArray := T5 ++ liB sY
def kFl : Dk := ⟨T3 ++ liB sX, ((liB sX).size : Int), true, true, 0⟩
theorem L_app (a b : ByteArray) : L (a ++ b) = L a ++ L b := by simp [L]
theorem L_liB (s : ByteArray) : L (liB s) = lineL (L s) := rfl
theorem L_T3 : L T3 = lineL [97, 98] ++ (lineL [] ++ lineL [97, 10, 92]) := by
  unfold T3 T2 T1
  rw [L_app, L_app, L_app, L_liB, L_liB, L_liB]
  show [] ++ lineL [97, 98] ++ lineL [] ++ lineL [97, 10, 92] = _
  simp
theorem hWt : (⟨#[50, 32]⟩ : ByteArray) ++ B (hexL (dgR sA)) ++ ⟨#[32, 97, 98, 10, 48, 32]⟩ ++ B (hexL (dgR sE)) ++ ⟨#[32, 10, 51, 32]⟩ ++ B (hexL (dgR sC)) ++ ⟨#[32, 97, 92, 110, 92, 92, 10]⟩ = T3 := L_inj (by
  rw [L_T3]
  simp only [L_app]
  have d2 : decL 2 = [50] := decL_lt 2 (by omega)
  have d0 : decL 0 = [48] := decL_lt 0 (by omega)
  have d3 : decL 3 = [51] := decL_lt 3 (by omega)
  have f1 : lineL [97, 98] = decL 2 ++ [32] ++ hexL (dgR sA) ++ [32] ++ [97, 98] ++ [10] := rfl
  have f2 : lineL [] = decL 0 ++ [32] ++ hexL (dgR sE) ++ [32] ++ [] ++ [10] := rfl
  have f3 : lineL [97, 10, 92] = decL 3 ++ [32] ++ hexL (dgR sC) ++ [32] ++ [97, 92, 110, 92, 92] ++ [10] := rfl
  rw [f1, f2, f3, d2, d0, d3]
  show [50, 32] ++ hexL (dgR sA) ++ [32, 97, 98, 10, 48, 32] ++ hexL (dgR sE) ++ [32, 10, 51, 32] ++ hexL (dgR sC) ++ [32, 97, 92, 110, 92, 92, 10] = _
  simp)
theorem dg_cons (s : ByteArray) : ∃ c r, dgR s = c :: r := by
  cases h : dgR s with
  | nil => have := dgR_len s; rw [h] at this; simp at this
  | cons c r => exact ⟨c, r, rfl⟩
def h0 : UInt8 := hxD (((dgR sX).headD 0).toNat / 16)
theorem h0n : h0 ≠ 10 := hxD_n10 _ (by have := ((dgR sX).headD 0).toNat_lt; omega)
theorem L_x3 : L x3 = [49, 32, h0] := by
  obtain ⟨c, r, hc⟩ := dg_cons sX
  unfold x3
  rw [L_extract, L_liB]
  have d1 : decL 1 = [49] := decL_lt 1 (by omega)
  have f1 : lineL (L sX) = decL 1 ++ [32] ++ hexL (dgR sX) ++ [32] ++ escL [120] ++ [10] := rfl
  rw [f1, d1]
  unfold h0
  rw [hc]
  simp [hexL]
theorem L_T5 : L T5 = lineL [97, 98] ++ (lineL [] ++ (lineL [97, 10, 92] ++ ([49, 32, h0] ++ [10]))) := by
  unfold T5 T4
  rw [L_app, L_app, L_T3, L_x3]
  show _ ++ [10] = _
  simp
theorem h5 : T3 ++ (⟨#[49, 32]⟩ : ByteArray) ++ (B (hexL (L (B (dgR sX) ++ (⟨#[32]⟩ : ByteArray))))).extract 0 1 ++ ⟨#[10]⟩ = T5 := L_inj (by
  obtain ⟨c, r, hc⟩ := dg_cons sX
  unfold T5 T4
  simp only [L_app, L_x3, L_extract]
  show L T3 ++ [49, 32] ++ ((hexL (dgR sX ++ [32])).drop 0).take (1 - 0) ++ [10] = L T3 ++ [49, 32, h0] ++ [10]
  unfold h0
  rw [hc]
  simp [hexL])
theorem torn (rest : List UInt8) : recs [] ([49, 32, h0] ++ 10 :: rest) = recs [] rest := by
  have hn : 10 ∉ [49, 32, h0] := by
    simp only [List.mem_cons, List.not_mem_nil, or_false, not_or]
    exact ⟨by decide, by decide, fun h => h0n h.symm⟩
  rw [recs_app _ rest hn, List.nil_append]
  have h1 : recOf ([49, 32, h0] ++ [10]) = none := by
    unfold recOf
    rw [if_neg]
    intro hc
    have h2 := lineL_min (parse 0 ([49, 32, h0] ++ [10]))
    rw [hc] at h2
    simp at h2
  rw [h1]; rfl
theorem rsT5 : rs T5 = [sA, sE, sC] := by
  unfold rs
  rw [L_T5, recs_line, recs_line, recs_line, torn []]; rfl
theorem rsT6 : rs T6 = [sA, sE, sC, sY] := by
  unfold rs T6
  rw [L_app, L_T5, L_liB]
  have : lineL [97, 98] ++ (lineL [] ++ (lineL [97, 10, 92] ++ ([49, 32, h0] ++ [10]))) ++ lineL (L sY) = lineL [97, 98] ++ (lineL [] ++ (lineL [97, 10, 92] ++ ([49, 32, h0] ++ 10 :: (lineL (L sY) ++ [])))) := by simp
  rw [this, recs_line, recs_line, recs_line, torn, recs_line]; rfl
theorem lnT4 : lastN T4 = true := by
  have hz : T4.size = T3.size + 3 := by unfold T4; rw [ByteArray.size_append, size_L x3, L_x3]; rfl
  have hL : L T4 = (L T3 ++ [49, 32]) ++ [h0] := by unfold T4; rw [L_app, L_x3]; simp
  have hl : T4.size = (L T3 ++ [49, 32]).length + 1 := by rw [size_L T4, hL]; simp
  have h4 : T4.data.toList.getD (T4.size - 1) 0 = h0 := by
    show (L T4).getD _ 0 = h0
    rw [hl, hL, Nat.add_sub_cancel, List.getD_eq_getElem?_getD, List.getElem?_append_right (Nat.le_refl _), Nat.sub_self]; rfl
  unfold lastN
  rw [h4, decide_eq_true (show T4.size > 0 by omega), Bool.true_and, bne_iff_ne]
  intro hx
  exact h0n (UInt8.toNat_inj.1 (by show h0.toNat = 10; omega))
theorem lnT5 : lastN T5 = false := by
  have hl : T5.size = T4.size + 1 := by unfold T5; rw [ByteArray.size_append]; rfl
  have hL : L T5 = L T4 ++ [10] := by unfold T5; rw [L_app]
  have h4 : T5.data.toList.getD (T5.size - 1) 0 = 10 := by
    show (L T5).getD _ 0 = 10
    rw [hl, hL, Nat.add_sub_cancel, size_L T4, List.getD_eq_getElem?_getD, List.getElem?_append_right (Nat.le_refl _), Nat.sub_self]; rfl
  unfold lastN
  rw [h4, decide_eq_true (show T5.size > 0 by omega)]; rfl
theorem z4 : T4.size ≤ 243 := by have := z3; unfold T4; rw [ByteArray.size_append, size_L x3, L_x3]; simp; omega
theorem z5 : T5.size ≤ 244 := by have := z4; unfold T5; rw [ByteArray.size_append]; have : (B [10]).size = 1 := rfl; omega
theorem z6 : T6.size ≤ 324 := by have := z5; unfold T6; rw [ByteArray.size_append]; have := liB_small sY (by rw [zY]; omega); omega
theorem c6 : T5.size + (liB sY).size ≤ 262144 ∧ sY.size ≤ 400000000 := by have := liB_small sY (by rw [zY]; omega); rw [zY]; have := z5; omega
theorem zF : kFl.t.size ≤ 400 := by show (T3 ++ liB sX).size ≤ 400; rw [ByteArray.size_append]; have := liB_small sX (by rw [zX]; omega); have := z3; omega
theorem cb : kFl.t.size ≤ 400000000 ∧ sX.size ≤ 400000000 := ⟨by have := zF; omega, by rw [zX]; omega⟩
theorem cF : kFl.t.size ≤ 300000000 ∧ opOk kFl = false := ⟨by have := zF; omega, rfl⟩
theorem c20 : T3.size ≤ 400000000 ∧ (liB sX).size ≤ 400000000 ∧ 3 ≤ (liB sX).size := by
  refine ⟨by have := z3; omega, by have := liB_small sX (by rw [zX]; omega); omega, ?_⟩
  have h1 : (liB sX).size = (lineL (L sX)).length := size_B _
  have := lineL_min (L sX); omega
theorem c33 : (T4.size ≤ 300000000 ∧ [sA, sE, sC].length ≤ 60000000000) ∧ T5 = (bif lastN T4 then T4 ++ B [10] else T4) ∧ rs T5 = [sA, sE, sC] := ⟨⟨by have := z4; omega, by simp⟩, by rw [lnT4]; rfl, rsT5⟩
theorem c33' : (T6.size ≤ 300000000 ∧ [sA, sE, sC, sY].length ≤ 60000000000) ∧ T6 = (bif lastN T6 then T6 ++ B [10] else T6) ∧ rs T6 = [sA, sE, sC, sY] := ⟨⟨by have := z6; omega, by simp⟩, by unfold T6; rw [show liB sY = B (lineL (L sY)) from rfl, lastN_line]; rfl, rsT6⟩
theorem c22 : T5.size ≤ 300000000 ∧ lastN T5 = false := ⟨by have := z5; omega, lnT5⟩
theorem wkt (t : ByteArray) : (wk t).t = t := rfl
end Go.Sx
