/- Part of the proof that JournalMany returns true for every input: L41. -/
import Derived.Test.YtiddnjgnjmdobaaGreatDoorL37
set_option linter.unusedVariables false
set_option linter.unusedSimpArgs false
set_option linter.all false
/-! L41: JournalMany. -/
namespace Go.Sx
open Go.Proofs Go.RowKit
attribute [local irreducible] Run RunL RunD OpT SLe0 SLe OLe
set_option maxHeartbeats 2000000
set_option maxRecDepth 8000
set_option linter.unusedSimpArgs false
set_option linter.unusedVariables false
theorem K25m : FnM Tryz.prog 25 (fun ds os d os' => ∃ (t s : ByteArray) (n : Int), (t.size + (liB s).size > 262144 ∧ t.size ≤ 400000000 ∧ s.size ≤ 400000000) ∧ ds = [.loc 1000 0, .str s] ∧ os = [eLg 1001 ⟨n, false⟩, eDk (wk t)] ∧ d = eInt 2 ∧
    os' = [(1000, eLg 1001 ⟨n, false⟩), (1001, eDk (wk t))]) := by
  refine (K25of K44).weaken ?_
  rintro ds os d os' ⟨t, s, n, ⟨h1, h2, h3⟩, rfl, rfl, rfl, rfl⟩
  have h3' : decide ((wk t).t.size + (liB s).size > 262144) = true := decide_eq_true h1
  exact ⟨⟨n, false⟩, wk t, s, ⟨h2, h3⟩, rfl, rfl, by unfold apE; rw [h3']; rfl, by unfold apL apK; rw [h3']; rfl⟩
def zs (n : Nat) : ByteArray := B (List.replicate n 0)
theorem zs_size (n : Nat) : (zs n).size = n := by unfold zs; rw [size_B]; simp
theorem esc_zs (n : Nat) : escL (List.replicate n 0) = List.replicate n 0 := by
  induction n with
  | zero => rfl
  | succ n ih =>
    rw [List.replicate_succ]
    simp only [escL, List.flatMap_cons] at ih ⊢
    rw [ih]; rfl
theorem dec6 (n : Nat) (h1 : 100000 ≤ n) (h2 : n < 1000000) : (decL n).length = 6 := by
  have one : ∀ k, k < 10 → (decL k).length = 1 := fun k hk => by rw [decL_lt k hk]; rfl
  have st : ∀ k, 10 ≤ k → (decL k).length = (decL (k / 10)).length + 1 := fun k hk => by
    rw [decL_ge k (by omega), List.length_append, one (k % 10) (by omega)]
  rw [st n (by omega), st (n / 10) (by omega), st (n / 10 / 10) (by omega), st (n / 10 / 10 / 10) (by omega), st (n / 10 / 10 / 10 / 10) (by omega), one _ (by omega)]
theorem liB_zs (n : Nat) (h1 : 100000 ≤ n) (h2 : n < 1000000) : (liB (zs n)).size = n + 25 := by
  have hq : (liB (zs n)).size = (lineL (L (zs n))).length := size_B _
  have hL : L (zs n) = List.replicate n 0 := rfl
  rw [hq, hL]
  simp only [lineL, List.length_append, List.length_cons, List.length_nil, esc_zs, List.length_replicate, hexL_len, dgR_len, dec6 n h1 h2]
  omega
theorem liB_sE : (liB sE).size = 20 := by
  have hq : (liB sE).size = (lineL (L sE)).length := size_B _
  rw [hq]
  show (decL 0 ++ [32] ++ hexL (dgR (B [])) ++ [32] ++ escL [] ++ [10]).length = 20
  rw [decL_lt 0 (by omega)]
  simp [hexL_len, dgR_len, escL]
theorem rsE : rs (ByteArray.empty ++ liB sE) = [sE] := by
  unfold rs
  rw [L_app, L_liB]
  show (recs [] ([] ++ lineL [])).map B = _
  rw [List.nil_append, ← List.append_nil (lineL []), recs_line]; rfl
theorem lnE : lastN (ByteArray.empty ++ liB sE) = false := lastN_line _ _
end Go.Sx
