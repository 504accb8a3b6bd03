/- Part of the proofs that the laws of the journal return true for every input: L21. -/
import Derived.Test.YtiddnjgnjmdobaaGreatDoorL3
import Derived.Test.YtiddnjgnjmdobaaGreatDoorHex
set_option linter.unusedVariables false
set_option linter.unusedSimpArgs false
set_option linter.all false
/-! L21: strconv.Itoa and the program's hex, as contracts. -/
namespace Go.Sx
open Go.Proofs Go.RowKit
attribute [local irreducible] Run RunL RunD SLe0 SLe OLe
set_option maxHeartbeats 2000000
set_option maxRecDepth 8000
set_option linter.unusedSimpArgs false
set_option linter.unusedVariables false
theorem decL_eq (n : Nat) : decL n = Lib.decDigits n := by
  induction n using Nat.strongRecOn with
  | _ n ih =>
    rw [decL, Lib.decDigits]
    by_cases h : n < 10
    · rw [if_pos h, dif_pos h]
    · rw [if_neg h, dif_neg h, ih (n / 10) (by omega)]
theorem tab_of {nm : String} (h2 : Tryz.prog.globalNamed nm = some 3) {h : Hp} {w : World} (gh : GH h) (hs : Sub h w) : Lib.TabIs Tryz.prog w nm .u64 Lib.pow10Tab := by
  obtain ⟨T, fr, hx⟩ := gh
  have h1 := hs _ _ hx
  unfold Lib.TabIs World.var?
  rw [h2]
  simp only [Option.bind_some]
  rw [show w.heap[3]? = some (.cells gCells T fr) from h1]
  rfl
theorem K55 : FnOK Tryz.prog 55 (fun ds d => ∃ n : Nat, n ≤ 400000000 ∧ ds = [eInt n] ∧ d = .str (B (decL n))) := by
  refine ⟨Tryz.call55, ?_⟩
  rintro ds d ⟨n, hn, rfl, rfl⟩ h e w vs gh hs hr
  simp only [repT, rep, eInt] at hr
  obtain ⟨_, _, rfl, rfl, rfl⟩ := hr
  refine (Go.Proofs.Tryz.strconv_Itoa (n : Int) (by omega) (by omega) w (tab_of (by kernel_rfl) gh hs)).mono ?_
  rintro en w' ⟨rfl, k, os, rfl⟩
  have hb : Below w.heap.size w (Go.Sort.grow (w.drewN k) os) := ⟨rfl, rfl, rfl, by show w.heap.size ≤ (w.heap ++ os).size; rw [Array.size_append]; omega, fun j hj => by show (w.heap ++ os)[j]? = w.heap[j]?; exact Array.getElem?_append_left hj⟩
  refine ⟨_, h, rfl, Le.refl h, hs.below hb, hb, fun _ _ => rfl, fun e' => ?_⟩
  simp only [rep]
  rw [decL_eq]
  have : Lib.itoa (n : Int) = Lib.decDigits n := by unfold Lib.itoa; rw [if_neg (by omega)]; simp
  rw [this]
theorem K56 : FnOK Tryz.prog 56 (fun ds d => ∃ s : ByteArray, s.size ≤ 1000 ∧ ds = [.str s] ∧ d = .str (B (hexL (L s)))) := by
  refine ⟨Tryz.call56, ?_⟩
  rintro ds d ⟨s, hs', rfl, rfl⟩ h e w vs gh hs hr
  simp only [repT, rep] at hr
  obtain ⟨_, _, rfl, rfl, rfl⟩ := hr
  refine (Lz.hex_walk s w hs').mono ?_
  rintro en w' ⟨rfl, hb⟩
  refine ⟨_, h, rfl, Le.refl h, hs.below hb, hb, fun _ _ => rfl, fun e' => ?_⟩
  simp only [rep]
  rfl
end Go.Sx
