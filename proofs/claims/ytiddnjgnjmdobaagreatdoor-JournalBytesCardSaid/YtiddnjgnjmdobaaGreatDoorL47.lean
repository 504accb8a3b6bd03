/- Part of the proofs that the laws of the journal return true for every input: L47. -/
import Derived.Test.YtiddnjgnjmdobaaGreatDoorL46
import Derived.Test.YtiddnjgnjmdobaaGreatDoorL37
import Derived.Test.YtiddnjgnjmdobaaGreatDoorS3
set_option linter.unusedVariables false
set_option linter.unusedSimpArgs false
set_option linter.all false
/-! L47: JournalSurvives: the walk. -/
namespace Go.Sx
structure Fl where
  r : List ByteArray
  a : Nat
  k : Nat
  o : Nat
deriving Inhabited
@[go_sem] def flE (x : Fl) : SD := .agg [strs x.r, .int .u8 (x.a : Int), .int .u8 (x.k : Int), .int .u8 (x.o : Int)]
@[go_sem] def falls (l : List Fl) : SD := .list 4 l.length fun i => flE (l.getD i default)
def FlOk (x : Fl) : Prop := x.r.length ≤ 17592186044416 ∧ x.a < 256 ∧ x.k < 256 ∧ x.o < 256
theorem wr8 (n : Nat) (h : n < 256) : IntKind.i64.wrap (n : Int) = (n : Int) := by rw [w64]; omega
theorem tm8 (n m : Nat) (h : n < 256) : (IntKind.i64.wrap (n : Int)).tmod (m : Int) = ((n % m : Nat) : Int) := by
  rw [wr8 n h, Int.tmod_eq_emod_of_nonneg (by omega)]; omega
theorem enD_idem (t : ByteArray) : enD (enD t) = enD t := by
  have h := enD_whole t
  generalize enD t = u at h
  unfold enD
  rw [h]; rfl
theorem enD_size (t : ByteArray) : (enD t).size ≤ t.size + 1 := by
  unfold enD
  cases lastN t
  · simp
  · rw [cond_true, ByteArray.size_append]; exact Nat.le_refl _
theorem enD_add (t : ByteArray) (h : lastN t = true) : enD (t ++ B [10]) = enD t := by
  have : enD t = t ++ B [10] := by unfold enD; rw [h]; rfl
  rw [← this, enD_idem]
theorem SLe.app {d d' : SD} (g : SLe d d') (h : Hp) (e : Nm) (v : Value) (x : rep h d e v) : rep h d' e v := g h e v x
theorem FnOK.argLe {P : Program} {f : Nat} {R R' : List SD → SD → Prop} (hf : FnOK P f R) (h : ∀ ds' d, R' ds' d → ∃ ds, R ds d ∧ ∀ h e vs, repT h ds' e vs → repT h ds e vs) : FnOK P f R' :=
  ⟨hf.call, fun ds' d hr h0 e w vs gh hs hv => by
    obtain ⟨ds, h1, h2⟩ := h ds' d hr
    exact hf.ok ds d h1 h0 e w vs gh hs (h2 _ _ _ hv)⟩
open Go.Proofs Go.RowKit
attribute [local irreducible] Run RunL RunD OpT SLe0 SLe OLe
set_option maxHeartbeats 2000000
set_option maxRecDepth 8000
set_option linter.unusedSimpArgs false
set_option linter.unusedVariables false
theorem K24g : FnOK Tryz.prog 24 (fun ds d => ∃ (a b : List ByteArray) (n : Nat) (f : Nat → SD), (n = b.length ∧ ∀ i, i < n → f i = psF b i) ∧ ds = [strs a, .list 1 n f] ∧ d = .bool (decide (a = b))) := by
  refine K24.argLe ?_
  rintro ds d ⟨a, b, n, f, ⟨rfl, h2⟩, rfl, rfl⟩
  refine ⟨_, ⟨a, b, rfl, rfl⟩, fun h e vs hv => ?_⟩
  simp only [repT] at hv ⊢
  obtain ⟨v1, vs1, rfl, r1, v2, vs2, rfl, r2, r3⟩ := hv
  exact ⟨v1, _, rfl, r1, v2, _, rfl, SLe.app (SLe.list rfl (fun i hi => h2 i hi)) _ _ _ r2, r3⟩
theorem K20v : FnM Tryz.prog 20 (fun ds os d os' => ∃ (t x y : ByteArray) (c n : Nat) (sm : Bool), (t.size ≤ 100000 ∧ x.size ≤ 100000 ∧ (sm = false → x = ByteArray.empty) ∧ y = t ++ x.extract 0 c) ∧ ds = [.loc 1000 0, eInt (c : Int)] ∧ os = [eDk (bif sm then ⟨t ++ x, (x.size : Int), true, true, 0⟩ else ⟨t, 0, false, true, (n : Int)⟩)] ∧ d = .tup [] ∧ os' = [(1000, eDk (wk y))]) := by
  refine K20x.weaken ?_
  rintro ds os d os' ⟨t, x, y, c, n, sm, ⟨h1, h2, h3, h4⟩, rfl, rfl, rfl, rfl⟩
  cases sm
  · obtain rfl := h3 rfl
    have e : t ++ ByteArray.empty = t := by simp
    exact ⟨t, ByteArray.empty, c, false, true, (n : Int), ⟨by omega, by omega⟩, rfl, by rw [e]; rfl, rfl, by rw [h4]⟩
  · exact ⟨t, x, c, true, true, 0, ⟨by omega, by omega⟩, rfl, rfl, rfl, by rw [h4]⟩
theorem K22v : FnM Tryz.prog 22 (fun ds os d os' => ∃ (t z : ByteArray) (r : List ByteArray), (t.size ≤ 300000000 ∧ enD t = z ∧ rs z = r) ∧ ds = [.loc 1000 0] ∧ os = [eDk (wk t)] ∧ d = .tup [.loc 0 0, strs r] ∧ os' = [(1000, eDk (wk z)), (0, eLg 1000 ⟨(r.length : Int), false⟩)]) := by
  refine K22z.weaken ?_
  rintro ds os d os' ⟨t, z, r, ⟨h1, rfl, rfl⟩, rfl, rfl, rfl, rfl⟩
  exact ⟨t, h1, rfl, rfl, rfl, rfl⟩
end Go.Sx
