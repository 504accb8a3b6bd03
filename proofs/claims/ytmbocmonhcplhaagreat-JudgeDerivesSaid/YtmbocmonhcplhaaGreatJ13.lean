/- Part of the proof that the laws of the judge return true for every input: J12, J13. -/
import Derived.Test.YtmbocmonhcplhaaGreatJ4
import Derived.Test.YtmbocmonhcplhaaGreatS3
set_option linter.all false
namespace Go.Sx
open Go.Proofs Go.RowKit
attribute [local irreducible] Run RunL RunD SLe0 SLe OLe
set_option maxHeartbeats 2000000
set_option maxRecDepth 8000
def modR (n m : Int) : Int := (wr (n.tmod m + m)).tmod m
theorem K24 : FnOK Tryz.prog 24 (fun ds d => ∃ n m, m ≠ 0 ∧ ds = [eInt n, eInt m] ∧ d = eInt (modR n m)) := by
 refine fn_intro Tryz.call24 Tryz.func24 rfl Tryz.ntmps24 ?_
 rintro ds d ⟨n, m, hm, rfl, rfl⟩
 refine ⟨by simp, fun w0 => ?_⟩
 repeat' (first | apply zC | apply zA | apply zB | refine zF qS qR ?_ ?_ | refine zI qR ?_ | exact True.intro | exact rfl | refine SLe0.int ?_ | exact qP | fail)
theorem K94 : FnOK Tryz.prog 94 (fun ds d => ∃ n a b, ds = [eInt n, eInt a, eInt b] ∧ d = .bool (decide (a ≤ n) && decide (n ≤ b))) := by
 refine fn_intro Tryz.call94 Tryz.func94 rfl Tryz.ntmps94 ?_
 rintro ds d ⟨n, a, b, rfl, rfl⟩
 refine ⟨by simp, fun w0 => ?_⟩
 repeat' (first | apply zC | apply zA | apply zB | refine zF qS qR ?_ ?_ | refine zI qR ?_ | exact True.intro | exact rfl | exact SLe0.bool rfl | exact qP | fail)
theorem K106 : FnOK Tryz.prog 106 (fun ds d => ∃ n a b, ds = [eInt n, eInt a, eInt b] ∧ d = .bool (decide (a ≤ n) && decide (n ≤ b))) := by
 refine fn_intro Tryz.call106 Tryz.func106 rfl Tryz.ntmps106 ?_
 rintro ds d ⟨n, a, b, rfl, rfl⟩
 refine ⟨by simp, fun w0 => ?_⟩
 repeat' (first | apply zC | apply zA | apply zB | refine zF qS qR ?_ ?_ | refine zI qR ?_ | exact True.intro | exact rfl | exact SLe0.bool rfl | exact qP | fail)
theorem K168 : FnOK Tryz.prog 168 (fun ds d => ∃ n, ds = [eInt n] ∧ d = .bool false) := by
 refine fn_intro Tryz.call168 Tryz.func168 rfl Tryz.ntmps168 ?_
 rintro ds d ⟨n, rfl, rfl⟩
 refine ⟨by simp, fun w0 => ?_⟩
 repeat' (first | apply zC | apply zA | apply zB | refine zF qS qR ?_ ?_ | refine zI qR ?_ | exact True.intro | exact rfl | refine SLe0.bool ?_ | fail)
 simp
def cmpI (a b : Int) : Int := if a < b then -1 else if b < a then 1 else 0
theorem K125 : FnOK Tryz.prog 125 (fun ds d => ∃ a b, ds = [eInt a, eInt b] ∧ d = eInt (cmpI a b)) := by
 refine fn_intro Tryz.call125 Tryz.func125 rfl Tryz.ntmps125 ?_
 rintro ds d ⟨a, b, rfl, rfl⟩
 refine ⟨by simp, fun w0 => ?_⟩
 repeat' (first | apply zC | apply zG | apply zA | apply zB | refine zF qS qR ?_ ?_ | refine zM K168 qD ?_ ⟨_, rfl, rfl⟩ qS ?_ | (refine zE qS ?_ ?_ <;> intro hb <;> have hc := hb <;> (try simp only [bF] at hc) <;> (try (exfalso; simp at hc; done))) | refine zI qR ?_ | exact True.intro | exact rfl | refine SLe0.int ?_ | fail)
 all_goals (simp only [cmpI]; omega)
theorem K196 : FnOK Tryz.prog 196 (fun ds d => ∃ n, ds = [eStr n] ∧ d = .bool false) := by
 refine fn_intro Tryz.call196 Tryz.func196 rfl Tryz.ntmps196 ?_
 rintro ds d ⟨n, rfl, rfl⟩
 refine ⟨by simp, fun w0 => ?_⟩
 repeat' (first | apply zC | apply zA | apply zB | refine zF qS qR ?_ ?_ | refine zI qR ?_ | exact True.intro | exact rfl | refine SLe0.bool ?_ | fail)
 simp
end Go.Sx
namespace Go.Sx
open Go.Proofs Go.RowKit
attribute [local irreducible] Run RunL RunD SLe0 SLe OLe
set_option maxHeartbeats 2000000
set_option maxRecDepth 8000
@[go_sem] theorem kkT103 : kkT Tryz.prog 103 = some (some .i64) := by kernel_rfl
@[go_sem] theorem mzT103 : mzT Tryz.prog 103 = some (.bool false) := by kernel_rfl
@[go_sem] theorem kkT148 : kkT Tryz.prog 148 = some (none) := by kernel_rfl
@[go_sem] theorem mzT148 : mzT Tryz.prog 148 = some (.bool false) := by kernel_rfl
@[go_sem] theorem kkT149 : kkT Tryz.prog 149 = some (some .i64) := by kernel_rfl
@[go_sem] theorem mzT149 : mzT Tryz.prog 149 = some (.int .i64 0) := by kernel_rfl
@[go_sem] theorem kkT208 : kkT Tryz.prog 208 = some (some .i64) := by kernel_rfl
@[go_sem] theorem mzT208 : mzT Tryz.prog 208 = some (.agg #[.nilFunc]) := by kernel_rfl
theorem modR_bd (n m : Int) (h : 0 < m) (h2 : m ≤ 1000000) : 0 ≤ modR n m ∧ modR n m < m := by
 unfold modR wr
 have h1 := Int.tmod_lt_of_pos n h
 have h3 : -m < n.tmod m := by
  have := Int.lt_tmod_of_pos n h
  omega
 rw [w64, show (n.tmod m + m + 9223372036854775808) % 18446744073709551616 - 9223372036854775808 = n.tmod m + m by omega]
 exact ⟨Int.tmod_nonneg _ (by omega), Int.tmod_lt_of_pos _ h⟩
def nxN (L : List Int) (at' : Nat) (m : Int) : Int := if L.length ≤ at' then 0 else modR (L.getD at' default) m
def nxA (L : List Int) (at' : Nat) : Nat := if L.length ≤ at' then at' else at' + 1
def eDraw (L : List Int) (at' : Nat) : OB := .var [lngs L, eInt (at' : Int)]
attribute [go_sem] eDraw
theorem K90 : FnM Tryz.prog 90 (fun ds os d os' => ∃ (L : List Int) (k : Nat) (m : Int), (0 < m ∧ m ≤ 1000000) ∧ ds = [.loc 1000 0, eInt m] ∧ os = [eDraw L k] ∧ d = eInt (nxN L k m) ∧ os' = [(1000, eDraw L (nxA L k))]) := by
 refine fn_introM Tryz.call90 Tryz.func90 rfl Tryz.ntmps90 ?_
 rintro ds os d os' ⟨L, k, m, ⟨hm, hm2⟩, rfl, rfl, rfl, rfl⟩
 refine ⟨by simp, fun F w0 => ?_⟩
 refine runLng 1000 0 rfl rfl fun hl => ?_
 by_cases hk : L.length ≤ k
 ·simp only [nxN, nxA, if_pos hk]
  repeat' (first | apply zC | apply zG | apply zA | apply zP | apply zB | refine zF qS qR ?_ ?_ | refine zU qS qR ?_ ?_ | refine zQ qK qK ?_ | (refine zE qS ?_ ?_ <;> intro hb <;> have hc := hb <;> (try simp only [bF] at hc) <;> (try (exfalso; simp at hc; done))) | refine yC qR qS ?_ ?_ | exact True.intro | exact rfl | exact SLe.refl _ | omega | (show subO _ _; simp only [go_sem]; repeat' (first | exact trivial | exact True.intro | exact SLe.refl _ | exact OLe.refl _ | exact ⟨_, rfl, OLe.refl _⟩ | refine ⟨_, rfl, ?_⟩ | refine OLe.var ?_ | (show SLeL _ _; refine ⟨?_, ?_⟩) | (show SLeL [] []; exact True.intro) | (refine SLe.int ?_; rw [w64]; omega) | refine SLe.int ?_ | refine SLe.bool ?_ | apply And.intro)) | fail)
 ·simp only [nxN, nxA, if_neg hk]
  have e1 : IntKind.i64.wrap ((k : Int) + 1) = ((k + 1 : Nat) : Int) := by rw [w64]; omega
  repeat' (first | apply zC | apply zG | apply zA | apply zP | apply zB | refine zF (by simp only [go_sem, e1]; rfl) qR ?_ ?_ | refine zU (by simp only [go_sem, e1]; rfl) qR ?_ ?_ | refine zQ qK qK ?_ | (refine zE (by simp only [go_sem, e1]; rfl) ?_ ?_ <;> intro hb <;> have hc := hb <;> (try simp only [bF] at hc) <;> (try (exfalso; simp at hc; done))) | refine yC qR (by simp only [go_sem, e1]; rfl) ?_ ?_ | exact True.intro | exact rfl | exact SLe.refl _ | omega | (show subO _ _; simp only [go_sem, e1]; repeat' (first | exact trivial | exact True.intro | exact SLe.refl _ | exact OLe.refl _ | exact ⟨_, rfl, OLe.refl _⟩ | refine ⟨_, rfl, ?_⟩ | refine OLe.var ?_ | (show SLeL _ _; refine ⟨?_, ?_⟩) | (show SLeL [] []; exact True.intro) | (refine SLe.int ?_; rw [w64]; omega) | refine SLe.int ?_ | refine SLe.bool ?_ | apply And.intro)) | exact qP | fail)
end Go.Sx
