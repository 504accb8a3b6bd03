/- Part of the proof that JournalMany returns true for every input: L43. -/
import Derived.Test.YtiddnjgnjmdobaaGreatDoorL39
import Derived.Test.YtiddnjgnjmdobaaGreatDoorL42
import Derived.ChangeMaps5
set_option linter.unusedVariables false
set_option linter.unusedSimpArgs false
set_option linter.all false
/-! L43: JournalMany's card. -/
namespace Go.Proofs.YtiddnjgnjmdobaaGreatDoor.many
open Go.ChangeShapes Go.WideShapes Go.ChangeAt Go.RowKit Go.ChangeMaps
open Go.Proofs.YtiddnjgnjmdobaaGreatDoor.frame
set_option maxRecDepth 100000 in
theorem contract (H : Type) (enc : TypeId × Value → H) (W : World) (base : Nat) (args : Array Value) (ds gs : List (DataW H)) (before : List MemPlace)
    (hval : ∀ (j : Nat) t v, Tryz.f7.params[j]? = some t → args[j]? = some v → Value.okWide Tryz.prog W .any base t v)
    (hW : DataW.Whole enc Tryz.prog Tryz.f7.params.toList Rows.journalManySpec.vars false W args.toList ds gs before) (hL : laidMetH Tryz.prog Rows.journalManyRow.laid W) :
    Calls Tryz.prog 7 args W fun e W' => ∃ v, e = .returned v ∧ Rows.journalManySpec.post enc Tryz.prog Tryz.f7 false true false false W args v W' := by
  have hW' := hW
  obtain ⟨p, q, hA0, hV, rfl, hfz, hnd⟩ := hW
  have hA : DataW.TrodAll enc Tryz.prog W 0 (fun _ => true) true Tryz.f7.params.toList args.toList ds p := hA0
  rw [Tryz.params7] at hA hval
  obtain ⟨v0, vs0, d0, ds0, p0, q0, hargs, rfl, rfl, h0, r0⟩ := trodAll_cons hA
  obtain ⟨rfl, rfl, rfl⟩ := trodAll_nil r0
  obtain rfl : args = #[v0] := by cases args; simp_all
  obtain ⟨rfl, rfl⟩ := trodVars_none hV
  obtain ⟨n, rfl, rfl, rfl, hn⟩ := open_int Tryz.underlying5 (hval 0 5 v0 rfl rfl) h0
  have hn2 : 0 ≤ n ∧ n ≤ 255 := by
    have hw := hn
    simp only [Lit.wf, Bool.and_eq_true, decide_eq_true_eq] at hw
    exact hw
  obtain ⟨m, rfl⟩ : ∃ m : Nat, n = (m : Int) := ⟨n.toNat, by omega⟩
  clear hA0
  simp only [List.append_nil] at hW'
  obtain ⟨nm, hnm, htab⟩ := table hL
  refine (called (vs := [.int .u8 (m : Int)]) Sx.K7 ⟨m, by omega, rfl, rfl⟩ hnm htab (fun h _ => by simp [Sx.repT, Sx.rep])).mono fun e W' ⟨he, hb⟩ => ?_
  subst he
  exact ⟨_, rfl, post_of_old (pa := []) (pv := []) hW' (fun _ _ _ => trodAll_cons_mk (shut_bool Tryz.underlying4 _) trodAll_mk0)
    (fun _ _ => trodAll_cons_mk (shut_int Tryz.underlying5 hn) trodAll_mk0) (fun _ _ => rfl) rfl
    (hb.frame _) (fun b off h => below_frozen hb b off h) (ok_one (by kernel_rfl) rfl (okWide_bool_mk Tryz.underlying4 _))⟩
/-- The cells that a laid datum stands for. -/
def lits : DataW Unit → List Value
  | .lit (.int k n) => [.int k n]
  | .agg l => litsL l
  | _ => []
where litsL : List (DataW Unit) → List Value
  | [] => []
  | d :: r => lits d ++ litsL r
/-- A world for the witness: the settled one, the five tables laid. -/
noncomputable def lay (w : World) (g : Nat) (d : DataW Unit) : World :=
  { w with heap := w.heap.modify g fun
      | .cells _ t frozen => .cells (lits d).toArray t frozen
      | o => o }
noncomputable def laidWorld (os : Os) : World :=
  lay (lay (lay (lay (lay (World.holding Tryz.prog os ⟨#[], #[], []⟩) 4 Rows.laid_math_bits_deBruijn32tab) 5 Rows.laid_math_bits_deBruijn64tab) 3 Rows.laid_internal_strconv_uint64pow10) 1 Rows.laid_unicode_utf8_acceptRanges) 0 Rows.laid_unicode_utf8_first
theorem laid_met (os : Os) : laidMet Tryz.prog Rows.journalManyRow.laid ((laidWorld os).forCall (fun _ _ => 0) ⟨#[], #[.int .u8 0], []⟩).memory :=
  laidMet_of_run' 8 (by kernel_rfl) (by kernel_rfl)
theorem reads (os : Os) {H : Type} (enc : TypeId × Value → H) : ∃ places, DataW.whole enc Tryz.prog ((laidWorld os).forCall (fun _ _ => 0) ⟨#[], #[.int .u8 0], []⟩).memory Tryz.f7.params.toList Rows.journalManySpec.vars false #[Value.int .u8 0].toList 8 = some ([.lit (.int .u8 0)], [], places) :=
  ⟨[], by kernel_rfl⟩
set_option maxRecDepth 100000 in
theorem lifted (os : Os) (started : os.Started) (H : Type) (enc : TypeId × Value → H) (F : Stop.Interp) :
    ReturnsInHanded {} Tryz.checked os 7 .any ((OpenSpec.ofChange Rows.journalManySpec).preRow enc Tryz.prog Tryz.f7 Rows.journalManyRow.domain false Rows.journalManyRow.laid) (((OpenSpec.ofChange Rows.journalManySpec).at F).post enc Tryz.prog Tryz.f7 false true false false) := by
  obtain ⟨places, hx⟩ := reads os enc
  refine returnsInHanded_of_row (C := Tryz.checked) (s := OpenSpec.ofChange Rows.journalManySpec) own started (by kernel_rfl) Tryz.func7
    (witness_row_at (enc := enc) (C := Tryz.checked) false (laidWorld os) #[.int .u8 0] rfl (by kernel_rfl) (by kernel_rfl) (by kernel_rfl)
      (OpenSpec.preRow_of_cond 8 hx (by kernel_rfl) (fun k hk => by cases hk) (by kernel_rfl) (laid_met os))) ?_
  intro W base args ds gs before hval hW _ _ _ hL _ _
  exact contract H enc W base args ds gs before hval hW hL
theorem said : Rows.JournalManySaid :=
  OpenClaim.holds_of_cond 7 Tryz.f7 rfl rfl rfl rfl rfl rfl rfl ⟨rfl, rfl, rfl, rfl, rfl⟩ rfl rfl rfl rfl rfl (by kernel_rfl) Tryz.func7 (by kernel_rfl)
    (of_decide_eq_true (by kernel_rfl)) (by unfold Func.isWrapper; first | (rw [if_pos (by decide +kernel)]; kernel_rfl) | (rw [if_neg (by decide +kernel)]; exact ⟨rfl, rfl⟩))
    (fun os started H enc _ F => by rw [OpenClaim.pre_eq_preRow]; exact lifted os started H enc F)
theorem plain (f : FuncId) (fn : Func) (hf : Tryz.pinned.checked.prog.funcNamed Rows.journalManyRow.func = some f) (hfn : Tryz.pinned.checked.prog.funcs[f]? = some fn) :
    true = Tryz.pinned.checked.prog.looks [] ∧ ∀ (j : Nat) t, fn.params[j]? = some t → Tryz.pinned.checked.prog.wantsStandIn t = false := by
  obtain rfl : f = 7 := Option.some.inj ((show Tryz.prog.funcNamed Rows.journalManyRow.func = some 7 by kernel_rfl).symm.trans hf) |>.symm
  obtain rfl : fn = Tryz.f7 := (Option.some.inj (Tryz.func7.symm.trans hfn)).symm
  refine ⟨by kernel_rfl, fun j t ht => ?_⟩
  rw [Tryz.params7] at ht
  have hm : t ∈ #[5] := Array.mem_of_getElem? ht
  have h2 : t = 5 := by simpa using hm
  subst h2
  exact (show Tryz.prog.wantsStandIn 5 = false by kernel_rfl)
theorem card : Rows.JournalManyCardSaid :=
  Claim7.holds_tied_plain_at .later [] _ _ _ _ said (fun _ h => by cases h) (by kernel_rfl) (fun _ h => by cases h) journalMany_row_tie rfl ⟨rfl, rfl⟩ (by kernel_rfl) rfl plain (by kernel_rfl)
end Go.Proofs.YtiddnjgnjmdobaaGreatDoor.many
namespace Go.Proofs.YtiddnjgnjmdobaaGreatDoor
/-- JournalMany returns true for every input, and leaves its arguments as they were. -/
theorem journalMany_holds : Rows.JournalManyCardSaid := many.card
end Go.Proofs.YtiddnjgnjmdobaaGreatDoor
