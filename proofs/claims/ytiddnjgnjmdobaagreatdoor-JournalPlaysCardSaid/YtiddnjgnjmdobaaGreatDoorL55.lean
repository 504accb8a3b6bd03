/- Part of the proofs that the laws of the journal return true for every input: L55. -/
import Derived.Test.YtiddnjgnjmdobaaGreatDoorL54
import Derived.Test.YtiddnjgnjmdobaaGreatDoorLG
import Derived.ChangeMaps5
set_option linter.unusedVariables false
set_option linter.unusedSimpArgs false
set_option linter.all false
/-! JournalPlays's card. -/
namespace Go.Proofs.YtiddnjgnjmdobaaGreatDoor.plays
open Go.ChangeShapes Go.WideShapes Go.ChangeAt Go.RowKit Go.ChangeMaps
open Go.Proofs.YtiddnjgnjmdobaaGreatDoor.frame
theorem rcCl {H : Type} {enc : TypeId × Value → H} {W : World} {sp : Nat → Bool} {held : Bool} : Sx.RC enc Tryz.prog W sp held 22 (fun l : List Sx.Cl => [Sx.cls l]) (fun l => l.length ≤ 17592186044416 ∧ ∀ x ∈ l, Sx.ClOk x) := by
  have hi : Sx.RC enc Tryz.prog W sp held 5 (fun n : Int => [.int .u8 n]) (fun n => (Lit.int .u8 n).wf = true) := Sx.rc_int Tryz.underlying5
  have hf : Sx.RC enc Tryz.prog W sp held 31 (fun x : Sx.Cl => [.int .u8 x.a, .int .u8 x.b, .str x.s]) Sx.ClOk := by
    refine Sx.rc_map (fun y : Int × Int × ByteArray × Unit => ⟨y.1, y.2.1, y.2.2.1⟩)
      (Sx.rc_struct Tryz.underlying31 (by kernel_rfl) (Sx.rf_cons (c := 1) rfl (by kernel_rfl) hi (Sx.rf_cons (c := 1) rfl (by kernel_rfl) hi (Sx.rf_cons (c := 1) rfl (by kernel_rfl) (Sx.rc_str Tryz.underlying9) Sx.rf_nil)))) ?_
    rintro ⟨a, b, s, u⟩ ⟨q1, q2, q3, -⟩
    have b1 := bounds_u8 q1
    have b2 := bounds_u8 q2
    simp only at b1 b2
    exact ⟨rfl, ⟨by simp only; omega, by simp only; omega⟩, ⟨by simp only; omega, by simp only; omega⟩⟩
  exact Sx.rc_sliceA (ec := fun x : Sx.Cl => [.int .u8 x.a, .int .u8 x.b, .str x.s]) Tryz.underlying22 (by kernel_rfl) (by omega) (of_decide_eq_true (by kernel_rfl)) hf
set_option maxRecDepth 100000 in
theorem contract (H : Type) (enc : TypeId × Value → H) (W : World) (base : Nat) (args : Array Value) (ds gs : List (DataW H)) (before : List MemPlace) (X : List TypeId)
    (hval : ∀ (j : Nat) t v, Tryz.f3.params[j]? = some t → args[j]? = some v → Value.okWide Tryz.prog W .any base t v)
    (hW : DataW.Whole enc Tryz.prog Tryz.f3.params.toList Rows.journalPlaysSpec.vars false W args.toList ds gs before)
    (hw0 : ∀ z ∈ DataW.weightsEach Tryz.prog (Tryz.f3.params.toList ++ X) (ds ++ gs), z ≤ reachBytes) (hL : laidMetH Tryz.prog Rows.journalPlaysRow.laid W) :
    Calls Tryz.prog 3 args W fun e W' => ∃ v, e = .returned v ∧ Rows.journalPlaysSpec.post enc Tryz.prog Tryz.f3 false true false false W args v W' := by
  have hW' := hW
  have hlt := hW.lt
  obtain ⟨p, q, hA0, hV, hpq, hfz, hnd⟩ := hW
  have hA : DataW.TrodAll enc Tryz.prog W 0 (fun _ => true) true Tryz.f3.params.toList args.toList ds p := hA0
  rw [Tryz.params3] at hA hval hw0
  obtain ⟨v0, vs0, d0, ds0, p0, q0, hargs, rfl, rfl, h0, r0⟩ := trodAll_cons hA
  obtain ⟨rfl, rfl, rfl⟩ := trodAll_nil r0
  obtain rfl : args = #[v0] := by cases args; simp_all
  obtain ⟨rfl, rfl⟩ := trodVars_none hV
  clear hA0
  simp only [List.append_nil] at hW' hpq
  have hw : ∀ z ∈ DataW.weightsEach Tryz.prog ([22] ++ X) ([d0]), z ≤ reachBytes := fun z hz => hw0 z (by simpa using hz)
  have hwt0 : ∀ z ∈ d0.weights Tryz.prog 22, z ≤ reachBytes := fun z hz => hw z (List.mem_append_left _ hz)
  have hv0 := hval 0 22 v0 rfl rfl
  obtain ⟨a0, len, cap, rfl⟩ := okWide_slice Tryz.underlying22 hv0
  obtain ⟨l, hl, hq⟩ := Sx.rv_one rcCl rfl h0 hwt0
  obtain ⟨nm, hnm, htab⟩ := table hL
  refine (calledW (vs := [Value.slice a0 len cap]) Sx.K3 ⟨l, hq, rfl, rfl⟩ hnm htab (fun e => by simp only [Sx.repT]; exact ⟨_, _, rfl, hl e, rfl⟩)).mono fun e W' ⟨he, hb⟩ => ?_
  subst he
  have hs0 : ∀ x ∈ p0, x ∈ before := fun x hx => by rw [hpq]; simp [hx]
  have ht : ∀ x ∈ before, x.block < W.heap.size := fun x hx => by simpa using hlt x hx
  refine ⟨_, rfl, post_of_old (pa :=  _) (pv := []) hW' (fun _ _ _ => trodAll_cons_mk (shut_bool Tryz.underlying4 _) trodAll_mk0)
    (fun sp hsp => trodAll_cons_mk (reads_on (by kernel_rfl) (of_decide_eq_true (by kernel_rfl)) h0 hb (fun x hx => ht x (hs0 x hx)) hs0 sp hsp) trodAll_mk0) (fun _ _ => rfl) (by rw [hpq]; simp) (hb.frame _) (fun b off h => below_frozen hb b off h) (ok_one (by kernel_rfl) rfl (okWide_bool_mk Tryz.underlying4 _))⟩
noncomputable def laidWorld (os : Os) : World :=
  lay (lay (lay (lay (lay (World.holding Tryz.prog os ⟨#[], #[], []⟩) 4 Rows.laid_math_bits_deBruijn32tab) 5 Rows.laid_math_bits_deBruijn64tab) 3 Rows.laid_internal_strconv_uint64pow10) 1 Rows.laid_unicode_utf8_acceptRanges) 0 Rows.laid_unicode_utf8_first
theorem laid_met (os : Os) : laidMet Tryz.prog Rows.journalPlaysRow.laid ((laidWorld os).forCall (fun _ _ => 0) ⟨#[], #[Value.slice none 0 0], []⟩).memory :=
  laidMet_of_run' 8 (by kernel_rfl) (by kernel_rfl)
theorem reads (os : Os) {H : Type} (enc : TypeId × Value → H) : ∃ places, DataW.whole enc Tryz.prog ((laidWorld os).forCall (fun _ _ => 0) ⟨#[], #[Value.slice none 0 0], []⟩).memory Tryz.f3.params.toList Rows.journalPlaysSpec.vars false (#[Value.slice none 0 0] : Array Value).toList 8 = some ([.nil], [], places) :=
  ⟨[], by kernel_rfl⟩
set_option maxRecDepth 100000 in
theorem lifted (os : Os) (started : os.Started) (H : Type) (enc : TypeId × Value → H) (F : Stop.Interp) :
    ReturnsInHanded {} Tryz.checked os 3 .any ((OpenSpec.ofChange Rows.journalPlaysSpec).preRow enc Tryz.prog Tryz.f3 Rows.journalPlaysRow.domain false Rows.journalPlaysRow.laid) (((OpenSpec.ofChange Rows.journalPlaysSpec).at F).post enc Tryz.prog Tryz.f3 false true false false) := by
  obtain ⟨places, hx⟩ := reads os enc
  refine returnsInHanded_of_row (C := Tryz.checked) (s := OpenSpec.ofChange Rows.journalPlaysSpec) own started (by kernel_rfl) Tryz.func3
    (witness_row_at (enc := enc) (C := Tryz.checked) false (laidWorld os) #[Value.slice none 0 0] rfl (by kernel_rfl) (by kernel_rfl) (by kernel_rfl)
      (OpenSpec.preRow_of_cond 8 hx (by kernel_rfl) (fun k hk => by cases hk) (by kernel_rfl) (laid_met os))) ?_
  intro W base args ds gs before hval hW _ _ hwe hL _ _
  exact contract H enc W base args ds gs before _ hval hW (fun z hz => by simpa using List.all_eq_true.1 hwe z hz) hL
theorem said : Rows.JournalPlaysSaid :=
  OpenClaim.holds_of_cond 3 Tryz.f3 rfl rfl rfl rfl rfl rfl rfl ⟨rfl, rfl, rfl, rfl, rfl⟩ rfl rfl rfl rfl rfl (by kernel_rfl) Tryz.func3 (by kernel_rfl)
    (of_decide_eq_true (by kernel_rfl)) (by unfold Func.isWrapper; first | (rw [if_pos (by decide +kernel)]; kernel_rfl) | (rw [if_neg (by decide +kernel)]; exact ⟨rfl, rfl⟩))
    (fun os started H enc _ F => by rw [OpenClaim.pre_eq_preRow]; exact lifted os started H enc F)
theorem plain (f : FuncId) (fn : Func) (hf : Tryz.pinned.checked.prog.funcNamed Rows.journalPlaysRow.func = some f) (hfn : Tryz.pinned.checked.prog.funcs[f]? = some fn) :
    true = Tryz.pinned.checked.prog.looks [] ∧ ∀ (j : Nat) t, fn.params[j]? = some t → Tryz.pinned.checked.prog.wantsStandIn t = false := by
  obtain rfl : f = 3 := Option.some.inj ((show Tryz.prog.funcNamed Rows.journalPlaysRow.func = some 3 by kernel_rfl).symm.trans hf) |>.symm
  obtain rfl : fn = Tryz.f3 := (Option.some.inj (Tryz.func3.symm.trans hfn)).symm
  refine ⟨by kernel_rfl, fun j t ht => ?_⟩
  rw [Tryz.params3] at ht
  have hm : t ∈ #[22] := Array.mem_of_getElem? ht
  have h2 : t = 22 := by simpa using hm
  rcases h2 with rfl
  · exact (show Tryz.prog.wantsStandIn 22 = false by kernel_rfl)
theorem card : Rows.JournalPlaysCardSaid :=
  Claim7.holds_tied_plain_at .later [] _ _ _ _ said (fun _ h => by cases h) (by kernel_rfl) (fun _ h => by cases h) journalPlays_row_tie rfl ⟨rfl, rfl⟩ (by kernel_rfl) rfl plain (by kernel_rfl)
end Go.Proofs.YtiddnjgnjmdobaaGreatDoor.plays
namespace Go.Proofs.YtiddnjgnjmdobaaGreatDoor
/-- JournalPlays returns true for every input, and leaves its arguments as they were. -/
theorem journalPlays_holds : Rows.JournalPlaysCardSaid := plays.card
end Go.Proofs.YtiddnjgnjmdobaaGreatDoor
