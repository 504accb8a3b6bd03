/- Part of the proofs that the laws of the journal return true for every input: L50. -/
import Derived.Test.YtiddnjgnjmdobaaGreatDoorL49
import Derived.Test.YtiddnjgnjmdobaaGreatDoorLG
import Derived.ChangeMaps5
set_option linter.unusedVariables false
set_option linter.unusedSimpArgs false
set_option linter.all false
/-! JournalBytes's card. -/
namespace Go.Proofs.YtiddnjgnjmdobaaGreatDoor.bytes
open Go.ChangeShapes Go.WideShapes Go.ChangeAt Go.RowKit Go.ChangeMaps
open Go.Proofs.YtiddnjgnjmdobaaGreatDoor.frame
theorem rcStrs {H : Type} {enc : TypeId × Value → H} {W : World} {sp : Nat → Bool} {held : Bool} : Sx.RC enc Tryz.prog W sp held 36 (fun l : List ByteArray => [Sx.strs l]) (fun l => l.length ≤ 17592186044416 ∧ ∀ s ∈ l, s.size ≤ 140737488351232) :=
  Sx.rc_slice1 (pk := .str) Tryz.underlying36 (by kernel_rfl) (of_decide_eq_true (by kernel_rfl)) (Sx.rc_str Tryz.underlying9)
set_option maxRecDepth 100000 in
theorem contract (H : Type) (enc : TypeId × Value → H) (W : World) (base : Nat) (args : Array Value) (ds gs : List (DataW H)) (before : List MemPlace) (X : List TypeId)
    (hval : ∀ (j : Nat) t v, Tryz.f6.params[j]? = some t → args[j]? = some v → Value.okWide Tryz.prog W .any base t v)
    (hW : DataW.Whole enc Tryz.prog Tryz.f6.params.toList Rows.journalBytesSpec.vars false W args.toList ds gs before)
    (hw0 : ∀ z ∈ DataW.weightsEach Tryz.prog (Tryz.f6.params.toList ++ X) (ds ++ gs), z ≤ reachBytes) (hL : laidMetH Tryz.prog Rows.journalBytesRow.laid W) :
    Calls Tryz.prog 6 args W fun e W' => ∃ v, e = .returned v ∧ Rows.journalBytesSpec.post enc Tryz.prog Tryz.f6 false true false false W args v W' := by
  have hW' := hW
  have hlt := hW.lt
  obtain ⟨p, q, hA0, hV, hpq, hfz, hnd⟩ := hW
  have hA : DataW.TrodAll enc Tryz.prog W 0 (fun _ => true) true Tryz.f6.params.toList args.toList ds p := hA0
  rw [Tryz.params6] at hA hval hw0
  obtain ⟨v0, vs0, d0, ds0, p0, q0, hargs, rfl, rfl, h0, r0⟩ := trodAll_cons hA
  obtain ⟨v1, vs1, d1, ds1, p1, q1, rfl, rfl, rfl, h1, r1⟩ := trodAll_cons r0
  obtain ⟨v2, vs2, d2, ds2, p2, q2, rfl, rfl, rfl, h2, r2⟩ := trodAll_cons r1
  obtain ⟨rfl, rfl, rfl⟩ := trodAll_nil r2
  obtain rfl : args = #[v0, v1, v2] := by cases args; simp_all
  obtain ⟨rfl, rfl⟩ := trodVars_none hV
  clear hA0
  simp only [List.append_nil] at hW' hpq
  have hw : ∀ z ∈ DataW.weightsEach Tryz.prog ([36, 45, 5] ++ X) ([d0, d1, d2]), z ≤ reachBytes := fun z hz => hw0 z (by simpa using hz)
  have hwt0 : ∀ z ∈ d0.weights Tryz.prog 36, z ≤ reachBytes := fun z hz => hw z (List.mem_append_left _ hz)
  have hwt1 : ∀ z ∈ d1.weights Tryz.prog 45, z ≤ reachBytes := fun z hz => hw z (List.mem_append_right _ (List.mem_append_left _ hz))
  have hwt2 : ∀ z ∈ d2.weights Tryz.prog 5, z ≤ reachBytes := fun z hz => hw z (List.mem_append_right _ (List.mem_append_right _ (List.mem_append_left _ hz)))
  have hv0 := hval 0 36 v0 rfl rfl
  have hv1 := hval 1 45 v1 rfl rfl
  have hv2 := hval 2 5 v2 rfl rfl
  obtain ⟨a0, len, cap, rfl⟩ := okWide_slice Tryz.underlying36 hv0
  obtain ⟨l, hl, hq⟩ := Sx.rv_one rcStrs rfl h0 hwt0
  obtain ⟨m1, rfl, rfl, rfl, hn1⟩ := open_int Tryz.underlying45 hv1 h1
  obtain ⟨m2, rfl, rfl, rfl, hn2⟩ := open_int Tryz.underlying5 hv2 h2
  have b1 := bounds_u16 hn1
  have b2 := bounds_u8 hn2
  obtain ⟨m1, rfl⟩ : ∃ k : Nat, m1 = (k : Int) := ⟨m1.toNat, by omega⟩
  obtain ⟨m2, rfl⟩ : ∃ k : Nat, m2 = (k : Int) := ⟨m2.toNat, by omega⟩
  obtain ⟨nm, hnm, htab⟩ := table hL
  refine (calledW (vs := [Value.slice a0 len cap, .int .u16 (m1 : Int), .int .u8 (m2 : Int)]) Sx.K6 ⟨l, m1, m2, ⟨hq.1, by omega, by omega⟩, rfl, rfl⟩ hnm htab (fun e => by simp only [Sx.repT]; exact ⟨_, _, rfl, hl e, _, _, rfl, by simp only [Sx.rep], _, _, rfl, by simp only [Sx.rep], rfl⟩)).mono fun e W' ⟨he, hb⟩ => ?_
  subst he
  have hs0 : ∀ x ∈ p0, x ∈ before := fun x hx => by rw [hpq]; simp [hx]
  have ht : ∀ x ∈ before, x.block < W.heap.size := fun x hx => by simpa using hlt x hx
  refine ⟨_, rfl, post_of_old (pa :=  _) (pv := []) hW' (fun _ _ _ => trodAll_cons_mk (shut_bool Tryz.underlying4 _) trodAll_mk0)
    (fun sp hsp => trodAll_cons_mk (reads_on (by kernel_rfl) (of_decide_eq_true (by kernel_rfl)) h0 hb (fun x hx => ht x (hs0 x hx)) hs0 sp hsp) (trodAll_cons_mk (shut_int Tryz.underlying45 hn1) (trodAll_cons_mk (shut_int Tryz.underlying5 hn2) trodAll_mk0))) (fun _ _ => rfl) (by rw [hpq]; simp) (hb.frame _) (fun b off h => below_frozen hb b off h) (ok_one (by kernel_rfl) rfl (okWide_bool_mk Tryz.underlying4 _))⟩
noncomputable def laidWorld (os : Os) : World :=
  lay (lay (lay (lay (lay (World.holding Tryz.prog os ⟨#[], #[], []⟩) 4 Rows.laid_math_bits_deBruijn32tab) 5 Rows.laid_math_bits_deBruijn64tab) 3 Rows.laid_internal_strconv_uint64pow10) 1 Rows.laid_unicode_utf8_acceptRanges) 0 Rows.laid_unicode_utf8_first
theorem laid_met (os : Os) : laidMet Tryz.prog Rows.journalBytesRow.laid ((laidWorld os).forCall (fun _ _ => 0) ⟨#[], #[Value.slice none 0 0, .int .u16 0, .int .u8 0], []⟩).memory :=
  laidMet_of_run' 8 (by kernel_rfl) (by kernel_rfl)
theorem reads (os : Os) {H : Type} (enc : TypeId × Value → H) : ∃ places, DataW.whole enc Tryz.prog ((laidWorld os).forCall (fun _ _ => 0) ⟨#[], #[Value.slice none 0 0, .int .u16 0, .int .u8 0], []⟩).memory Tryz.f6.params.toList Rows.journalBytesSpec.vars false (#[Value.slice none 0 0, .int .u16 0, .int .u8 0] : Array Value).toList 8 = some ([.nil, .lit (.int .u16 0), .lit (.int .u8 0)], [], places) :=
  ⟨[], by kernel_rfl⟩
set_option maxRecDepth 100000 in
theorem lifted (os : Os) (started : os.Started) (H : Type) (enc : TypeId × Value → H) (F : Stop.Interp) :
    ReturnsInHanded {} Tryz.checked os 6 .any ((OpenSpec.ofChange Rows.journalBytesSpec).preRow enc Tryz.prog Tryz.f6 Rows.journalBytesRow.domain false Rows.journalBytesRow.laid) (((OpenSpec.ofChange Rows.journalBytesSpec).at F).post enc Tryz.prog Tryz.f6 false true false false) := by
  obtain ⟨places, hx⟩ := reads os enc
  refine returnsInHanded_of_row (C := Tryz.checked) (s := OpenSpec.ofChange Rows.journalBytesSpec) own started (by kernel_rfl) Tryz.func6
    (witness_row_at (enc := enc) (C := Tryz.checked) false (laidWorld os) #[Value.slice none 0 0, .int .u16 0, .int .u8 0] rfl (by kernel_rfl) (by kernel_rfl) (by kernel_rfl)
      (OpenSpec.preRow_of_cond 8 hx (by kernel_rfl) (fun k hk => by cases hk) (by kernel_rfl) (laid_met os))) ?_
  intro W base args ds gs before hval hW _ _ hwe hL _ _
  exact contract H enc W base args ds gs before _ hval hW (fun z hz => by simpa using List.all_eq_true.1 hwe z hz) hL
theorem said : Rows.JournalBytesSaid :=
  OpenClaim.holds_of_cond 6 Tryz.f6 rfl rfl rfl rfl rfl rfl rfl ⟨rfl, rfl, rfl, rfl, rfl⟩ rfl rfl rfl rfl rfl (by kernel_rfl) Tryz.func6 (by kernel_rfl)
    (of_decide_eq_true (by kernel_rfl)) (by unfold Func.isWrapper; first | (rw [if_pos (by decide +kernel)]; kernel_rfl) | (rw [if_neg (by decide +kernel)]; exact ⟨rfl, rfl⟩))
    (fun os started H enc _ F => by rw [OpenClaim.pre_eq_preRow]; exact lifted os started H enc F)
theorem plain (f : FuncId) (fn : Func) (hf : Tryz.pinned.checked.prog.funcNamed Rows.journalBytesRow.func = some f) (hfn : Tryz.pinned.checked.prog.funcs[f]? = some fn) :
    true = Tryz.pinned.checked.prog.looks [] ∧ ∀ (j : Nat) t, fn.params[j]? = some t → Tryz.pinned.checked.prog.wantsStandIn t = false := by
  obtain rfl : f = 6 := Option.some.inj ((show Tryz.prog.funcNamed Rows.journalBytesRow.func = some 6 by kernel_rfl).symm.trans hf) |>.symm
  obtain rfl : fn = Tryz.f6 := (Option.some.inj (Tryz.func6.symm.trans hfn)).symm
  refine ⟨by kernel_rfl, fun j t ht => ?_⟩
  rw [Tryz.params6] at ht
  have hm : t ∈ #[36, 45, 5] := Array.mem_of_getElem? ht
  have h2 : t = 36 ∨ t = 45 ∨ t = 5 := by simpa using hm
  rcases h2 with rfl | rfl | rfl
  · exact (show Tryz.prog.wantsStandIn 36 = false by kernel_rfl)
  · exact (show Tryz.prog.wantsStandIn 45 = false by kernel_rfl)
  · exact (show Tryz.prog.wantsStandIn 5 = false by kernel_rfl)
theorem card : Rows.JournalBytesCardSaid :=
  Claim7.holds_tied_plain_at .later [] _ _ _ _ said (fun _ h => by cases h) (by kernel_rfl) (fun _ h => by cases h) journalBytes_row_tie rfl ⟨rfl, rfl⟩ (by kernel_rfl) rfl plain (by kernel_rfl)
end Go.Proofs.YtiddnjgnjmdobaaGreatDoor.bytes
namespace Go.Proofs.YtiddnjgnjmdobaaGreatDoor
/-- JournalBytes returns true for every input, and leaves its arguments as they were. -/
theorem journalBytes_holds : Rows.JournalBytesCardSaid := bytes.card
end Go.Proofs.YtiddnjgnjmdobaaGreatDoor
