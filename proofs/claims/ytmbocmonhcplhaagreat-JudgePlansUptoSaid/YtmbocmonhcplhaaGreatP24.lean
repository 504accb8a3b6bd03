/- Part of the proof that the laws of the judge return true for every input: J81, P24. -/
import Derived.Test.YtmbocmonhcplhaaGreatJ80
import Derived.Test.YtmbocmonhcplhaaGreatChecked
import Derived.WalkKit
import Derived.ProofKit
import Derived.OpenShut
import Derived.JoinedCond
set_option linter.all false
namespace Go.Proofs.YtmbocmonhcplhaaGreat.frame
open Go.ChangeShapes Go.WideShapes Go.ChangeAt Go.RowKit
theorem own : ownKnob Tryz.prog.godebug = none := by kernel_rfl
section
variable {H : Type} {enc : TypeId × Value → H} {P : Program}
theorem zQ2 {f : Func} {s : ChangeSpec} {apart fresh handsOn again : Bool} {W W' : World} {args : Array Value} {v : Value} {ds gs : List (DataW H)} {before pa pv : List MemPlace}
  (hW : DataW.Whole enc P f.params.toList s.vars apart W args.toList ds gs before)
  (hres : ∀ (b : Nat) (sp : Nat → Bool) (hd : Bool), DataW.TrodAll enc P W' b sp hd f.resultTypes.toList (v.resultList f.resultTypes.size) (s.fn H (ds ++ gs)).results [])
  (hargs : ∀ sp : Nat → Bool, (∀ p ∈ before, sp p.block = true) → DataW.TrodAll enc P W' 0 sp true f.params.toList args.toList (s.fn H (ds ++ gs)).args pa)
  (hvars : ∀ sp : Nat → Bool, (∀ p ∈ before, sp p.block = true) → DataW.TrodVars enc P W' sp s.vars (s.fn H (ds ++ gs)).vars pv)
  (hps : before = pa ++ pv) (hk : W.keptBut W' (· ∈ before)) (hfz : ∀ b off, b < W.heap.size → W'.frozen? ⟨b, off, none⟩ = W.frozen? ⟨b, off, none⟩)
  (hok : ∀ (j : Nat) (t : TypeId) (r : Value), f.resultTypes[j]? = some t → (v.resultList f.resultTypes.size)[j]? = some r → Value.okWide P W' .any 0 t r) :
  s.post enc P f apart fresh handsOn again W args v W' := by
 have hold : ∀ p ∈ before, (fun b => decide (b < W.heap.size)) p.block = true := fun p hp => by simpa using hW.lt p hp
 have hlt := hW.lt;refine ⟨ds, gs, before, [], pa, pv, hW, hres _ _ _, hargs _ hold, hvars _ hold, World.keptBut_mono (fun p hp => ⟨hp, ?_⟩) hk, fun _ => ?_⟩
 ·rw [hps, List.mem_append] at hp
  exact Or.inr hp
 ·obtain ⟨_, _, _, _, _, hz, hn⟩ := hW
  refine ⟨hok, _, _, ([] ++ pa) ++ pv, ⟨[] ++ pa, pv, trodAll_append (hargs _ (fun _ _ => rfl)) (hres _ _ _), hvars _ (fun _ _ => rfl), rfl, ?_, ?_⟩, ?_⟩
  ·intro b off hp
   have hm : MemPlace.cell b off ∈ before := by rw [hps]; simpa using hp
   rw [hfz b off (hlt _ hm)];exact hz b off hm
  ·intro ha
   have := hn ha;rw [hps] at this;simpa using this
  ·intro p hp _
   rw [hps];simpa using hp
end
theorem zQc {W W' : World} (h : Below W.heap.size W W') (b off : Nat) (hb : b < W.heap.size) : W'.frozen? ⟨b, off, none⟩ = W.frozen? ⟨b, off, none⟩ := by
 unfold World.frozen?;simp only [h.block b hb]
theorem laidOut : laidOutB Tryz.prog = true := by kernel_rfl
theorem yF9 {f : FuncId} {ds : List Sx.SD} {vs : List Value} {W : World} {R : List Sx.SD → Sx.SD → Prop} (hf : Sx.FnOK Tryz.prog f R) (hR : R ds (.bool true))
  (hr : ∀ e, Sx.repT (Sx.hpW W) ds e vs) : Calls Tryz.prog f vs.toArray W fun e W' => e = .returned (.bool true) ∧ Below W.heap.size W W' := by
 refine (hf.ok ds (.bool true) hR (Sx.hpW W) ⟨fun _ => 0, fun _ => undef⟩ W vs trivial (Sx.sub_hpW W) (hr _)).mono fun en W' hq => ?_;obtain ⟨v, h', rfl, _, _, hb, _, hv⟩ := hq;have := hv ⟨fun _ => 0, fun _ => undef⟩;simp only [Sx.rep] at this;exact ⟨by rw [this], hb.toBelow⟩
theorem yA6 {H : Type} {enc : TypeId × Value → H} {t : TypeId} (hr : Tryz.prog.readableRec t = true) (hrow : t < Tryz.prog.types.size) {W W' : World} {v : Value} {d : DataW H} {ps before : List MemPlace}
  (h : DataW.Trod enc Tryz.prog W 0 (fun _ => true) true t v d ps) (hb : Below W.heap.size W W') (hlt : ∀ p ∈ ps, p.block < W.heap.size) (hsub : ∀ p ∈ ps, p ∈ before) (sp : Nat → Bool) (hsp : ∀ p ∈ before, sp p.block = true) :
  DataW.Trod enc Tryz.prog W' 0 sp true t v d ps :=
 WideElems.Trod_stays laidOut hr hrow h (fun p hp => hb.same (hlt p hp)) fun p hp => hsp p (hsub p hp)
end Go.Proofs.YtmbocmonhcplhaaGreat.frame
namespace Go.Proofs.YtmbocmonhcplhaaGreat.plans
open Go.ChangeShapes Go.WideShapes Go.ChangeAt Go.RowKit
open Go.Proofs.YtmbocmonhcplhaaGreat.frame
theorem zSn {H : Type} {enc : TypeId × Value → H} {W : World} {sp : Nat → Bool} {held : Bool} : Sx.RC enc Tryz.prog W sp held 22 (fun l : List Int => [Sx.ints l]) (fun l => l.length ≤ 1048576 ∧ ∀ x ∈ l, (Lit.int .i64 x).wf = true) :=
 Sx.rc_slice1 (pk := fun x => .int .i64 x) Tryz.underlying22 (by kernel_rfl) (Sx.rc_int Tryz.underlying3)
theorem yJ3 {H : Type} {enc : TypeId × Value → H} {W : World} {sp : Nat → Bool} {held : Bool} : Sx.RC enc Tryz.prog W sp held 25 (fun a : Sx.Arg => [Sx.ints a.Offers, Sx.ints a.Programme, Sx.ints a.Own, Sx.ints a.Rest, Sx.eInt a.O1, Sx.eInt a.O2, Sx.eInt a.O3]) (fun _ => True) := by
 refine Sx.rc_map (fun y : List Int × List Int × List Int × List Int × (Int × Int × Int) × Unit => ⟨y.1, y.2.1, y.2.2.1, y.2.2.2.1, y.2.2.2.2.1.1, y.2.2.2.2.1.2.1, y.2.2.2.2.1.2.2⟩)
  (Sx.rc_struct Tryz.underlying25 (by kernel_rfl) (Sx.rf_cons (c := 1) rfl (by kernel_rfl) zSn (Sx.rf_cons (c := 1) rfl (by kernel_rfl) zSn (Sx.rf_cons (c := 1) rfl (by kernel_rfl) zSn (Sx.rf_cons (c := 1) rfl (by kernel_rfl) zSn
   (Sx.rf_cons (c := 3) rfl (by kernel_rfl) (Sx.rc_arr3 Tryz.underlying23 (es := 1) (by kernel_rfl) (by kernel_rfl) (Sx.rc_int Tryz.underlying3)) Sx.rf_nil)))))) ?_
 rintro ⟨a, b, c, d, ⟨e, f, g⟩, u⟩ -;exact ⟨rfl, trivial⟩
set_option maxRecDepth 100000 in
theorem contract (H : Type) (enc : TypeId × Value → H) (W : World) (base : Nat) (args : Array Value) (ds gs : List (DataW H)) (before : List MemPlace)
  (hval : ∀ (j : Nat) t v, Tryz.f6.params[j]? = some t → args[j]? = some v → Value.okWide Tryz.prog W .any base t v)
  (hW : DataW.Whole enc Tryz.prog Tryz.f6.params.toList Rows.judgePlansSpec.vars false W args.toList ds gs before)
  (hk : Rows.uptoSmall H (ds ++ gs) = true) :
  Calls Tryz.prog 6 args W fun e W' => ∃ v, e = .returned v ∧ Rows.judgePlansSpec.post enc Tryz.prog Tryz.f6 false true false false W args v W' := by
 have hW' := hW;have hlt := hW.lt;obtain ⟨p, q, hA0, hV, hpq, hfz, hnd⟩ := hW;have hA : DataW.TrodAll enc Tryz.prog W 0 (fun _ => true) true Tryz.f6.params.toList args.toList ds p := hA0;rw [Tryz.params6] at hA hval;obtain ⟨v0, vs0, d0, ds0, p0, q0, hargs, rfl, rfl, h0, r0⟩ := trodAll_cons hA;obtain ⟨rfl, rfl, rfl⟩ := trodAll_nil r0;obtain rfl : args = #[v0] := by cases args; simp_all
 obtain ⟨rfl, rfl⟩ := trodVars_none hV;clear hA0;simp only [List.append_nil] at hW' hpq hk
 have hb : Rows.uptoBulk d0 ≤ 1048576 := by
  have := of_decide_eq_true hk;simp only [Rows.uptoBulkAll] at this;omega
 have hv0 := hval 0 25 v0 rfl rfl
 obtain ⟨cs, rfl⟩ : ∃ cs, v0 = .agg cs := by
  simp only [Value.okWide, Tryz.underlying25] at hv0;obtain ⟨cs, h, -⟩ := hv0;exact ⟨cs, h⟩
 obtain ⟨a, hc, -⟩ := Sx.rv_agg yJ3 h0 hb;refine (yF9 (vs := [.agg cs]) Sx.K6 ⟨a, trivial, rfl, rfl⟩ (fun e => by simp only [Sx.repT]; exact ⟨_, _, rfl, hc e, rfl⟩)).mono fun e W' ⟨he, hb⟩ => ?_;subst he;have hs0 : ∀ x ∈ p0, x ∈ before := fun x hx => by rw [hpq]; simp [hx]
 have ht : ∀ x ∈ before, x.block < W.heap.size := fun x hx => by simpa using hlt x hx
 refine ⟨_, rfl, zQ2 (pa := _) (pv := []) hW' (fun _ _ _ => trodAll_cons_mk (shut_bool Tryz.underlying4 _) trodAll_mk0)
  (fun sp hsp => trodAll_cons_mk (yA6 (by kernel_rfl) (of_decide_eq_true (by kernel_rfl)) h0 hb (fun x hx => ht x (hs0 x hx)) hs0 sp hsp) trodAll_mk0) (fun _ _ => rfl) (by rw [hpq]; simp) (hb.frame _) (fun b off h => zQc hb b off h) (ok_one (by kernel_rfl) rfl (okWide_bool_mk Tryz.underlying4 _))⟩
set_option maxRecDepth 100000 in
theorem lifted (os : Os) (started : os.Started) (H : Type) (enc : TypeId × Value → H) (F : Stop.Interp) :
  ReturnsInHanded {} Tryz.checked os 6 .any ((Rows.OpenSpec.upto Rows.judgePlansSpec).pre6 enc Tryz.prog Tryz.f6 Rows.judgePlansUptoRow.domain false) (((Rows.OpenSpec.upto Rows.judgePlansSpec).at F).post enc Tryz.prog Tryz.f6 false true false false) := by
 refine returnsInHanded_of_cond (C := Tryz.checked) (s := Rows.OpenSpec.upto Rows.judgePlansSpec) (k := Rows.uptoSmall) rfl own started (by kernel_rfl) Tryz.func6
  (OpenSpec.witness (enc := enc) (C := Tryz.checked) (s := Rows.OpenSpec.upto Rows.judgePlansSpec) (k := Rows.uptoSmall) rfl false ⟨#[], #[.agg #[.slice none 0 0, .slice none 0 0, .slice none 0 0, .slice none 0 0, .int .i64 0, .int .i64 0, .int .i64 0]], []⟩ 8 (by kernel_rfl) (by kernel_rfl) (by kernel_rfl)
   (x := ([.agg [.nil, .nil, .nil, .nil, .agg [.lit (.int .i64 0), .lit (.int .i64 0), .lit (.int .i64 0)]]], [], [])) (by kernel_rfl) rfl (by kernel_rfl)) ?_
 intro W base args ds gs before hval hW _ hk _;exact contract H enc W base args ds gs before hval hW hk
theorem over : Rows.judgePlansUptoRow.holds Tryz.pinned (Rows.OpenSpec.upto Rows.judgePlansSpec) :=
 OpenClaim.holds_of_cond 6 Tryz.f6 rfl rfl rfl rfl rfl rfl rfl ⟨rfl, rfl, rfl, rfl, rfl⟩ rfl rfl rfl rfl rfl (by kernel_rfl) Tryz.func6 (by kernel_rfl)
  (of_decide_eq_true (by kernel_rfl)) (by unfold Func.isWrapper; first | (rw [if_pos (by decide +kernel)]; kernel_rfl) | (rw [if_neg (by decide +kernel)]; exact ⟨rfl, rfl⟩))
  (fun os started H enc _ F => lifted os started H enc F)
end Go.Proofs.YtmbocmonhcplhaaGreat.plans
namespace Go.Proofs.YtmbocmonhcplhaaGreat
theorem judgePlans_holds : Rows.JudgePlansUptoSaid := Go.Proofs.YtmbocmonhcplhaaGreat.plans.over
end Go.Proofs.YtmbocmonhcplhaaGreat
