/- The proof that the law JudgeAgrees returns true for every input, whatever the lengths of its lists of numbers: the frame, and the law itself. No condition beyond the statement's own. -/
import Derived.Carry
import Derived.ChangeArms
import Derived.OpenShut
import Derived.WalkKit
import Derived.ProofKit
import Derived.JoinedCond
import Derived.Deep.DeepHandedRow
import Derived.Test.YtmbocmonhcplhaaGreatRows
import Derived.Test.YtmbocmonhcplhaaGreatChecked
import Derived.Test.YtmbocmonhcplhaaGreatA34
set_option linter.all false
namespace Go.Sx
open Go.ChangeShapes Go.WideShapes
def hpW (W : World) : Hp := fun b => W.heap[b]?
theorem sub_hpW (W : World) : Sub (hpW W) W := fun _ _ h => h
theorem repC_app {h : Hp} {e : Nm} : ∀ {l m : List SD} {vs us : List Value}, repC h l e vs → repC h m e us → repC h (l ++ m) e (vs ++ us)
 | [], m, vs, us, h1, h2 => by simp only [repC] at h1; subst h1; exact h2
 | d :: l, m, vs, us, h1, h2 => by
  simp only [repC] at h1
  obtain ⟨v, vs', rfl, a, b, c⟩ := h1
  simp only [List.cons_append, repC]
  exact ⟨v, vs' ++ us, rfl, a, b, repC_app c h2⟩
section
variable {H : Type} (enc : TypeId × Value → H) (P : Program) (W : World) (sp : Nat → Bool) (held : Bool)
def RC {T : Type} (t : TypeId) (ec : T → List SD) (Q : T → Prop) : Prop :=
 ∀ (fuel : Nat) (cs : List Value) (x : DataW H × List MemPlace), DataW.trod enc P W 0 sp held fuel t cs = some x → (∀ z ∈ x.1.weights P t, z ≤ reachBytes) → ∃ y, (∀ e, repC (hpW W) (ec y) e cs) ∧ Q y
def RF {T : Type} (fs : List Field) (o : Nat) (ec : T → List SD) (Q : T → Prop) : Prop :=
 ∀ (n : Nat) (cs : List Value) (xs : List (DataW H × List MemPlace)), fs.mapM (fun f => DataW.trod enc P W 0 sp held n f.type ((cs.drop f.offset).take (P.cellsOf f.type))) = some xs → (∀ z ∈ DataW.weightsEach P (fs.map (·.type)) (xs.map (·.1)), z ≤ reachBytes) →
  cs.length = o + (fs.map fun f => P.cellsOf f.type).sum → ∃ y, (∀ e, repC (hpW W) (ec y) e (cs.drop o)) ∧ Q y
variable {enc P W sp held}
theorem rc_int {t : TypeId} {k : IntKind} (ht : P.underlying t = some (.int k)) : RC enc P W sp held t (fun n : Int => [.int k n]) (fun n => (Lit.int k n).wf = true) := by
 intro fuel cs x h _
 obtain ⟨n, rfl, -, hw⟩ := DataW.trod_int ht h
 exact ⟨n, fun e => by simp only [repC, rep]; exact ⟨_, _, rfl, rfl, rfl, rfl⟩, hw⟩
theorem rf_nil {o : Nat} : RF enc P W sp held [] o (fun _ : Unit => []) (fun _ => True) := by
 intro n cs xs h _ hl
 refine ⟨(), fun e => ?_, trivial⟩
 simp only [List.map_nil, List.sum_nil, Nat.add_zero] at hl
 simp only [repC]
 exact List.drop_eq_nil_of_le (by omega)
theorem rf_cons {T1 T2 : Type} {f : Field} {fs : List Field} {o c : Nat} {e1 : T1 → List SD} {e2 : T2 → List SD} {Q1 : T1 → Prop} {Q2 : T2 → Prop} (ho : f.offset = o) (hc : P.cellsOf f.type = c)
  (h1 : RC enc P W sp held f.type e1 Q1) (h2 : RF enc P W sp held fs (o + c) e2 Q2) : RF enc P W sp held (f :: fs) o (fun y : T1 × T2 => e1 y.1 ++ e2 y.2) (fun y => Q1 y.1 ∧ Q2 y.2) := by
 intro n cs xs h hb hl
 simp only [List.mapM_cons, Option.bind_eq_bind, Option.bind_eq_some_iff, Option.pure_def, Option.some.injEq] at h
 obtain ⟨x, hx, xs', hxs, rfl⟩ := h
 simp only [List.map_cons, DataW.weightsEach] at hb
 obtain ⟨y1, r1, q1⟩ := h1 _ _ _ hx (fun z hz => hb z (List.mem_append_left _ hz))
 obtain ⟨y2, r2, q2⟩ := h2 _ _ _ hxs (fun z hz => hb z (List.mem_append_right _ hz)) (by rw [hl]; simp only [List.map_cons, List.sum_cons, hc]; omega)
 refine ⟨(y1, y2), fun e => ?_, q1, q2⟩
 have hsplit : cs.drop o = (cs.drop o).take c ++ cs.drop (o + c) := by rw [← List.drop_drop, List.take_append_drop]
 rw [hsplit]
 rw [ho, hc] at r1
 exact repC_app (r1 e) (r2 e)
theorem rc_struct {T : Type} {t : TypeId} {fs : Array Field} {ec : T → List SD} {Q : T → Prop} (ht : P.underlying t = some (.struct fs)) (hn : P.cellsOf t = (fs.toList.map fun f => P.cellsOf f.type).sum) (h : RF enc P W sp held fs.toList 0 ec Q) : RC enc P W sp held t ec Q := by
 intro fuel cs x hx hb
 cases fuel with
 | zero => simp [DataW.trod] at hx
 | succ n =>
  unfold DataW.trod at hx
  rw [ht] at hx
  simp only at hx
  split at hx
  ·rename_i hl
   simp only [Option.map_eq_some_iff] at hx
   obtain ⟨xs, hm, rfl⟩ := hx
   simp only [DataW.weights, ht] at hb
   obtain ⟨y, r, q⟩ := h n cs xs hm hb (by rw [hl, hn, Nat.zero_add])
   exact ⟨y, fun e => by simpa using r e, q⟩
  ·cases hx
theorem rc_map {T T' : Type} {t : TypeId} {ec : T → List SD} {Q : T → Prop} {ec' : T' → List SD} {Q' : T' → Prop} (g : T → T') (h : RC enc P W sp held t ec Q) (hg : ∀ y, Q y → ec' (g y) = ec y ∧ Q' (g y)) : RC enc P W sp held t ec' Q' := by
 intro fuel cs x hx hb
 obtain ⟨y, r, q⟩ := h fuel cs x hx hb
 exact ⟨g y, fun e => by rw [(hg y q).1]; exact r e, (hg y q).2⟩
theorem addE {a : Addr} (h : a.spot = none) (i : Nat) : a.add i = ⟨a.block, a.off + i, none⟩ := by
 unfold Addr.add
 split
 ·subst_vars; cases a; simp_all
 ·rfl
theorem mapM_cells {w : World} {a : Addr} {n : Nat} {cs : List Value} (h : w.cells? 0 a n = some cs) (hn : 0 < n) : a.spot = none ∧ ∃ c T fr, w.heap[a.block]? = some (.cells c T fr) ∧ cs = cut c.toList a.off n ∧ a.off + n ≤ c.size := by
 unfold World.cells? at h
 rw [if_pos (Nat.zero_le _)] at h
 have hl := mapM_some_length h
 simp only [List.length_range] at hl
 have hg : ∀ i, i < n → w.cell? (a.add i) = cs[i]? := fun i hi => mapM_some_get h i i (by simp [hi])
 have h0 := hg 0 hn
 rw [List.getElem?_eq_getElem (by omega)] at h0
 rw [show a.add 0 = a from rfl] at h0
 unfold World.cell? at h0
 split at h0
 ·rename_i c T fr hw
  have hs : a.spot = none := by
   cases hsp : a.spot with
   | none => rfl
   | some z => simp [hsp] at h0
  have hw' : w.heap[a.block]? = some (.cells c T fr) := hw
  have hg2 : ∀ i, i < n → c[a.off + i]? = cs[i]? := fun i hi => by
   rw [← hg i hi]
   rw [addE hs]
   unfold World.cell?
   rw [hw']
   simp
  have hsz : a.off + n ≤ c.size := by
   have := hg2 (n - 1) (by omega)
   rw [List.getElem?_eq_getElem (by omega)] at this
   have := (Array.getElem?_eq_some_iff.1 this).1
   omega
  refine ⟨hs, c, T, fr, hw', ?_, hsz⟩
  apply List.ext_getElem?
  intro i
  unfold cut
  by_cases hi : i < n
  ·rw [List.getElem?_take_of_lt hi, List.getElem?_drop, ← hg2 i hi, Array.getElem?_toList]
  ·rw [List.getElem?_eq_none (by omega), List.getElem?_eq_none (by rw [List.length_take, List.length_drop, Array.length_toList]; omega)]
 ·cases h0
theorem rc_lng {t el : TypeId} (ht : P.underlying t = some (.slice el)) (he : P.underlying el = some (.int .i64)) (hs : P.cellsOf el = 1) (hby : 8 ≤ P.bytesOf el) : RC enc P W sp held t (fun l : List Int => [.lng l.length (fun i => l.getD i default)]) (fun _ => True) := by
 intro fuel cs x hx hb
 rcases DataW.trod_slice ht hx with ⟨rfl, rfl⟩ | ⟨a, len, cap, elems, rest, n, -, rfl, rfl, -, hlc, hcm, hle, hget, -, -⟩
 ·refine ⟨[], fun e => ?_, trivial⟩
  simp only [repC, rep]
  exact ⟨_, _, rfl, rfl, ⟨none, 0, rfl, Nat.le_refl _, ⟨by simp, by simp⟩, fun h => absurd h (by simp)⟩, rfl⟩
 ·simp only [DataW.weights, ht, List.length_map] at hb
  have hl1 : elems.length ≤ 17592186044416 := by
   have h1 := hb _ List.mem_cons_self
   have h2 : (elems.length + rest.length) * 8 ≤ (elems.length + rest.length) * P.bytesOf el := Nat.mul_le_mul_left _ hby
   simp only [reachBytes] at h1
   omega
  have key : ∀ i, i < len → ∃ y : Int, W.cells? 0 (a.add (i * 1)) 1 = some [.int .i64 y] := fun i hi => by
   have h1 := hget i hi
   rw [List.getElem?_eq_getElem (by omega), Option.bind_eq_some_iff] at h1
   obtain ⟨cs, h2, h3⟩ := h1
   rw [hs] at h2
   obtain ⟨y, rfl, -⟩ := DataW.trod_int he h3
   exact ⟨y, h2⟩
  have ⟨l, hll, hly⟩ : ∃ l : List Int, l.length = len ∧ ∀ i, i < len → W.cells? 0 (a.add (i * 1)) 1 = some [.int .i64 (l.getD i default)] := by
   clear hget hx hb hle hl1 hlc
   induction len with
   | zero => exact ⟨[], rfl, fun i hi => absurd hi (Nat.not_lt_zero _)⟩
   | succ len ih =>
    obtain ⟨l, h1, h2⟩ := ih fun i hi => key i (by omega)
    obtain ⟨y, h3⟩ := key len (by omega)
    refine ⟨l ++ [y], by simp [h1], fun i hi => ?_⟩
    by_cases h6 : i < len
    ·have : (l ++ [y]).getD i default = l.getD i default := by
      rw [List.getD_eq_getElem?_getD, List.getD_eq_getElem?_getD, List.getElem?_append_left (by omega)]
     rw [this]; exact h2 i h6
    ·have hi2 : i = len := by omega
     have : (l ++ [y]).getD i default = y := by
      rw [List.getD_eq_getElem?_getD, List.getElem?_append_right (by omega), hi2, h1, Nat.sub_self]; rfl
     rw [this, hi2]; exact h3
  refine ⟨l, fun e => ?_, trivial⟩
  simp only [repC, rep]
  refine ⟨_, _, rfl, rfl, ⟨some a, cap, by rw [hll], by omega, ⟨hcm, by omega⟩, fun h0 => ?_⟩, rfl⟩
  have g0 := hly 0 (by omega)
  rw [show a.add (0 * 1) = a by rw [Nat.zero_mul]; rfl] at g0
  obtain ⟨hsp, c, T', fr, hw, -, -⟩ := mapM_cells g0 Nat.one_pos
  refine ⟨a, c, T', fr, rfl, hsp, hw, fun i hi => ?_⟩
  have gi := hly i (by omega)
  rw [addE hsp] at gi
  obtain ⟨-, c', T'', fr', hw', hcut, hsz⟩ := mapM_cells gi Nat.one_pos
  have hcc : c' = c := by
   have := hw'.symm.trans hw
   simp only [Option.some.injEq, Obj.cells.injEq] at this
   exact this.1
  subst hcc
  have h5 := congrArg (fun q : List Value => q[0]?) hcut
  simp only [cut, Nat.mul_one, List.getElem?_take_of_lt Nat.one_pos, List.getElem?_drop, Nat.add_zero, List.getElem?_cons_zero] at h5
  exact h5.symm
theorem rc_arr3 {T : Type} {t el : TypeId} {es : Nat} {ec : T → List SD} {Q : T → Prop} (ht : P.underlying t = some (.array 3 el)) (hs : P.cellsOf el = es) (hn : P.cellsOf t = es + (es + es)) (h : RC enc P W sp held el ec Q) :
  RC enc P W sp held t (fun y : T × T × T => ec y.1 ++ (ec y.2.1 ++ ec y.2.2)) (fun y => Q y.1 ∧ Q y.2.1 ∧ Q y.2.2) := by
 intro fuel cs x hx hb
 cases fuel with
 | zero => simp [DataW.trod] at hx
 | succ n =>
  unfold DataW.trod at hx
  rw [ht] at hx
  simp only at hx
  split at hx
  ·rename_i hl
   simp only [Option.map_eq_some_iff] at hx
   obtain ⟨xs, hm, rfl⟩ := hx
   simp only [DataW.weights, ht] at hb
   rw [show List.range 3 = [0, 1, 2] from rfl] at hm
   simp only [List.mapM_cons, List.mapM_nil, Option.bind_eq_bind, Option.bind_eq_some_iff, Option.pure_def, Option.some.injEq] at hm
   obtain ⟨x0, h0, _, ⟨x1, h1, _, ⟨x2, h2, _, rfl, rfl⟩, rfl⟩, rfl⟩ := hm
   simp only [List.map_cons, List.map_nil, DataW.weightsAll, List.append_nil] at hb
   obtain ⟨y0, r0, q0⟩ := h _ _ _ h0 (fun z hz => hb z (List.mem_append_left _ hz))
   obtain ⟨y1, r1, q1⟩ := h _ _ _ h1 (fun z hz => hb z (List.mem_append_right _ (List.mem_append_left _ hz)))
   obtain ⟨y2, r2, q2⟩ := h _ _ _ h2 (fun z hz => hb z (List.mem_append_right _ (List.mem_append_right _ hz)))
   refine ⟨(y0, y1, y2), fun e => ?_, q0, q1, q2⟩
   have hsplit : cs = cs.take es ++ ((cs.drop es).take es ++ (cs.drop (2 * es)).take es) := by
    rw [List.take_of_length_le (l := cs.drop (2 * es)) (by rw [List.length_drop]; omega), show cs.drop (2 * es) = (cs.drop es).drop es by rw [List.drop_drop]; congr 1; omega, List.take_append_drop, List.take_append_drop]
   rw [hs] at r0 r1 r2
   simp only [Nat.zero_mul, List.drop_zero, Nat.one_mul] at r0 r1
   rw [hsplit]
   exact repC_app (r0 e) (repC_app (r1 e) (r2 e))
  ·cases hx
theorem rv_agg {T : Type} {t : TypeId} {ec : T → List SD} {Q : T → Prop} (h : RC enc P W sp held t ec Q) {cs : Array Value} {d : DataW H} {p : List MemPlace} (hd : DataW.Trod enc P W 0 sp held t (.agg cs) d p) (hb : ∀ z ∈ d.weights P t, z ≤ reachBytes) :
  ∃ y, (∀ e, rep (hpW W) (.agg (ec y)) e (.agg cs)) ∧ Q y := by
 obtain ⟨fuel, hf⟩ := hd
 obtain ⟨y, r, q⟩ := h fuel _ _ hf hb
 refine ⟨y, fun e => ?_, q⟩
 simp only [rep]
 exact ⟨cs.toList, by simp, r e⟩
end
end Go.Sx
namespace Go.Proofs.YtmbocmonhcplhaaGreat.frame
open Go.ChangeShapes Go.WideShapes Go.ChangeAt Go.RowKit
theorem own : ownKnob Tryz.prog.godebug = none := by kernel_rfl
section
variable {H : Type} {enc : TypeId × Value → H} {P : Program}
theorem post_of_old {f : Func} {s : ChangeSpec} {apart fresh handsOn again : Bool} {W W' : World} {args : Array Value} {v : Value} {ds gs : List (DataW H)} {before pa pv : List MemPlace}
  (hW : DataW.Whole enc P f.params.toList s.vars apart W args.toList ds gs before)
  (hres : ∀ (b : Nat) (sp : Nat → Bool) (hd : Bool), DataW.TrodAll enc P W' b sp hd f.resultTypes.toList (v.resultList f.resultTypes.size) (s.fn H (ds ++ gs)).results [])
  (hargs : ∀ sp : Nat → Bool, (∀ p ∈ before, sp p.block = true) → DataW.TrodAll enc P W' 0 sp true f.params.toList args.toList (s.fn H (ds ++ gs)).args pa)
  (hvars : ∀ sp : Nat → Bool, (∀ p ∈ before, sp p.block = true) → DataW.TrodVars enc P W' sp s.vars (s.fn H (ds ++ gs)).vars pv)
  (hps : before = pa ++ pv) (hk : W.keptBut W' (· ∈ before)) (hfz : ∀ b off, b < W.heap.size → W'.frozen? ⟨b, off, none⟩ = W.frozen? ⟨b, off, none⟩)
  (hok : ∀ (j : Nat) (t : TypeId) (r : Value), f.resultTypes[j]? = some t → (v.resultList f.resultTypes.size)[j]? = some r → Value.okWide P W' .any 0 t r) :
  s.post enc P f apart fresh handsOn again W args v W' := by
 have hold : ∀ p ∈ before, (fun b => decide (b < W.heap.size)) p.block = true := fun p hp => by simpa using hW.lt p hp
 have hlt := hW.lt
 refine ⟨ds, gs, before, [], pa, pv, hW, hres _ _ _, hargs _ hold, hvars _ hold, World.keptBut_mono (fun p hp => ⟨hp, ?_⟩) hk, fun _ => ?_⟩
 ·rw [hps, List.mem_append] at hp
  exact Or.inr hp
 ·obtain ⟨_, _, _, _, _, hz, hn⟩ := hW
  refine ⟨hok, _, _, ([] ++ pa) ++ pv, ⟨[] ++ pa, pv, trodAll_append (hargs _ (fun _ _ => rfl)) (hres _ _ _), hvars _ (fun _ _ => rfl), rfl, ?_, ?_⟩, ?_⟩
  ·intro b off hp
   have hm : MemPlace.cell b off ∈ before := by rw [hps]; simpa using hp
   rw [hfz b off (hlt _ hm)]
   exact hz b off hm
  ·intro ha
   have := hn ha
   rw [hps] at this
   simpa using this
  ·intro p hp _
   rw [hps]
   simpa using hp
end
theorem below_frozen {W W' : World} (h : Below W.heap.size W W') (b off : Nat) (hb : b < W.heap.size) : W'.frozen? ⟨b, off, none⟩ = W.frozen? ⟨b, off, none⟩ := by
 unfold World.frozen?
 simp only [h.block b hb]
theorem laidOut : laidOutB Tryz.prog = true := by kernel_rfl
theorem calledW {f : FuncId} {ds : List Sx.SD} {vs : List Value} {W : World} {R : List Sx.SD → Sx.SD → Prop} (hf : Sx.FnOK Tryz.prog f R) (hR : R ds (.bool true))
  (hr : ∀ e, Sx.repT (Sx.hpW W) ds e vs) : Calls Tryz.prog f vs.toArray W fun e W' => e = .returned (.bool true) ∧ Below W.heap.size W W' := by
 refine (hf.ok ds (.bool true) hR (Sx.hpW W) ⟨fun _ => 0, fun _ => undef⟩ W vs trivial (Sx.sub_hpW W) (hr _)).mono fun en W' hq => ?_
 obtain ⟨v, h', rfl, _, _, hb, _, hv⟩ := hq
 have := hv ⟨fun _ => 0, fun _ => undef⟩
 simp only [Sx.rep] at this
 exact ⟨by rw [this], hb.toBelow⟩
theorem reads_on {H : Type} {enc : TypeId × Value → H} {t : TypeId} (hr : Tryz.prog.readableRec t = true) (hrow : t < Tryz.prog.types.size) {W W' : World} {v : Value} {d : DataW H} {ps before : List MemPlace}
  (h : DataW.Trod enc Tryz.prog W 0 (fun _ => true) true t v d ps) (hb : Below W.heap.size W W') (hlt : ∀ p ∈ ps, p.block < W.heap.size) (hsub : ∀ p ∈ ps, p ∈ before) (sp : Nat → Bool) (hsp : ∀ p ∈ before, sp p.block = true) :
  DataW.Trod enc Tryz.prog W' 0 sp true t v d ps :=
 WideElems.Trod_stays laidOut hr hrow h (fun p hp => hb.same (hlt p hp)) fun p hp => hsp p (hsub p hp)
end Go.Proofs.YtmbocmonhcplhaaGreat.frame
namespace Go.Proofs.YtmbocmonhcplhaaGreat.agrees
open Go.ChangeShapes Go.WideShapes Go.ChangeAt Go.RowKit
open Go.Proofs.YtmbocmonhcplhaaGreat.frame
theorem rcInts {H : Type} {enc : TypeId × Value → H} {W : World} {sp : Nat → Bool} {held : Bool} : Sx.RC enc Tryz.prog W sp held 22 (fun l : List Int => [Sx.lngs l]) (fun _ => True) :=
 Sx.rc_lng Tryz.underlying22 Tryz.underlying3 (by kernel_rfl) (of_decide_eq_true (by kernel_rfl))
theorem rcArg {H : Type} {enc : TypeId × Value → H} {W : World} {sp : Nat → Bool} {held : Bool} : Sx.RC enc Tryz.prog W sp held 47 (fun a : Sx.DArg => [Sx.lngs a.Programme, Sx.lngs a.Has, .int .i64 a.N.a, .int .i64 a.N.b, .int .i64 a.N.c, .int .i64 a.O.a, .int .i64 a.O.b, .int .i64 a.O.c, .int .u16 a.Day]) (fun _ => True) := by
 refine Sx.rc_map (fun y : List Int × List Int × (Int × Int × Int) × (Int × Int × Int) × Int × Unit => ⟨y.1, y.2.1, ⟨y.2.2.1.1, y.2.2.1.2.1, y.2.2.1.2.2⟩, ⟨y.2.2.2.1.1, y.2.2.2.1.2.1, y.2.2.2.1.2.2⟩, y.2.2.2.2.1⟩)
  (Sx.rc_struct Tryz.underlying47 (by kernel_rfl) (Sx.rf_cons (c := 1) rfl (by kernel_rfl) rcInts (Sx.rf_cons (c := 1) rfl (by kernel_rfl) rcInts
   (Sx.rf_cons (c := 3) rfl (by kernel_rfl) (Sx.rc_arr3 Tryz.underlying23 (es := 1) (by kernel_rfl) (by kernel_rfl) (Sx.rc_int Tryz.underlying3)) (Sx.rf_cons (c := 3) rfl (by kernel_rfl) (Sx.rc_arr3 Tryz.underlying23 (es := 1) (by kernel_rfl) (by kernel_rfl) (Sx.rc_int Tryz.underlying3))
    (Sx.rf_cons (c := 1) rfl (by kernel_rfl) (Sx.rc_int Tryz.underlying45) Sx.rf_nil)))))) ?_
 rintro ⟨a, b, ⟨c, d, e⟩, ⟨f, g, h⟩, i, u⟩ -
 exact ⟨rfl, trivial⟩
set_option maxRecDepth 100000 in
theorem contract (H : Type) (enc : TypeId × Value → H) (W : World) (base : Nat) (args : Array Value) (ds gs : List (DataW H)) (before : List MemPlace) (X : List TypeId)
  (hval : ∀ (j : Nat) t v, Tryz.f5.params[j]? = some t → args[j]? = some v → Value.okWide Tryz.prog W .any base t v)
  (hW : DataW.Whole enc Tryz.prog Tryz.f5.params.toList Rows.judgeAgreesSpec.vars false W args.toList ds gs before)
  (hw0 : ∀ z ∈ DataW.weightsEach Tryz.prog (Tryz.f5.params.toList ++ X) (ds ++ gs), z ≤ reachBytes) :
  Calls Tryz.prog 5 args W fun e W' => ∃ v, e = .returned v ∧ Rows.judgeAgreesSpec.post enc Tryz.prog Tryz.f5 false true false false W args v W' := by
 have hW' := hW
 have hlt := hW.lt
 obtain ⟨p, q, hA0, hV, hpq, hfz, hnd⟩ := hW
 have hA : DataW.TrodAll enc Tryz.prog W 0 (fun _ => true) true Tryz.f5.params.toList args.toList ds p := hA0
 rw [Tryz.params5] at hA hval hw0
 obtain ⟨v0, vs0, d0, ds0, p0, q0, hargs, rfl, rfl, h0, r0⟩ := trodAll_cons hA
 obtain ⟨rfl, rfl, rfl⟩ := trodAll_nil r0
 obtain rfl : args = #[v0] := by cases args; simp_all
 obtain ⟨rfl, rfl⟩ := trodVars_none hV
 clear hA0
 simp only [List.append_nil] at hW' hpq
 have hw : ∀ z ∈ DataW.weightsEach Tryz.prog ([47] ++ X) ([d0]), z ≤ reachBytes := fun z hz => hw0 z (by simpa using hz)
 have hb0 : ∀ z ∈ d0.weights Tryz.prog 47, z ≤ reachBytes := fun z hz => hw z (List.mem_append_left _ hz)
 have hv0 := hval 0 47 v0 rfl rfl
 obtain ⟨cs, rfl⟩ : ∃ cs, v0 = .agg cs := by
  simp only [Value.okWide, Tryz.underlying47] at hv0
  obtain ⟨cs, h, -⟩ := hv0
  exact ⟨cs, h⟩
 obtain ⟨a, hc, -⟩ := Sx.rv_agg rcArg h0 hb0
 refine (calledW (vs := [.agg cs]) Sx.K5f ⟨a, rfl, rfl⟩ (fun e => by simp only [Sx.repT]; exact ⟨_, _, rfl, hc e, rfl⟩)).mono fun e W' ⟨he, hb⟩ => ?_
 subst he
 have hs0 : ∀ x ∈ p0, x ∈ before := fun x hx => by rw [hpq]; simp [hx]
 have ht : ∀ x ∈ before, x.block < W.heap.size := fun x hx => by simpa using hlt x hx
 refine ⟨_, rfl, post_of_old (pa := _) (pv := []) hW' (fun _ _ _ => trodAll_cons_mk (shut_bool Tryz.underlying4 _) trodAll_mk0)
  (fun sp hsp => trodAll_cons_mk (reads_on (by kernel_rfl) (of_decide_eq_true (by kernel_rfl)) h0 hb (fun x hx => ht x (hs0 x hx)) hs0 sp hsp) trodAll_mk0) (fun _ _ => rfl) (by rw [hpq]; simp) (hb.frame _) (fun b off h => below_frozen hb b off h) (ok_one (by kernel_rfl) rfl (okWide_bool_mk Tryz.underlying4 _))⟩
theorem laid_met (os : Os) : laidMetH Tryz.prog Rows.judgeAgreesRow.laid (((World.holding Tryz.prog os ⟨#[], #[], []⟩)).forCall (fun _ _ => 0) ⟨#[], #[.agg #[.slice none 0 0, .slice none 0 0, .int .i64 0, .int .i64 0, .int .i64 0, .int .i64 0, .int .i64 0, .int .i64 0, .int .u16 0]], []⟩).memory := ⟨[], rfl, List.nodup_nil, fun _ _ h => by cases h⟩
theorem reads (os : Os) {H : Type} (enc : TypeId × Value → H) : ∃ places, DataW.whole enc Tryz.prog (((World.holding Tryz.prog os ⟨#[], #[], []⟩)).forCall (fun _ _ => 0) ⟨#[], #[.agg #[.slice none 0 0, .slice none 0 0, .int .i64 0, .int .i64 0, .int .i64 0, .int .i64 0, .int .i64 0, .int .i64 0, .int .u16 0]], []⟩).memory Tryz.f5.params.toList Rows.judgeAgreesSpec.vars false (#[.agg #[.slice none 0 0, .slice none 0 0, .int .i64 0, .int .i64 0, .int .i64 0, .int .i64 0, .int .i64 0, .int .i64 0, .int .u16 0]] : Array Value).toList 8 = some ([.agg [.nil, .nil, .agg [.lit (.int .i64 0), .lit (.int .i64 0), .lit (.int .i64 0)], .agg [.lit (.int .i64 0), .lit (.int .i64 0), .lit (.int .i64 0)], .lit (.int .u16 0)]], [], places) :=
 ⟨[], by kernel_rfl⟩
set_option maxRecDepth 100000 in
theorem lifted (os : Os) (started : os.Started) (H : Type) (enc : TypeId × Value → H) (F : Stop.Interp) :
  ReturnsInHanded {} Tryz.checked os 5 .any ((OpenSpec.ofChange Rows.judgeAgreesSpec).preRow enc Tryz.prog Tryz.f5 Rows.judgeAgreesRow.domain false Rows.judgeAgreesRow.laid) (((OpenSpec.ofChange Rows.judgeAgreesSpec).at F).post enc Tryz.prog Tryz.f5 false true false false) := by
 obtain ⟨places, hx⟩ := reads os enc
 refine returnsInHanded_of_row (C := Tryz.checked) (s := OpenSpec.ofChange Rows.judgeAgreesSpec) own started (by kernel_rfl) Tryz.func5
  (witness_row_at (enc := enc) (C := Tryz.checked) false (World.holding Tryz.prog os ⟨#[], #[], []⟩) #[.agg #[.slice none 0 0, .slice none 0 0, .int .i64 0, .int .i64 0, .int .i64 0, .int .i64 0, .int .i64 0, .int .i64 0, .int .u16 0]] rfl (by kernel_rfl) (by kernel_rfl) (by kernel_rfl)
   (OpenSpec.preRow_of_cond 8 hx (by kernel_rfl) (fun k hk => by cases hk) (by kernel_rfl) (laid_met os))) ?_
 intro W base args ds gs before hval hW _ _ hwe _ _ _
 exact contract H enc W base args ds gs before _ hval hW (fun z hz => by simpa using List.all_eq_true.1 hwe z hz)
theorem said : Rows.JudgeAgreesSaid :=
 OpenClaim.holds_of_cond 5 Tryz.f5 rfl rfl rfl rfl rfl rfl rfl ⟨rfl, rfl, rfl, rfl, rfl⟩ rfl rfl rfl rfl rfl (by kernel_rfl) Tryz.func5 (by kernel_rfl)
  (of_decide_eq_true (by kernel_rfl)) (by unfold Func.isWrapper; first | (rw [if_pos (by decide +kernel)]; kernel_rfl) | (rw [if_neg (by decide +kernel)]; exact ⟨rfl, rfl⟩))
  (fun os started H enc _ F => by rw [OpenClaim.pre_eq_preRow]; exact lifted os started H enc F)
end Go.Proofs.YtmbocmonhcplhaaGreat.agrees
namespace Go.Proofs.YtmbocmonhcplhaaGreat
theorem judgeAgrees_holds : Rows.JudgeAgreesSaid := Go.Proofs.YtmbocmonhcplhaaGreat.agrees.said
end Go.Proofs.YtmbocmonhcplhaaGreat
