/- Part of the proofs that the laws of the journal return true for every input: L39. -/
import Derived.Test.YtiddnjgnjmdobaaGreatDoorL37
import Derived.Test.YtiddnjgnjmdobaaGreatDoorCards
import Derived.Test.YtiddnjgnjmdobaaGreatDoorTie
import Derived.Test.YtiddnjgnjmdobaaGreatDoorChecked
import Derived.WalkKit
import Derived.ProofKit
import Derived.OpenShut
import Derived.Deep.DeepHandedRow
import Derived.Lib.LaidTab
set_option linter.unusedVariables false
set_option linter.unusedSimpArgs false
set_option linter.all false
/-! L39: JournalNothing: the frame. -/
namespace Go.Proofs.YtiddnjgnjmdobaaGreatDoor.frame
open Go.ChangeShapes Go.WideShapes Go.ChangeAt Go.RowKit
theorem own : ownKnob Tryz.prog.godebug = none := by kernel_rfl
theorem gTabType : (Tryz.prog.globals[3]?).map (·.type) = some 150 := by kernel_rfl
theorem und150 : Tryz.prog.underlying 150 = some (.array 20 123) := by kernel_rfl
theorem und123 : Tryz.prog.underlying 123 = some (.int .u64) := by kernel_rfl
theorem cells150 : Tryz.prog.cellsOf 150 = 20 := by kernel_rfl
theorem cells123 : Tryz.prog.cellsOf 123 = 1 := by kernel_rfl
/-- What the rows' list gives: the powers of ten. -/
theorem table {W : World} (h : laidMetH Tryz.prog Rows.journalNothingRow.laid W) : ∃ nm, Tryz.prog.globalNamed nm = some 3 ∧ Lib.TabIs Tryz.prog W nm .u64 Lib.pow10Tab := by
  have h' : laidMet Tryz.prog Rows.journalNothingRow.laid W := h
  obtain ⟨ps, ⟨_, _, _, _, _, _, _, _, _, _, ⟨_, _, _, _, _, _, _, _, _, _, ⟨g', t', cs, fuel, p, q, hg', ht', hvar, hd, _, _⟩, _⟩, _⟩, _⟩ := h'
  have hg : g' = 3 := Option.some.inj (hg'.symm.trans (by kernel_rfl))
  refine ⟨_, hg'.trans (congrArg some hg), ?_⟩
  unfold Lib.TabIs
  rw [hvar]
  subst hg
  obtain rfl := Option.some.inj (gTabType.symm.trans ht')
  have hd' : DataW.trod (fun _ => ()) Tryz.prog W 0 (fun _ => true) false fuel 150 cs.toList = some (Lib.tabData .u64 Lib.pow10Tab, p) := hd
  rw [← Lib.cells_of_tab und150 und123 cells123 cells150 hd']
/-- A contract of the walk, in a world that holds the table. -/
theorem called {f : FuncId} {ds : List Sx.SD} {vs : List Value} {W : World} {R : List Sx.SD → Sx.SD → Prop} (hf : Sx.FnOK Tryz.prog f R) (hR : R ds (.bool true)) {nm : String} (gTab : Tryz.prog.globalNamed nm = some 3) (ht : Lib.TabIs Tryz.prog W nm .u64 Lib.pow10Tab)
    (hr : ∀ h : Sx.Hp, (∀ b, b ≠ 3 → h b = none) → Sx.repT h ds ⟨fun _ => 0, fun _ => undef⟩ vs) : Calls Tryz.prog f vs.toArray W fun e W' => e = .returned (.bool true) ∧ Below W.heap.size W W' := by
  have hx : ∃ T fr, W.heap[3]? = some (.cells Sx.gCells T fr) := by
    unfold Lib.TabIs World.var? at ht
    rw [gTab] at ht
    simp only [Option.bind_some] at ht
    split at ht
    · rename_i cs T fr hw
      simp only [Option.some.injEq] at ht
      exact ⟨T, fr, by rw [hw, ht]; rfl⟩
    · cases ht
  obtain ⟨T, fr, hx⟩ := hx
  let h : Sx.Hp := fun b => if b = 3 then some (.cells Sx.gCells T fr) else none
  have gh : Sx.GH h := ⟨T, fr, if_pos (show Sx.gTab = 3 from rfl)⟩
  have hs : Sx.Sub h W := fun b o ho => by
    by_cases hb : b = 3
    · subst hb
      simp only [h, if_true, Option.some.injEq] at ho
      rw [← ho]; exact hx
    · simp [h, hb] at ho
  refine (hf.ok ds (.bool true) hR h ⟨fun _ => 0, fun _ => undef⟩ W vs gh hs (hr h fun b hb => by simp [h, hb])).mono fun en W' hq => ?_
  obtain ⟨v, h', rfl, _, _, hb, _, hv⟩ := hq
  have := hv ⟨fun _ => 0, fun _ => undef⟩
  simp only [Sx.rep] at this
  exact ⟨by rw [this], hb⟩
section
variable {H : Type} {enc : TypeId × Value → H} {P : Program}
/-- What the contract asks behind the call, where the world's old blocks stand. -/
theorem post_of_old {f : Func} {s : ChangeSpec} {apart fresh handsOn again : Bool} {W W' : World} {args : Array Value} {v : Value} {ds gs : List (DataW H)} {before pa pv : List MemPlace}
    (hW : DataW.Whole enc P f.params.toList s.vars apart W args.toList ds gs before)
    (hres : ∀ (b : Nat) (sp : Nat → Bool) (hd : Bool), DataW.TrodAll enc P W' b sp hd f.resultTypes.toList (v.resultList f.resultTypes.size) (s.fn H (ds ++ gs)).results [])
    (hargs : ∀ sp : Nat → Bool, (∀ p ∈ before, sp p.block = true) → DataW.TrodAll enc P W' 0 sp true f.params.toList args.toList (s.fn H (ds ++ gs)).args pa)
    (hvars : ∀ sp : Nat → Bool, (∀ p ∈ before, sp p.block = true) → DataW.TrodVars enc P W' sp s.vars (s.fn H (ds ++ gs)).vars pv)
    (hps : before = pa ++ pv) (hk : W.keptBut W' (· ∈ before)) (hfz : ∀ b off, b < W.heap.size → W'.frozen? ⟨b, off, none⟩ = W.frozen? ⟨b, off, none⟩)
    (hok : ∀ (j : Nat) (t : TypeId) (r : Value), f.resultTypes[j]? = some t → (v.resultList f.resultTypes.size)[j]? = some r → Value.okWide P W' .any 0 t r) :
    s.post enc P f apart fresh handsOn again W args v W' := by
  have hold : ∀ p ∈ before, (fun b => decide (b < W.heap.size)) p.block = true := fun p hp => by simpa using hW.lt p hp
  have hlt := hW.lt
  refine ⟨ds, gs, before, [], pa, pv, hW, hres _ _ _, hargs _ hold, hvars _ hold, World.keptBut_mono (fun p hp => ⟨hp, ?_⟩) hk, fun _ => ?_⟩
  · rw [hps, List.mem_append] at hp
    exact Or.inr hp
  · obtain ⟨_, _, _, _, _, hz, hn⟩ := hW
    refine ⟨hok, _, _, ([] ++ pa) ++ pv, ⟨[] ++ pa, pv, trodAll_append (hargs _ (fun _ _ => rfl)) (hres _ _ _), hvars _ (fun _ _ => rfl), rfl, ?_, ?_⟩, ?_⟩
    · intro b off hp
      have hm : MemPlace.cell b off ∈ before := by rw [hps]; simpa using hp
      rw [hfz b off (hlt _ hm)]
      exact hz b off hm
    · intro ha
      have := hn ha
      rw [hps] at this
      simpa using this
    · intro p hp _
      rw [hps]
      simpa using hp
end
theorem below_frozen {W W' : World} (h : Below W.heap.size W W') (b off : Nat) (hb : b < W.heap.size) : W'.frozen? ⟨b, off, none⟩ = W.frozen? ⟨b, off, none⟩ := by
  unfold World.frozen?
  simp only [h.block b hb]
end Go.Proofs.YtiddnjgnjmdobaaGreatDoor.frame
