/- Part of the proofs that the laws of the journal return true for every input: SxMr, SxAp, SxRe, SxRf, SxRg, SxRh, SxRi, SxRj, SxCp, SxBs, SxAs, SxKb, SxKc, SxKd, SxKe, SxKf, SxBr, SxKg, SxRk, SxBo. -/
import Derived.Test.YtiddnjgnjmdobaaGreatDoorS2
import Derived.LoopN
import Derived.RangeFuncLeaves
import Derived.RangeFuncNested
import Derived.Laws.IdiomStrings
import Derived.Laws.BytesArg
import Derived.LoopNIn
import Derived.Lib.AppendStr
set_option linter.unusedVariables false
set_option linter.unusedSimpArgs false
set_option linter.all false
/-! SxMr: the steps of maps in a region. -/
namespace Go.Sx
open Go.RowKit
open Go.ChangeMaps (setBlock)
section
variable {P : Program} {F : List Nat} {w0 : Base} {Q : Exit → Act → World → Prop} {s : St} {ops : Array Oper} {rest : List Oper}

/-- A new block of one's own that is neither cells nor a slice. -/
theorem Den.newObj {h : Hp} {e : Nm} {a : Act} {w : World} (D : Den F w0 s h e a w) {k : Nat} {m : MD} {o : Obj} (hf : Free s k) (ho : mpObj h m w.heap.size o) (nx : Nat) :
    Den F w0 { s with nx := nx, ow := upd s.ow k (.mp m []) } h (e.setB k w.heap.size) a (w.alloc o) := by
  have hb := Below.alloc (Below.refl w.heap.size w) (Nat.le_refl _) o
  have D1 := (D.below hb).rename (e.but_setB k w.heap.size) hf
  have hnone : h w.heap.size = none := by
    cases hx : h w.heap.size with
    | none => rfl
    | some o => have := (Array.getElem?_eq_some_iff.1 (D.sub _ _ hx)).1; omega
  refine D1.addOwn (o := .mp m []) (free_lkO hf) ⟨o, ?_, by simpa only [Nm.setB, if_true] using ho⟩ (fun b hb => ?_) (fun j o' b hj hb' hc' => ?_) nx
  · simp only [Nm.setB, if_true]; exact heap_alloc_new w _
  · simp only [OB.blk, Nm.setB, if_true, Option.some.injEq] at hb
    subst hb
    exact ⟨.inl D.keeps.size, hnone⟩
  · simp only [OB.blk, Nm.setB, if_true, Option.some.injEq] at hc'
    subst hc'
    have hjk : j ≠ k := fun x => by subst x; rw [free_lkO hf] at hj; cases hj
    rw [blk_but (e.but_setB k _) hjk] at hb'
    have := obOk_lt (D.own j o' hj) hb'
    omega

/-- An own map's or iterator's block turns. -/
theorem Den.setMp {h : Hp} {e : Nm} {a : Act} {w : World} (D : Den F w0 s h e a w) {k : Nat} {m m' : MD} {l : List (SD × SD)} {o o' : Obj} (ho : lkO s.ow k = some (.mp m l)) (hb : w.heap[e.bs k]? = some o) (h' : mpObj h m' (e.bs k) o') :
    Den F w0 { s with ow := upd s.ow k (.mp m' []) } h e a (setBlock w (e.bs k) o') := by
  have hs := MapKept.heap_set (o' := o') hb
  refine D.setOwn (o' := .mp m' []) ho rfl ⟨o', hs.1, h'⟩ (fun b hbk => ?_) rfl rfl rfl (by simp [setBlock])
  exact hs.2 b fun hc => hbk (by simp [OB.blk, hc])

def newS (s : St) (t : Nat) (d : SD) (o : OB) : Option St :=
  bif Nat.blt t s.n && s.free s.nx then some ⟨s.n, s.nx + 1, upd s.sl t d, upd s.ow s.nx o⟩ else none
/-- What 'm[k] = v' makes of the state. -/
def muD (P : Program) (s : St) (T : Nat) (x y z : SD) : Option (List Prop × St) :=
  match x with
  | .omap j => match lkO s.ow j, kkT P T with
    | some (.mp m _), some kk => match m.it, keyMK kk y with
      | none, some q => bif decide (m.kk = kk) && pureD z then some ([m.n < maxN], { s with ow := upd s.ow j (.mp ⟨m.kk, bif m.dom q then m.n else m.n + 1, addK q m.dom, setD q z m.f, none⟩ []) }) else none
      | _, _ => none
    | _, _ => none
  | _ => none

where
  entry_eq : ∀ {l : List MapEntry}, l.Pairwise (fun x y => x.key ≠ y.key) → ∀ {x y : MapEntry}, x ∈ l → y ∈ l → x.key = y.key → x = y
    | [], _, _, _, hx, _, _ => by simp at hx
    | a :: r, hp, x, y, hx, hy, h => by
      obtain ⟨h1, h2⟩ := List.pairwise_cons.1 hp
      rcases List.mem_cons.1 hx with ex | hx'
      · rcases List.mem_cons.1 hy with ey | hy'
        · rw [ex, ey]
        · exact absurd (ex ▸ h) (h1 y hy')
      · rcases List.mem_cons.1 hy with ey | hy'
        · exact absurd (ey ▸ h).symm (h1 x hx')
        · exact entry_eq h2 hx' hy' h

end
end Go.Sx

/-! SxAp: append under a new number, as in regions that draw their order; numbers changed. -/
namespace Go.Sx
open Go.RowKit

section
variable {P : Program} {F : List Nat} {w0 : Base} {s : St} {h : Hp} {e : Nm} {a : Act} {w : World}

variable {Q : Exit → Act → World → Prop} {l : List Oper} {s0 : St} {rs : List Rec} {id : Nat} {rest : List Oper}

/-! ### A number changed -/
def oneK (k m : Nat) : Bool := !Nat.beq m k
def swp (j k m : Nat) : Nat := bif Nat.beq m j then k else m
def renS (σ : Nat → Nat) : List (Nat × SD) → List (Nat × SD)
  | [] => []
  | (i, d) :: r => (i, ren σ d) :: renS σ r
theorem lkp_renS (σ : Nat → Nat) : ∀ (l : List (Nat × SD)) (t : Nat), lkp (renS σ l) t = ren σ (lkp l t)
  | [], t => rfl
  | (i, d) :: r, t => by
    simp only [renS, lkp]
    cases Nat.beq i t
    · exact lkp_renS σ r t
    · rfl
/-- Number j becomes k, which is in use no more. -/
def renD (s : St) (j k : Nat) : Option St :=
  bif Nat.blt j 1000 && Nat.blt k 1000 && !Nat.beq j k && mapsOk (oneK k) (oneK k) s.ow then
    some ⟨s.n, s.nx, renS (swp j k) (prgS (oneK k) (oneK k) s.sl), renOs (swp j k) (prgO (oneK k) (oneK k) [k] 0 0 s.ow)⟩ else none
def Nm.mov (e : Nm) (j k : Nat) : Nm := ⟨fun m => if m = k then e.bs j else e.bs m, fun m => if m = k then e.hd j else e.hd m⟩

theorem Den.ren (D : Den F w0 s h e a w) {j k : Nat} {s' : St} (hq : renD s j k = some s') : Den F w0 s' h (e.mov j k) a w := by
  unfold renD at hq
  cases hb : (Nat.blt j 1000 && Nat.blt k 1000 && !Nat.beq j k && mapsOk (oneK k) (oneK k) s.ow)
  · rw [hb] at hq; cases hq
  rw [hb] at hq
  simp only [cond_true, Option.some.injEq] at hq
  subst hq
  simp only [Bool.and_eq_true, Bool.not_eq_true'] at hb
  obtain ⟨⟨⟨b1, b2⟩, b3⟩, b4⟩ := hb
  have b1 := blt_lt b1
  have b2 := blt_lt b2
  have b3 := bne_of b3
  have ag : e.agr (oneK k) (oneK k) ((e.mov j k).via (swp j k)) := by
    have key : ∀ m, oneK k m = true → m ≠ k := fun m hm hc => by subst hc; simp [oneK] at hm
    refine ⟨fun m hm => ?_, fun m hm => ?_⟩
    · have hmk := key m hm
      by_cases hmj : m = j
      · subst hmj; simp [Nm.via, swp, Nm.mov]
      · simp [Nm.via, swp, beqF hmj, Nm.mov, hmk]
    · have hmk := key m hm
      by_cases hmj : m = j
      · subst hmj; simp [Nm.via, swp, Nm.mov]
      · simp [Nm.via, swp, beqF hmj, Nm.mov, hmk]
  have slotP : ∀ t, rep h (lkp (prgS (oneK k) (oneK k) s.sl) t) e (a.tmps.getD t undef) ∧ allN (oneK k) (oneK k) (lkp (prgS (oneK k) (oneK k) s.sl) t) = true := fun t => by
    rw [lkp_prgS]
    cases hx : allN (oneK k) (oneK k) (lkp s.sl t)
    · exact ⟨by simp [rep], rfl⟩
    · exact ⟨D.slot t, hx⟩
  have obj : ∀ m o, lkO (renOs (swp j k) (prgO (oneK k) (oneK k) [k] 0 0 s.ow)) m = some o → ∃ m0 o1 o0, swp j k m0 = m ∧ m0 ≠ k ∧ lkO s.ow m0 = some o0 ∧ OLe o0 o1 ∧ allNO (oneK k) (oneK k) o1 = true ∧ o = renO (swp j k) o1 := fun m o ho => by
    obtain ⟨m0, o1, q1, q2, q3⟩ := lkO_renOs ho
    obtain ⟨q4, _, o0, q5, q6, q7⟩ := lkO_prgO b4 q2
    exact ⟨m0, o1, o0, q1, fun hc => q4 (by rw [hc]; simp), q5, q6, q7, q3⟩
  have self : ∀ m0 (o1 : OB), m0 ≠ k → (bif o1.isAcc then oneK k m0 else oneK k m0) = true := fun m0 o1 hm => by
    have : Nat.beq m0 k = false := beqF hm
    cases o1.isAcc <;> simp [oneK, this]
  have blk : ∀ m0 (o1 o0 : OB), m0 ≠ k → OLe o0 o1 → (renO (swp j k) o1).blk (e.mov j k) (swp j k m0) = o0.blk e m0 := fun m0 o1 o0 hm hle => by
    rw [blk_ren, blk_agr ag o1 (self m0 o1 hm), hle.blk]
  refine ⟨D.defers, D.size, fun t => ?_, fun m o ho => ?_, fun m o b ho hbl => ?_, fun m m' o o' b hne ho ho' hbl => ?_, D.sub, D.keeps, D.le, D.neww, fun i b hib => ?_⟩
  · rw [lkp_renS]
    exact (rep_ren _ _).2 (rep_agr ag _ _ (slotP t).2 (slotP t).1)
  · obtain ⟨m0, o1, o0, q1, q2, q3, q4, q5, q6⟩ := obj m o ho
    subst q1 q6
    exact (obOk_ren o1).2 (obOk_agr ag o1 (self m0 o1 q2) q5 (q4.ok (D.own m0 o0 q3)))
  · obtain ⟨m0, o1, o0, q1, q2, q3, q4, q5, q6⟩ := obj m o ho
    subst q1 q6
    rw [blk m0 o1 o0 q2 q4] at hbl
    obtain ⟨r1, r2⟩ := D.ownb m0 o0 b q3 hbl
    refine ⟨?_, r2⟩
    rcases r1 with r1 | ⟨r1, r3⟩
    · exact .inl r1
    · refine .inr ⟨r1, ?_⟩
      have : m0 ≠ j := fun hc => by omega
      simp only [swp, beqF this, cond_false]
      exact r3
  · obtain ⟨m0, o1, o0, q1, q2, q3, q4, q5, q6⟩ := obj m o ho
    obtain ⟨m0', o1', o0', q1', q2', q3', q4', q5', q6'⟩ := obj m' o' ho'
    subst q1 q6 q1' q6'
    rw [blk m0 o1 o0 q2 q4] at hbl
    rw [blk m0' o1' o0' q2' q4']
    exact D.apart m0 m0' o0 o0' b (fun hc => hne (by rw [hc])) q3 q3' hbl
  · have : ¬ 1000 + i = k := by omega
    simp only [Nm.mov, this, if_false]
    exact D.fix i b hib

theorem run_ren (j k : Nat) {s' : St} {fin : Exit → Act → World → Prop} {kl : List It} (hq : renD s j k = some s') (hn : Run P F w0 fin kl s') : Run P F w0 fin kl s := fun _ _ _ _ D => hn _ _ _ _ (D.ren hq)
end
end Go.Sx

/-! SxRe: runs of which is known only that there is an outcome, the same in every world. -/
namespace Go.Sx
open Go.RowKit

abbrev Fin := Exit → Act → World → Prop
section
variable {P : Program} {β : Type} {fin : β → List Nat → Base0 → Fin} {s : St}

end

section
variable {P : Program} {F : List Nat} {w0 : Base0} {s : St}
/-- The end of a body. -/
theorem run_endM {fn : Func} {d : SD} {os' : List (Nat × OB)} (hr : fn.results = #[]) (hd : SLe (.tup []) d) (ho : subO s.ow os') : Run P F w0.std (bodyPost P fn (retPostM F w0 d os')) [] s := fun h e a w D => by
  show bodyPost P fn (retPostM F w0 d os') .ret a w
  have hO : OwnP F w0.w os' h e w := by
    have key : ∀ j o, lkO os' j = some o → ∃ o0, lkO s.ow j = some o0 ∧ OLe o0 o := fun j o hj => subO_ok ho j o hj
    refine ⟨fun j o hj => ?_, fun j o b hj hb => ?_, fun j j' o o' b hne hj hj' hb => ?_⟩
    · obtain ⟨o0, g1, g2⟩ := key j o hj
      exact g2.ok (D.own j o0 g1)
    · obtain ⟨o0, g1, g2⟩ := key j o hj
      rw [g2.blk] at hb
      exact D.ownb j o0 b g1 hb
    · obtain ⟨o0, g1, g2⟩ := key j o hj
      obtain ⟨o1, g3, g4⟩ := key j' o' hj'
      rw [g2.blk] at hb
      rw [g4.blk]
      exact D.apart j j' o0 o1 b hne g1 g3 hb
  have hres : (results fn a.tmps).run P w = .ok (.tuple #[]) w := by simp [results, hr]
  refine bodyPost_ret hres D.defers ⟨_, h, e, rfl, D.le, D.sub, D.keeps, D.neww, D.fix, ?_, hO⟩
  exact hd h e _ (by simp [rep, repT])
end
end Go.Sx

/-! SxRf: iterators and yield: contracts that hold where some blocks are where they were. -/
namespace Go.Sx
open Go.RowKit

/-- What a world has of an earlier one: what stayed, and where some blocks lie. -/
structure Anch (h0 : Hp) (bl : List Nat) (b0 : Base0) : Prop where
  le : Le h0 b0.h
  fx : ∀ (i b : Nat), bl[i]? = some b → b0.fix[i]? = some b

/-- A contract with own objects, under an anchor. -/
structure FnMA (P : Program) (f : Nat) (h0 : Hp) (bl : List Nat) (R : List SD → List OB → SD → List (Nat × OB) → Prop) : Prop where
  call : ∀ args w, (callFunc f args).run P w = .ok (.enter f args) w
  ok : ∀ ds os d os', R ds os d os' → ∀ h e w vs (gh : GH h), Le h0 h → (∀ (i b : Nat), bl[i]? = some b → e.bs (1000 + i) = b) → Sub h w → repT h ds e vs → (∀ (i : Nat) (o : OB), os[i]? = some o → obOk h e w (1000 + i) o) → (∀ b, b ∈ blksO e 1000 os → h b = none) →
    (∀ (i j : Nat) (o o' : OB) (b : Nat), i ≠ j → os[i]? = some o → os[j]? = some o' → o.blk e (1000 + i) = some b → o'.blk e (1000 + j) ≠ some b) →
    Calls P f vs.toArray w (retPostM (blksO e 1000 os) ⟨w, h, fixO e os, gh⟩ d os')

/-- What a call of a loop's yield does. -/
structure YldMA (P : Program) (l : Nat) (h0 : Hp) (bl : List Nat) (R : List SD → List OB → SD → List (Nat × OB) → Prop) : Prop where
  ok : ∀ ds os d os', R ds os d os' → ∀ h e w vs (gh : GH h), Le h0 h → (∀ (i b : Nat), bl[i]? = some b → e.bs (1000 + i) = b) → Sub h w → repT h ds e vs → (∀ (i : Nat) (o : OB), os[i]? = some o → obOk h e w (1000 + i) o) → (∀ b, b ∈ blksO e 1000 os → h b = none) →
    (∀ (i j : Nat) (o o' : OB) (b : Nat), i ≠ j → os[i]? = some o → os[j]? = some o' → o.blk e (1000 + i) = some b → o'.blk e (1000 + j) ≠ some b) →
    YieldAt Fence.wide 0 P l vs.toArray w (retPostM (blksO e 1000 os) ⟨w, h, fixO e os, gh⟩ d os')

theorem fixO_get {e : Nm} {os : List OB} {i : Nat} (h : i < os.length) : (fixO e os)[i]? = some (e.bs (1000 + i)) := by
  simp only [fixO, List.getElem?_map, List.getElem?_range h, Option.map_some]

section
variable {P : Program} {F : List Nat} {w0 : Base} {s : St} {h : Hp} {e : Nm} {a : Act} {w : World}

theorem Den.passF (D : Den F w0 s h e a w) {ks : List Nat} {ds0 ds : List SD} {os : List OB} (C : PassM s ks ds0 ds os) {vs : List Value} (hv : repT h ds0 e vs) :
    repT h ds (e.inn ks) vs ∧ (∀ (i : Nat) (o : OB), os[i]? = some o → obOk h (e.inn ks) w (1000 + i) o) ∧ (∀ b, b ∈ blksO (e.inn ks) 1000 os → h b = none) ∧
    (∀ (i j : Nat) (o o' : OB) (b : Nat), i ≠ j → os[i]? = some o → os[j]? = some o' → o.blk (e.inn ks) (1000 + i) = some b → o'.blk (e.inn ks) (1000 + j) ≠ some b) := by
  have hag := inn_agr (e := e) (ks := ks)
  have hi : ∀ {i : Nat} {o : OB}, os[i]? = some o → i < ks.length := fun {i o} ho => by have := (List.getElem?_eq_some_iff.1 ho).1; rw [C.len] at this; exact this
  have hidx : ∀ i, i < ks.length → tau ks (getN ks i) = 1000 + i := fun i hi => idx_get ks i 1000 hi C.nd
  have hb : ∀ {i : Nat} {o : OB} {b : Nat}, os[i]? = some o → o.blk (e.inn ks) (1000 + i) = some b → ∃ o0, lkO s.ow (getN ks i) = some o0 ∧ o0.blk e (getN ks i) = some b := fun {i o b} ho hb => by
    obtain ⟨o0, h1, rfl, h3⟩ := C.obj i o ho
    refine ⟨o0, h1, ?_⟩
    cases o0 <;> simpa [renO, OB.blk, Nm.inn] using hb
  refine ⟨?_, fun i o ho => ?_, fun b hbb => ?_, fun i j o o' b hij ho ho' hbl => ?_⟩
  · rw [C.ds]
    exact (repT_ren ds0 vs).2 (repT_agr hag ds0 vs C.arg hv)
  · obtain ⟨o0, h1, rfl, h3⟩ := C.obj i o ho
    rw [← hidx i (hi ho)]
    refine (obOk_ren o0).2 (obOk_agr hag o0 ?_ h3 (D.own _ o0 h1))
    have := memb_iff.2 (getN_mem (hi ho))
    cases o0.isAcc
    · exact this
    · exact this
  · obtain ⟨i, o, h1, h2⟩ := mem_blksO.1 hbb
    obtain ⟨o0, h3, h4⟩ := hb h1 h2
    exact (D.ownb _ o0 b h3 h4).2
  · obtain ⟨o0, h3, h4⟩ := hb ho hbl
    intro hc
    obtain ⟨o1, h5, h6⟩ := hb ho' hc
    refine D.apart _ _ o0 o1 b (fun hc => hij ?_) h3 h5 h4 h6
    have h7 := hidx i (hi ho)
    have h8 := hidx j (hi ho')
    rw [hc, h8] at h7
    omega

/-- The numbers that are passed on are the anchored ones. -/
def anchK (ks : List Nat) : List Nat → Nat → Bool
  | [], _ => true
  | _ :: r, i => Nat.beq (getN ks i) (1000 + i) && anchK ks r (i + 1)
theorem anchK_ok {ks : List Nat} : ∀ {bl : List Nat} {i : Nat}, anchK ks bl i = true → ∀ (j b : Nat), bl[j]? = some b → getN ks (i + j) = 1000 + (i + j)
  | [], _, _, j, b, h => by simp at h
  | x :: r, i, hk, 0, b, _ => by
    simp only [anchK, Bool.and_eq_true] at hk
    exact Nat.eq_of_beq_eq_true hk.1
  | x :: r, i, hk, j + 1, b, h => by
    simp only [anchK, Bool.and_eq_true] at hk
    have := anchK_ok hk.2 j b (by simpa using h)
    rw [show i + (j + 1) = i + 1 + j by omega]
    exact this

theorem Den.anch (D : Den F w0 s h e a w) {h0 : Hp} {bl : List Nat} (ha : Anch h0 bl w0.b0) {ks : List Nat} (hk : anchK ks bl 0 = true) : Le h0 h ∧ ∀ (i b : Nat), bl[i]? = some b → (e.inn ks).bs (1000 + i) = b := by
  refine ⟨ha.le.trans D.le, fun i b hb => ?_⟩
  have h1 := anchK_ok hk i b hb
  rw [Nat.zero_add] at h1
  simp only [Nm.inn, Nat.add_sub_cancel_left, h1]
  exact D.fix i b (ha.fx i b hb)

variable {Q : Exit → Act → World → Prop} {ops : Array Oper} {rest : List Oper} {h0 : Hp} {bl : List Nat}

/-- A call of yield. -/
theorem stepcallYA {t j l : Nat} {args : Array Operand} {tys : Array Nat} {ty : Nat} {pos : String} {af : Array Edge} {R : List SD → List OB → SD → List (Nat × OB) → Prop} (ks : List Nat) {ds : List SD} {os : List OB} {d : SD} {os' : List (Nat × OB)} {s' : St} (hf : YldMA P l h0 bl R) (hj : lkp s.sl j = .yld l)
    (han : Anch h0 bl w0.b0) (hak : anchK ks bl 0 = true) (hnd : nodupB ks = true) (ha : renL (tau ks) (args.toList.map (unG s)) = ds) (hal : allNL (fun x => memb x ks) (fun x => memb x ks) (args.toList.map (unG s)) = true) (ho : osOf s ks ks = some os) (hg : allP (gCs s args.toList [])) (hR : R ds os d os')
    (hs : callMD s t ks os d os' = some s') (hn : RunL P F w0 ops Q rest s') : RunL P F w0 ops Q (⟨some t, .call ⟨.value (.tmp j), args, tys⟩, ty, pos, af, none⟩ :: rest) s := fun h e a w D => by
  refine wpS_in1 rfl fun K hK r => ?_
  have hv := D.slot j
  rw [hj] at hv
  simp only [rep] at hv
  obtain ⟨q1, q2, q3, q4⟩ := D.passF (passM hnd ha hal ho) (repT_args D (allP_gCs hg).1 fun _ hx => hx)
  obtain ⟨q5, q6⟩ := D.anch han hak
  obtain ⟨fn, tmps, assign, body, hy, hR'⟩ := hf.ok ds os d os' hR h (e.inn ks) w _ D.gh q5 q6 D.sub q1 q2 q3 q4
  refine ⟨fun f _ => fe_fn r f, ?_⟩
  rw [fe_round]
  have hsem : (Oper.semAt r a.eval ⟨some t, .call ⟨.value (.tmp j), args, tys⟩, ty, pos, af, none⟩) = execOp a.eval ⟨some t, .call ⟨.value (.tmp j), args, tys⟩, ty, pos, af, none⟩ := Oper.semAt_eq _ _ _ fun c hc => by cases hc
  rw [hsem]
  have harr : (args.toList.map a.eval).toArray = args.map a.eval := by apply Array.ext'; simp
  have hrun : (execOp a.eval ⟨some t, .call ⟨.value (.tmp j), args, tys⟩, ty, pos, af, none⟩).run P w = .ok (.round l fn tmps assign body) w := by
    have hev : a.eval (.tmp j) = .func (.yield l) #[] #[] := hv
    rw [harr] at hy
    simp [execOp, resolve, hev, Deferred.ofValue, invoke, hy]
  rw [hrun, Oper.uponIn_round]
  refine ⟨fe_dp r, ?_⟩
  have hR2 : RoundIn (fe r) (0 - 1) P l fn tmps assign body w (retPostM (blksO (e.inn ks) 1000 os) ⟨w, h, fixO (e.inn ks) os, D.gh⟩ d os') := by
    cases r with
    | none => exact hR'
    | some l' => exact hR'
  refine hR2.mono fun en w' hq => ?_
  obtain ⟨v, h', e', rfl, D'⟩ := D.afterM ho hs hq
  exact hK _ _ (hn _ _ _ _ D')
end

theorem fn_introMA {P : Program} {f : Nat} {fn : Func} {c : Code} {n : Nat} {h0 : Hp} {bl : List Nat} {R : List SD → List OB → SD → List (Nat × OB) → Prop} (hcall : ∀ args w, (callFunc f args).run P w = .ok (.enter f args) w) (hf : P.funcs[f]? = some fn) (hb : fn.body = some c) (hn : fn.ntmps = n)
    (hrun : ∀ ds os d os', R ds os d os' → ds.length ≤ n ∧ bl.length ≤ os.length ∧ ∀ (F : List Nat) (w0 : Base0), Anch h0 bl w0 → Run P F w0.std (bodyPost P fn (retPostM F w0 d os')) [.code c] ⟨n, 0, enum 0 ds, enumO 1000 os⟩) : FnMA P f h0 bl R := by
  refine ⟨hcall, fun ds os d os' hR h e w vs gh hl0 hbl hs hr ho hb' hap => ?_⟩
  obtain ⟨hlen, hlb, hrun⟩ := hrun ds os d os' hR
  have hvl : vs.length = ds.length := by
    clear hR hrun hlen
    induction ds generalizing vs with
    | nil => simp only [repT] at hr; simp [hr]
    | cons d r ih => simp only [repT] at hr; obtain ⟨v, vs', rfl, _, h2⟩ := hr; simp [ih vs' h2]
  refine calls_of_wp hf hb ?_
  refine (wpIn_wide (n := 0)).1 ?_
  have hk : ∀ k o, lkO (enumO 1000 os) k = some o → ∃ i, k = 1000 + i ∧ os[i]? = some o := fun k o hk => by
    rw [lkO_enumO] at hk
    split at hk
    · exact ⟨k - 1000, by omega, hk⟩
    · cases hk
  have han : Anch h0 bl ⟨w, h, fixO e os, gh⟩ := ⟨hl0, fun i b hib => by
    have hi := (List.getElem?_eq_some_iff.1 hib).1
    show (fixO e os)[i]? = some b
    rw [fixO_get (by omega), hbl i b hib]⟩
  refine hrun (blksO e 1000 os) ⟨w, h, fixO e os, gh⟩ han h e _ w ⟨rfl, ?_, fun t => ?_, fun k o hko => ?_, fun k o b hko hbl => ?_, fun k k' o o' b hne hko hko' hbl => ?_, hs, Keeps.refl _ _, Le.refl h, fun _ _ => rfl, fun i b hib => ?_⟩
  · simp; omega
  · have := lkp_enum (e := e) 0 t hr
    simp only [Nat.zero_le, if_true, Nat.sub_zero] at this
    have e1 : (vs.toArray ++ Array.replicate (fn.ntmps - vs.toArray.size) undef).getD t undef = vs.getD t undef := by
      simp only [Array.getD_eq_getD_getElem?, Array.getElem?_append, List.getD_eq_getElem?_getD]
      by_cases ht : t < vs.length
      · simp [ht]
      · simp only [List.size_toArray, ht, if_false, Array.getElem?_replicate]
        rw [List.getElem?_eq_none (by omega)]
        split <;> simp
    rw [e1]
    exact this
  · obtain ⟨i, rfl, hi⟩ := hk k o hko
    exact ho i o hi
  · obtain ⟨i, rfl, hi⟩ := hk k o hko
    have hm : b ∈ blksO e 1000 os := mem_blksO.2 ⟨i, o, hi, hbl⟩
    exact ⟨.inr ⟨hm, by omega⟩, hb' b hm⟩
  · obtain ⟨i, rfl, hi⟩ := hk k o hko
    obtain ⟨j, rfl, hj⟩ := hk k' o' hko'
    exact hap i j o o' b (fun hc => hne (by rw [hc])) hi hj hbl
  · change (fixO e os)[i]? = some b at hib
    have hi : i < os.length := by
      have := (List.getElem?_eq_some_iff.1 hib).1
      simpa [fixO] using this
    rw [fixO_get hi] at hib
    simpa using hib
end Go.Sx

/-! SxRg: a loop's round as the contract of its yield. -/
namespace Go.Sx
open Go.RowKit
open Go.ChangeMaps (setBlock)

/-- A loop's record, but for its state. -/
structure LR where
  l : Nat
  fn : Nat
  tm : Array Value
  ps : Array Nat
  as : Code
  bd : Code
  dfr : Nat
def LR.loop (r : LR) (st : LoopState) (pe : Option Code) : Loop := { state := st, pending := pe, fn := r.fn, tmps := r.tm, params := r.ps, assign := r.as, body := r.bd, defers := r.dfr }
def rawOB (o : Obj) (K : Option Nat) : OB := .mp ⟨none, 0, fun _ => false, fun _ => .any, some (.raw o K)⟩ []
def recO (r : LR) (st : LoopState) (pe : Option Code) : OB := rawOB (.loop (r.loop st pe)) (some r.l)

theorem rawOk {h : Hp} {e : Nm} {w : World} {k : Nat} {o : Obj} {K : Option Nat} (x : obOk h e w k (rawOB o K)) : w.heap[e.bs k]? = some o ∧ ∀ b, K = some b → e.bs k = b := by
  obtain ⟨o', h1, h2, h3⟩ := x
  subst h2
  exact ⟨h1, h3⟩
theorem rawMk {h : Hp} {e : Nm} {w : World} {k : Nat} {o : Obj} {K : Option Nat} (h1 : w.heap[e.bs k]? = some o) (h2 : ∀ b, K = some b → e.bs k = b) : obOk h e w k (rawOB o K) := ⟨o, h1, rfl, h2⟩

/-- An own raw block is written. -/
theorem OwnP.setRaw {F : List Nat} {w0 w : World} {ow ow' : List (Nat × OB)} {h : Hp} {e : Nm} {k : Nat} {o o' : Obj} {K : Option Nat} (O : OwnP F w0 ow h e w) (hk : lkO ow k = some (rawOB o K)) (hk' : lkO ow' k = some (rawOB o' K)) (hne : ∀ j, j ≠ k → lkO ow' j = lkO ow j) : OwnP F w0 ow' h e (w.putObj (e.bs k) o') := by
  obtain ⟨hb, hK⟩ := rawOk (O.own k _ hk)
  have hlt := (Array.getElem?_eq_some_iff.1 hb).1
  have hbk : (rawOB o K).blk e k = some (e.bs k) := rfl
  have key : ∀ j x, lkO ow' j = some x → ∃ y, lkO ow j = some y ∧ x.blk e j = y.blk e j := fun j x hj => by
    by_cases hjk : j = k
    · subst hjk
      rw [hk'] at hj
      cases hj
      exact ⟨_, hk, rfl⟩
    · rw [hne j hjk] at hj
      exact ⟨x, hj, rfl⟩
  refine ⟨fun j x hj => ?_, fun j x b hj hxb => ?_, fun j j' x x' b hjj hj hj' hxb => ?_⟩
  · by_cases hjk : j = k
    · subst hjk
      rw [hk'] at hj
      cases hj
      exact rawMk (World.putObj_heap_same hlt) hK
    · rw [hne j hjk] at hj
      refine obOk_mono (Le.refl h) (fun b hxb => World.putObj_heap_other fun hc => ?_) (O.own j x hj)
      subst hc
      exact O.apart j k x _ _ hjk hj hk hxb hbk
  · obtain ⟨y, hy, hyb⟩ := key j x hj
    rw [hyb] at hxb
    exact O.ownb j y b hy hxb
  · obtain ⟨y, hy, hyb⟩ := key j x hj
    obtain ⟨y', hy', hyb'⟩ := key j' x' hj'
    rw [hyb] at hxb
    rw [hyb']
    exact O.apart j j' y y' b hjj hy hy' hxb

/-- The walk has come here, in state s. -/
def hereI (F : List Nat) (w0 : Base) (s : St) : Act → World → Prop := fun a w => ∃ h e, Den F w0 s h e a w
theorem run_here {P : Program} {F : List Nat} {w0 : Base} {fin : Exit → Act → World → Prop} {k : List It} {s : St} : Run P F w0 fin (.lp (hereI F w0 s) :: k) s := fun h e _ _ D => ⟨h, e, D⟩

def jumpOf : Exit → Option (Option Code)
  | .normal => some none
  | .ret => some (some .ret)
  | .exit id => some (some (.exit id))
  | _ => none
/-- What a round must leave. -/
def finR (F : List Nat) (w0 : Base0) (osb : List (Nat × OB)) (pe : Option Code) : Exit → Act → World → Prop := fun ex _ w => jumpOf ex = some pe ∧
  ∃ h e, Le w0.h h ∧ Sub h w ∧ Keeps F w0.w w ∧ (∀ b, b < w0.w.heap.size → h b = w0.h b) ∧ (∀ (i b : Nat), w0.fix[i]? = some b → e.bs (1000 + i) = b) ∧ OwnP F w0.w osb h e w

def putPs : List Nat → List SD → List (Nat × SD) → List (Nat × SD)
  | p :: ps, d :: ds, l => putPs ps ds (upd l p d)
  | _, _, l => l

theorem putPs_ok {h : Hp} {e : Nm} : ∀ (ps : List Nat) (ds : List SD) (vs : List Value) (sl : List (Nat × SD)) (tm : Array Value), repT h ds e vs → (∀ p ∈ ps, p < tm.size) → (∀ t, rep h (lkp sl t) e (tm.getD t undef)) →
    (((ps.zip vs).foldl (fun t (p : Nat × Value) => t.setIfInBounds p.1 p.2) tm).size = tm.size) ∧ ∀ t, rep h (lkp (putPs ps ds sl) t) e (((ps.zip vs).foldl (fun t (p : Nat × Value) => t.setIfInBounds p.1 p.2) tm).getD t undef)
  | [], ds, vs, sl, tm, _, _, h => by simpa [putPs] using h
  | p :: ps, [], vs, sl, tm, hr, _, h => by simp only [repT] at hr; subst hr; simpa [putPs] using h
  | p :: ps, d :: ds, vs, sl, tm, hr, hp, h => by
    simp only [repT] at hr
    obtain ⟨v, vs', rfl, h1, h2⟩ := hr
    simp only [List.zip_cons_cons, List.foldl_cons, putPs]
    have := putPs_ok ps ds vs' (upd sl p d) (tm.setIfInBounds p v) h2 (fun q hq => by simpa using hp q (by simp [hq])) (fun t => by
      rw [lkp_upd, getD_set _ _ _ _ (hp p (by simp))]
      by_cases ht : t = p
      · simp only [ht, if_true]; exact h1
      · simp only [ht, if_false]; exact h t)
    exact ⟨this.1.trans (by simp), this.2⟩

theorem Den.ownP {F : List Nat} {w0 : Base} {s : St} {h : Hp} {e : Nm} {a : Act} {w : World} (D : Den F w0 s h e a w) {os' : List (Nat × OB)} (ho : subO s.ow os') : OwnP F w0.w os' h e w := by
  have key : ∀ j o, lkO os' j = some o → ∃ o0, lkO s.ow j = some o0 ∧ OLe o0 o := fun j o hj => subO_ok ho j o hj
  refine ⟨fun j o hj => ?_, fun j o b hj hb => ?_, fun j j' o o' b hne hj hj' hb => ?_⟩
  · obtain ⟨o0, g1, g2⟩ := key j o hj
    exact g2.ok (D.own j o0 g1)
  · obtain ⟨o0, g1, g2⟩ := key j o hj
    rw [g2.blk] at hb
    exact D.ownb j o0 b g1 hb
  · obtain ⟨o0, g1, g2⟩ := key j o hj
    obtain ⟨o1, g3, g4⟩ := key j' o' hj'
    rw [g2.blk] at hb
    rw [g4.blk]
    exact D.apart j j' o0 o1 b hne g1 g3 hb
section
variable {P : Program} {F : List Nat} {b0 : Base0} {l : Nat} {k : List It} {s : St} {osb : List (Nat × OB)}
theorem run_round_end (ho : subO s.ow osb) : Run P F ⟨b0, some l, []⟩ (finR F b0 osb none) [] s := fun h e a w D => ⟨rfl, h, e, D.le, D.sub, D.keeps, D.neww, D.fix, D.ownP ho⟩
end

theorem yld_intro {P : Program} {h0 : Hp} {bl : List Nat} {R : List SD → List OB → SD → List (Nat × OB) → Prop} (r : LR) (slE : List (Nat × SD)) (n : Nat) (l : Nat) (hl : r.l = l) (hsz : r.tm.size = n) (hps : ∀ p ∈ r.ps.toList, p < n)
    (hsl : ∀ h e, Le h0 h → (∀ (i b : Nat), bl[i]? = some b → e.bs (1000 + i) = b) → ∀ t, rep h (lkp slE t) e (r.tm.getD t undef))
    (hrun : ∀ ds os d os', R ds os d os' → ∃ (osu osu' : List OB) (pe : Option Code) (sA : St), os = osu ++ [recO r .ready none] ∧ d = .bool pe.isNone ∧ os' = enumO 1000 (osu' ++ [recO r (if pe.isNone then .ready else .done) pe]) ∧ osu'.length = osu.length ∧
      bl.length = os.length ∧ ds.length = r.ps.size ∧
      (∀ F w0, Anch h0 bl w0 → Run P F ⟨w0, some l, []⟩ (fun _ _ _ => False) [.code r.as, .lp (hereI F ⟨w0, some l, []⟩ sA)] ⟨n, 0, putPs r.ps.toList ds slE, enumO 1000 os⟩) ∧
      lkO sA.ow (1000 + osu.length) = some (recO r .ready none) ∧
      (∀ F w0, Anch h0 bl w0 → Run P F ⟨w0, some l, []⟩ (finR F w0 (enumO 1000 (osu' ++ [recO r .busy none])) pe) [.code r.bd] { sA with ow := upd sA.ow (1000 + osu.length) (recO r .busy none) })) : YldMA P l h0 bl R := by
  refine ⟨fun ds os d os' hR h e w vs gh hl0 hbl hs hr ho hb' hap => ?_⟩
  subst hl
  obtain ⟨osu, osu', pe, sA, e1, e2, e3, e4, e5, e7, g1, g2, g3⟩ := hrun ds os d os' hR
  have hm : os[osu.length]? = some (recO r .ready none) := by rw [e1]; simp
  have hel : e.bs (1000 + osu.length) = r.l := (rawOk (ho _ _ hm)).2 _ rfl
  have hrec : w.heap[r.l]? = some (.loop (r.loop .ready none)) := by
    have := (rawOk (ho _ _ hm)).1
    rw [hel] at this
    exact this
  have hvl : vs.length = ds.length := by
    have : ∀ (ds : List SD) (vs : List Value), repT h ds e vs → vs.length = ds.length := by
      intro ds
      induction ds with
      | nil => intro vs hr; simp only [repT] at hr; simp [hr]
      | cons d r ih => intro vs hr; simp only [repT] at hr; obtain ⟨v, vs', rfl, _, h2⟩ := hr; simp [ih vs' h2]
    exact this ds vs hr
  have hy := run_yield (P := P) (args := vs.toArray) hrec (by simp [LR.loop, hvl, e7])
  refine ⟨_, _, _, _, hy, roundIn_of_wpIn trivial ?_⟩
  have han : Anch h0 bl ⟨w, h, fixO e os, gh⟩ := ⟨hl0, fun i b hib => by
    have hi := (List.getElem?_eq_some_iff.1 hib).1
    show (fixO e os)[i]? = some b
    rw [fixO_get (by omega), hbl i b hib]⟩
  have hk : ∀ k o, lkO (enumO 1000 os) k = some o → ∃ i, k = 1000 + i ∧ os[i]? = some o := fun k o hk => by
    rw [lkO_enumO] at hk
    split at hk
    · exact ⟨k - 1000, by omega, hk⟩
    · cases hk
  have hfold : (r.ps.zip vs.toArray).foldl (fun tmps (x : Nat × Value) => tmps.setIfInBounds x.1 x.2) r.tm = (r.ps.toList.zip vs).foldl (fun t (p : Nat × Value) => t.setIfInBounds p.1 p.2) r.tm := by
    rw [← Array.foldl_toList, Array.toList_zip]
  obtain ⟨p1, p2⟩ := putPs_ok r.ps.toList ds vs slE r.tm hr (fun p hp => by rw [hsz]; exact hps p hp) (hsl h e hl0 hbl)
  rw [← hfold] at p1 p2
  have D0 : Den (blksO e 1000 os) ⟨⟨w, h, fixO e os, gh⟩, some r.l, []⟩ ⟨n, 0, putPs r.ps.toList ds slE, enumO 1000 os⟩ h e { tmps := (r.ps.zip vs.toArray).foldl (fun tmps (x : Nat × Value) => tmps.setIfInBounds x.1 x.2) r.tm, defers := [] } w := by
    refine ⟨rfl, p1.trans hsz, p2, fun k o hko => ?_, fun k o b hko hbl => ?_, fun k k' o o' b hne hko hko' hbl => ?_, hs, Keeps.refl _ _, Le.refl h, fun _ _ => rfl, fun i b hib => ?_⟩
    · obtain ⟨i, rfl, hi⟩ := hk k o hko
      exact ho i o hi
    · obtain ⟨i, rfl, hi⟩ := hk k o hko
      have hm : b ∈ blksO e 1000 os := mem_blksO.2 ⟨i, o, hi, hbl⟩
      exact ⟨.inr ⟨hm, by omega⟩, hb' b hm⟩
    · obtain ⟨i, rfl, hi⟩ := hk k o hko
      obtain ⟨j, rfl, hj⟩ := hk k' o' hko'
      exact hap i j o o' b (fun hc => hne (by rw [hc])) hi hj hbl
    · change (fixO e os)[i]? = some b at hib
      have hi : i < os.length := by
        have := (List.getElem?_eq_some_iff.1 hib).1
        simpa [fixO] using this
      rw [fixO_get hi] at hib
      simpa using hib
  have hA := g1 _ _ han h e _ w D0
  refine wpIn_mono (show r.as.wpIn (Fence.wide.inRound r.l) 0 P (post P (some r.l) (fun _ _ _ => False) [.lp (hereI (blksO e 1000 os) ⟨⟨w, h, fixO e os, gh⟩, some r.l, []⟩ sA)]) _ w from hA) fun ex a1 w1 hq => ?_
  cases ex with
  | normal =>
    obtain ⟨h1, e1', D1⟩ := hq
    have hfix1 : e1'.bs (1000 + osu.length) = r.l := (rawOk (D1.own _ _ g2)).2 _ rfl
    have hrec1 := (rawOk (D1.own _ _ g2)).1
    rw [hfix1] at hrec1
    refine ⟨_, run_beginRound hrec1 rfl, ?_⟩
    have hset := D1.setMp (m' := ⟨none, 0, fun _ => false, fun _ => .any, some (.raw (.loop (r.loop .busy none)) (some r.l))⟩) (o' := .loop (r.loop .busy none)) g2 (by rw [hfix1]; exact hrec1) ⟨rfl, fun b hb => by cases hb; exact hfix1⟩
    rw [hfix1] at hset
    have hB := g3 _ _ han h1 e1' a1 _ hset
    refine wpIn_mono (show r.bd.wpIn (Fence.wide.inRound r.l) 0 P (post P (some r.l) _ []) a1 _ from hB) fun ex a3 w3 hq3 => ?_
    obtain ⟨hj, h3, e3', q1, q2, q3, q4, q5, q6⟩ := hq3
    have hlk : lkO (enumO 1000 (osu' ++ [recO r .busy none])) (1000 + osu.length) = some (recO r .busy none) := by
      rw [lkO_enumO, if_pos (by omega), Nat.add_sub_cancel_left, ← e4]; simp
    have hfix3 : e3'.bs (1000 + osu.length) = r.l := (rawOk (q6.own _ _ hlk)).2 _ rfl
    have hrec3 := (rawOk (q6.own _ _ hlk)).1
    rw [hfix3] at hrec3
    have hlast : ∀ (jump : Option Code), jump = pe → retPostM (blksO e 1000 os) ⟨w, h, fixO e os, gh⟩ d os' (.returned (.bool jump.isNone)) (w3.putObj r.l (.loop (r.loop (if jump.isNone then .ready else .done) jump))) := fun jump hjp => by
      subst hjp
      have hO := q6.setRaw (o' := .loop (r.loop (if jump.isNone then .ready else .done) jump)) (ow' := enumO 1000 (osu' ++ [recO r (if jump.isNone then .ready else .done) jump])) hlk (by
        rw [lkO_enumO, if_pos (by omega), Nat.add_sub_cancel_left, ← e4]; simp [recO]) (fun j hj => by
        rw [lkO_enumO, lkO_enumO]
        by_cases hj1 : 1000 ≤ j
        · rw [if_pos hj1, if_pos hj1]
          have hne : j - 1000 ≠ osu'.length := fun hc => hj (by omega)
          by_cases hlt : j - 1000 < osu'.length
          · rw [List.getElem?_append_left hlt, List.getElem?_append_left hlt]
          · rw [List.getElem?_eq_none (by simp; omega), List.getElem?_eq_none (by simp; omega)]
        · rw [if_neg hj1, if_neg hj1])
      rw [hfix3] at hO
      have hnone := (q6.ownb _ _ r.l hlk (by show some (e3'.bs _) = _; rw [hfix3])).2
      have hmem : r.l ∈ blksO e 1000 os := mem_blksO.2 ⟨osu.length, _, hm, by show some (e.bs _) = _; rw [hel]⟩
      refine ⟨_, h3, e3', rfl, q1, fun b o hb => ?_, ⟨q3.os, q3.tape, q3.output, by simpa [World.putObj] using q3.size, fun b hb hF => ?_⟩, q4, q5, ?_, by rw [e3]; exact hO⟩
      · rw [World.putObj_heap_other (fun hc => by rw [hc, hnone] at hb; cases hb)]
        exact q2 b o hb
      · rw [World.putObj_heap_other (fun hc => hF (by rw [hc]; exact hmem))]
        exact q3.block b hb hF
      · rw [e2]; simp [rep]
    cases ex with
    | normal =>
      simp only [jumpOf, Option.some.injEq] at hj
      exact ⟨_, _, run_endRound none hrec3, hlast none hj⟩
    | ret =>
      simp only [jumpOf, Option.some.injEq] at hj
      exact ⟨_, _, run_endRound (some .ret) hrec3, hlast _ hj⟩
    | exit id =>
      simp only [jumpOf, Option.some.injEq] at hj
      exact ⟨_, _, run_endRound (some (.exit id)) hrec3, hlast _ hj⟩
    | _ => simp [jumpOf] at hj
  | _ => exact hq
end Go.Sx

/-! SxRh: a range over a function. -/
namespace Go.Sx
open Go.RowKit
open Go.ChangeMaps (setBlock)

/-- The slots at the loop, as its rounds see them. -/
def entS (s : St) (ks : List Nat) : List (Nat × SD) := renS (tau ks) (prgS (fun k => memb k ks) (fun _ => false) s.sl)

/-- What a call with own objects leaves, where its result is not kept. -/
def aftD (s : St) (ks : List Nat) (os : List OB) (os' : List (Nat × OB)) : Option St :=
  bif nodupB ks && Nat.ble (s.nx + bndO os') 1000 && allB (fun k => !isNew s.nx (bndO os') k) ks && (allB (fun k => Nat.blt k 1000) ks || allB (fun k => Nat.ble 1000 k) (accBack s os' 1000 ks)) &&
    okOs ks (bndO os') (accBack s os' 1000 ks) os' && kindB os' 1000 os && mapsOk (pbN s.nx (bndO os')) (phN s.nx (bndO os') (accBack s os' 1000 ks)) s.ow then
    some ⟨s.n, s.nx + bndO os', prgS (pbN s.nx (bndO os')) (phN s.nx (bndO os') (accBack s os' 1000 ks)) s.sl,
      renOs (sgm ks s.nx) os' ++ prgO (pbN s.nx (bndO os')) (phN s.nx (bndO os') (accBack s os' 1000 ks)) ks s.nx (bndO os') s.ow⟩
  else none

section
variable {P : Program} {F : List Nat} {w0 : Base} {s : St} {h : Hp} {e : Nm} {a : Act} {w : World}

theorem Den.aft (D : Den F w0 s h e a w) {ks : List Nat} {os : List OB} {os' : List (Nat × OB)} {s' : St} (ho : osOf s ks ks = some os) (hs : aftD s ks os os' = some s')
    {en : Ending} {w' : World} (hp : retPostM (blksO (e.inn ks) 1000 os) ⟨w, h, fixO (e.inn ks) os, D.gh⟩ (.tup []) os' en w') : ∃ v h' e'', en = .returned v ∧ Den F w0 s' h' e'' a w' := by
  unfold aftD at hs
  generalize hA : accBack s os' 1000 ks = A at hs
  generalize hB : bndO os' = B at hs
  generalize hcb : (nodupB ks && Nat.ble (s.nx + B) 1000 && allB (fun k => !isNew s.nx B k) ks && (allB (fun k => Nat.blt k 1000) ks || allB (fun k => Nat.ble 1000 k) A) &&
    okOs ks B A os' && kindB os' 1000 os && mapsOk (pbN s.nx B) (phN s.nx B A) s.ow) = cb at hs
  cases cb
  · cases hs
  simp only [cond_true, Option.some.injEq] at hs
  simp only [Bool.and_eq_true] at hcb
  obtain ⟨⟨⟨⟨⟨⟨c2, c3⟩, c4⟩, c5⟩, c7⟩, c8⟩, c9⟩ := hcb
  subst hs
  refine D.backM (s' := ⟨s.n, s.nx + B, prgS (pbN s.nx B) (phN s.nx B A) s.sl, renOs (sgm ks s.nx) os' ++ prgO (pbN s.nx B) (phN s.nx B A) ks s.nx B s.ow⟩) (ks := ks) (m := s.nx) (B := B) (A := A) (os := os) (d := .tup []) (os' := os') ⟨nodupB_ok c2, Nat.le_of_ble_eq_true c3, fun k hk => by have := allB_ok c4 k hk; simpa only [Bool.not_eq_true'] using this, (osOf_ok ho).1, (osOf_ok ho).2, ?_, rfl, c7, fun i o o' => kindB_ok c8 i o o'⟩
    (dst := none) (fun t' h => by cases h) rfl (fun i _ => ?_) (fun t' h => by cases h) (fun k o hk => ?_) (fun k hk => accBack_mem (by rw [hA]; exact hk)) hp
  · simp only [Bool.or_eq_true] at c5
    rcases c5 with c5 | c5
    · exact .inl fun k hk => blt_lt (allB_ok c5 k hk)
    · exact .inr fun k hk => Nat.le_of_ble_eq_true (allB_ok c5 k hk)
  · simp only [lkp_prgS]
    cases hx : allN (pbN s.nx B) (phN s.nx B A) (lkp s.sl i)
    · exact .inl rfl
    · exact .inr ⟨rfl, rfl⟩
  · simp only [lkO_append] at hk
    split at hk
    · rename_i o1 h1
      simp only [Option.some.injEq] at hk
      subst hk
      exact .inl (lkO_renOs h1)
    · exact .inr (lkO_prgO c9 hk)

theorem entS_ok (D : Den F w0 s h e a w) {ks : List Nat} {h' : Hp} {e' : Nm} (hl : Le h h') (he : ∀ i, i < ks.length → e'.bs (1000 + i) = e.bs (getN ks i)) (t : Nat) : rep h' (lkp (entS s ks) t) e' (a.tmps.getD t undef) := by
  unfold entS
  rw [lkp_renS, rep_ren, lkp_prgS]
  cases hx : allN (fun k => memb k ks) (fun _ => false) (lkp s.sl t)
  · simp [rep]
  · simp only [cond_true]
    refine rep_agr (pb := fun k => memb k ks) (ph := fun _ => false) ⟨fun k hk => ?_, fun k hk => by cases hk⟩ _ _ hx (rep_mono hl _ e _ (D.slot t))
    obtain ⟨q1, q2, q3⟩ := get_idx ks k 1000 (memb_iff.1 hk)
    have := he (idxN ks k 1000 - 1000) (by omega)
    rw [q3, show 1000 + (idxN ks k 1000 - 1000) = idxN ks k 1000 by omega] at this
    exact this

theorem Den.drop (D : Den F w0 s h e a w) (k : Nat) : Den F w0 ⟨s.n, s.nx, s.sl, del s.ow k⟩ h e a w := by
  have key : ∀ j o, lkO (del s.ow k) j = some o → lkO s.ow j = some o := fun j o hj => by
    rw [lkO_del] at hj
    by_cases hjk : j = k
    · simp [hjk] at hj
    · simpa only [hjk, if_false] using hj
  exact ⟨D.defers, D.size, D.slot, fun j o hj => D.own j o (key j o hj), fun j o b hj hb => D.ownb j o b (key j o hj) hb, fun j j' o o' b hne hj hj' hb => D.apart j j' o o' b hne (key j o hj) (key j' o' hj') hb, D.sub, D.keeps, D.le, D.neww, D.fix⟩

theorem Den.base (D : Den F w0 s h e a w) (mark : List Deferred) (rd : Option Nat) : Den F ⟨w0.b0, rd, mark ++ w0.ds⟩ s h e { a with defers := mark ++ a.defers } w :=
  ⟨by show mark ++ a.defers = mark ++ w0.ds; rw [D.defers], D.size, D.slot, D.own, D.ownb, D.apart, D.sub, D.keeps, D.le, D.neww, D.fix⟩

/-- The state in a loop's rounds: with the block for what is deferred, and the loop's record. -/
def rfS (s : St) (r : LR) (K : Nat) : St := ⟨s.n, s.nx + 2, s.sl, upd (upd s.ow s.nx (rawOB (.deferred (some [])) (some K))) (s.nx + 1) (recO r .ready none)⟩
def contK : Option Code → List It → List It
  | none, k => k
  | some c, k => .code c :: k
def stE (pe : Option Code) : LoopState := if pe.isNone then .ready else .done

theorem del_upd {α : Type} : ∀ (l : List (Nat × α)) (k : Nat) (x : α), del (upd l k x) k = del l k
  | [], k, x => by simp [upd, del]
  | (j, d) :: r, k, x => by
    simp only [upd]
    cases hb : Nat.beq j k
    · simp only [cond_false, del, hb, del_upd r k x]
    · simp only [cond_true, del, Nat.beq_refl, hb]
theorem getN_append : ∀ (ks l : List Nat) (i : Nat), i < ks.length → getN (ks ++ l) i = getN ks i
  | [], _, i, h => absurd h (Nat.not_lt_zero i)
  | k :: r, l, 0, _ => rfl
  | k :: r, l, i + 1, h => by simp only [List.cons_append, getN]; exact getN_append r l i (by simpa using h)

end
end Go.Sx

/-! SxRi: functions that hold a range over a function: contracts, returns. -/
namespace Go.Sx
open Go.RowKit
open Go.ChangeMaps (setBlock)

/-- What a body with ranges over functions must end in. -/
def finX (P : Program) (fn : Func) (R : Ending → World → Prop) : Exit → Act → World → Prop := bodyPostM Fence.wide 0 P fn R

section
variable {P : Program} {b0 : Base0} {s : St}

theorem run_results {F : List Nat} {w0 : Base} {h : Hp} {e : Nm} {a : Act} {w : World} (D : Den F w0 s h e a w) {fn : Func} {l : List ResultVar} {ds : List SD} (hr : fn.results = l.toArray) (hq : resL P s l = some ds) : ∃ v, (results fn a.tmps).run P w = .ok v w ∧ rep h (retD ds) e v := by
  obtain ⟨vs, g1, g2⟩ := run_res (P := P) D hq
  refine ⟨if hz : vs.toArray.size = 1 then vs.toArray[0] else .tuple vs.toArray, ?_, ?_⟩
  · rw [results_resF, hr]
    simp only [List.mapM_toArray, Sem.run_bind]
    rw [map_eq_pure_bind]
    simp only [Sem.run_bind, g2, Result.andThen_ok, Sem.run_pure]
  · match ds, vs, g1 with
    | [], vs, g1 =>
      simp only [repT] at g1
      subst g1
      simp [retD, rep, repT]
    | [d1], vs, g1 =>
      simp only [repT] at g1
      obtain ⟨v, vs', rfl, g3, rfl⟩ := g1
      simpa [retD] using g3
    | d1 :: d2 :: r, vs, g1 =>
      have : vs.toArray.size ≠ 1 := by
        simp only [repT] at g1
        obtain ⟨v, vs', rfl, _, v2, vs2, rfl, _⟩ := g1
        simp
      rw [dif_neg this]
      simp only [retD, rep]
      exact ⟨vs, rfl, g1⟩

end
end Go.Sx

/-! SxRj: lists that grow. -/
namespace Go.Sx
/-- A list gets one more at its end. -/
theorem OLe.snoc {α : Type} [Inhabited α] (enc : α → SD) (t : List α) (a : α) {T es : Nat} {d : SD} (h : SLe d (enc a)) :
    OLe (.acc T es (t.length + 1) (joinF t.length (fun i => enc (t.getD i default)) (nthSD [d]))) (.acc T es (t ++ [a]).length fun i => enc ((t ++ [a]).getD i default)) := by
  refine ⟨rfl, rfl, by simp, fun i hi hp u hu e => ?_⟩
  have hu' := hu e
  show rep hp (enc ((t ++ [a]).getD i default)) e u
  simp only [joinF] at hu'
  by_cases hlt : i < t.length
  · rw [if_pos hlt] at hu'
    rwa [List.getD_eq_getElem?_getD, List.getElem?_append_left hlt, ← List.getD_eq_getElem?_getD]
  · have : i = t.length := by omega
    subst this
    rw [if_neg hlt, Nat.sub_self] at hu'
    have e1 : (t ++ [a]).getD t.length default = a := by simp [List.getD_eq_getElem?_getD]
    rw [e1]
    exact h _ _ _ hu'
theorem OLe.snocF {α : Type} [Inhabited α] (enc : α → SD) (t : List α) (a : α) {T es : Nat} {g : Nat → SD} (h : SLe (g 0) (enc a)) :
    OLe (.acc T es (t.length + 1) (joinF t.length (fun i => enc (t.getD i default)) g)) (.acc T es (t ++ [a]).length fun i => enc ((t ++ [a]).getD i default)) := by
  refine ⟨rfl, rfl, by simp, fun i hi hp u hu e => ?_⟩
  have hu' := hu e
  show rep hp (enc ((t ++ [a]).getD i default)) e u
  simp only [joinF] at hu'
  by_cases hlt : i < t.length
  · rw [if_pos hlt] at hu'
    rwa [List.getD_eq_getElem?_getD, List.getElem?_append_left hlt, ← List.getD_eq_getElem?_getD]
  · have : i = t.length := by omega
    subst this
    rw [if_neg hlt, Nat.sub_self] at hu'
    have e1 : (t ++ [a]).getD t.length default = a := by simp [List.getD_eq_getElem?_getD]
    rw [e1]
    exact h _ _ _ hu'
theorem OLe.snoc2 (t : List ByteArray) (a : ByteArray) {T es : Nat} : OLe (.acc T es (t.length + 1) (joinF t.length (fun i => .str (t.getD i default)) (fun i => .str ([a].getD i ByteArray.empty)))) (.acc T es (t ++ [a]).length fun i => .str ((t ++ [a]).getD i default)) :=
  OLe.snocF (fun x : ByteArray => SD.str x) t a (SLe.refl _)
end Go.Sx

/-! SxCp: parts of own slices; a copy within one. -/
namespace Go.Sx
open Go.RowKit

def slA (P : Program) (s : St) (T : Nat) (x lo : SD) : Option (List Prop × SD) :=
  match x, lo with
  | .acc k, .int _ l => match lkO s.ow k with
    | some (.acc _ es n _) => match elT P T with
      | some te => bif Nat.beq (kdT P T) 1 && Nat.beq (szT P te) es && Nat.ble 1 es then some ([0 ≤ l, l ≤ (n : Int), 0 < n], .accp k es l.toNat) else none
      | none => none
    | _ => none
  | _, _ => none
section
variable {P : Program} {F : List Nat} {w0 : Base} {s : St} {h : Hp} {e : Nm} {a : Act} {w : World}

theorem wp_slA (D : Den F w0 s h e a w) {t T : Nat} (ht : t < s.n) {x y : Operand} {ty : Nat} {pos : String} {af : Array Edge} {g : Option (Nat × Bool)} {p : List Prop} {d : SD}
    (hq : slA P s T (ev s x) (ev s y) = some (p, d)) (hp : allP p) (K : Act → World → Prop) (Q : Exit → Act → World → Prop) (hK : ∀ h' e' a' w', Den F w0 (s.put t d) h' e' a' w' → K a' w') :
    (⟨some t, .slice T x (some y) none none, ty, pos, af, g⟩ : Oper).wp P a w K Q := by
  unfold slA at hq
  split at hq
  · rename_i k kk l hx hy
    split at hq
    · rename_i te es n f ho
      split at hq
      · rename_i te' hte
        cases hb : (Nat.beq (kdT P T) 1 && Nat.beq (szT P te') es && Nat.ble 1 es)
        · rw [hb] at hq; cases hq
        · rw [hb] at hq
          simp only [cond_true, Option.some.injEq, Prod.mk.injEq] at hq
          obtain ⟨rfl, rfl⟩ := hq
          simp only [Bool.and_eq_true] at hb
          obtain ⟨⟨b1, b2⟩, b3⟩ := hb
          have b2 := Nat.eq_of_beq_eq_true b2
          have b3 := Nat.le_of_ble_eq_true b3
          obtain ⟨te2, hu⟩ := und1 b1
          have := elT_slice hu hte
          subst this
          obtain ⟨m0, hm0⟩ : ∃ m, szT P te' = m + 1 := ⟨szT P te' - 1, by omega⟩
          obtain ⟨i, hi, hs⟩ := info_of_szT hm0
          have hes : es = i.size := by omega
          simp only [allP] at hp
          obtain ⟨p1, p2, p3, _⟩ := hp
          have hxv := D.ev x
          rw [hx] at hxv
          have hyv := D.ev y
          rw [hy] at hyv
          simp only [rep] at hxv hyv
          obtain ⟨xs, o1, _, _⟩ := D.own k _ ho
          rcases o1.2 with ⟨_, hv⟩ | ⟨b, c, cur, hv, _, hg, hnc, hcm, hcs, htake⟩
          · omega
          · have hln : l.toNat ≤ n := by omega
            have hbd : (Instr.sliceBounds true n c (some (.int kk l)) none none).run P w = .ok (l.toNat, n, c) w := by
              have : 0 ≤ l ∧ l ≤ (n : Int) := ⟨p1, p2⟩
              simp [Instr.sliceBounds, Instr.sliceBound, asIntOf, this]
            have hr : (execOp a.eval ⟨some t, .slice T x (some y) none none, ty, pos, af, g⟩).run P w = .ok (.value (.slice (some (if c = l.toNat then ⟨b, 0, none⟩ else ⟨b, l.toNat * es, none⟩)) (n - l.toNat) (c - l.toNat))) w := by
              have e1 : (if c = l.toNat then some (⟨b, 0, none⟩ : Addr) else Option.map (fun x : Addr => x.add (l.toNat * i.size)) (some ⟨b, 0, none⟩)) = some (if c = l.toNat then ⟨b, 0, none⟩ else ⟨b, l.toNat * es, none⟩) := by
                by_cases hc : c = l.toNat
                · simp [hc]
                · simp [hc, Addr.add_mid, hes]
              have e2 : (Instr.sliceAt T (.slice (some ⟨b, 0, none⟩) n c) (some (.int kk l)) none none).run P w = .ok (.slice (some (if c = l.toNat then ⟨b, 0, none⟩ else ⟨b, l.toNat * es, none⟩)) (n - l.toNat) (c - l.toNat)) w := by
                simp [Instr.sliceAt, Instr.slice, run_underlying hu, hbd, sizeOf, typeInfo, hi]
                simpa using e1
              have hxe : a.eval x = .slice (some ⟨b, 0, none⟩) n c := hxv.1.trans hv
              simp [execOp, hxe, hyv, e2]
            unfold Oper.wp
            rw [hr]
            refine hK h e _ _ (D.put ht ?_)
            simp only [rep]
            exact ⟨b, n, c, hv, hln, hnc, rfl⟩
      · cases hq
    · cases hq
  · cases hq

variable {Q : Exit → Act → World → Prop} {l : List Oper} {s0 : St} {rs : List Rec} {id : Nat} {rest : List Oper}

def recSl (s : St) (t : Nat) (x y : Operand) (d : SD) (u : List (Nat × Option OB)) : Rec :=
  ⟨readS s (tmpsOf [x, y]), keysA s [x, y] s.ow, some t, d, u, []⟩
def slS (s : St) (t : Nat) (d : SD) : Option St := bif Nat.blt t s.n then some (s.put t d) else none
def cpS (s : St) (t : Nat) (d : SD) (k : Nat) (ob : OB) : Option St := bif Nat.blt t s.n then some ⟨s.n, s.nx, upd s.sl t d, upd s.ow k ob⟩ else none

theorem slA_agree {σ : St} {T : Nat} {x y : SD} {r : List Prop × SD} (hm : OwM s σ x) (hq : slA P s T x y = some r) : slA P σ T x y = some r := by
  unfold slA at hq ⊢
  split at hq
  · rename_i k kk l
    cases ho : lkO s.ow k with
    | none => rw [ho] at hq; cases hq
    | some o => rw [hm k o (by simp [men]) ho]; rw [ho] at hq; exact hq
  · cases hq
theorem runDsl {t T : Nat} {x y : Operand} {ty : Nat} {pos : String} {af : Array Edge} {p : List Prop} {d : SD} {s' : St} (hq : slA P s T (ev s x) (ev s y) = some (p, d)) (hp : allP p) (hs : slS s t d = some s')
    (hn : RunD P F w0 Q id l s0 (rs ++ [recSl s t x y d []]) rest s') : RunD P F w0 Q id l s0 rs (⟨some t, .slice T x (some y) none none, ty, pos, af, none⟩ :: rest) s := fun K => by
  unfold slS at hs
  cases hb : Nat.blt t s.n
  · rw [hb] at hs; cases hs
  rw [hb] at hs
  simp only [cond_true, Option.some.injEq] at hs
  subst hs
  have g1 : ∀ p ∈ (recSl s t x y d []).slots, lkp s.sl p.1 = p.2 := readS_ok
  have g2 : ∀ p ∈ (recSl s t x y d []).keys, lkO s.ow p.1 = some p.2 := keysA_ok
  refine hn (K.snoc g1 g2 (fun σ hn h1 h2 h3 h e a w D K Q hK => ?_) ⟨rfl, fun _ => rfl, fun _ => rfl⟩)
  rw [if_pos (by simp [Region.wanted])]
  have hev := ev_agree (s := s) (s' := σ) (l := [x, y]) h1
  have e1 := hev x (by simp)
  have e2 := hev y (by simp)
  have hm : OwM s σ (ev s x) := fun k o hm ho => h2 (k, o) (keysA_mem (by simp [menA, hm]) ho)
  refine wp_slA D (by rw [hn]; exact blt_lt hb) (by rw [e1, e2]; exact slA_agree hm hq) hp K Q fun h' e' a' w' D' => hK h' e' a' w' D'

end

section
variable {P : Program} {F : List Nat} {w0 : Base} {s : St} {k : List It}
theorem repC_set {h : Hp} {e : Nm} {d0 d : SD} : ∀ {l : List SD} {vs : List Value} {i : Nat}, repC h l e vs → l[i]? = some d0 → (∀ v, rep h d0 e v → rep h d e v) → repC h (l.set i d) e vs
  | [], _, _, _, hi, _ => by simp at hi
  | x :: r, vs, i, hx, hi, hd => by
    simp only [repC] at hx
    obtain ⟨v, vs', rfl, h1, h2, h3⟩ := hx
    cases i with
    | zero =>
      simp only [List.getElem?_cons_zero, Option.some.injEq] at hi
      subst hi
      simp only [List.set, repC]
      exact ⟨v, vs', rfl, h1, hd v h2, h3⟩
    | succ i =>
      simp only [List.set, repC]
      exact ⟨v, vs', rfl, h1, h2, repC_set h3 (by simpa using hi) hd⟩
/-- A nil slice in an own variable becomes one's own, of length 0. -/
theorem run_nilaccV (j i T es : Nat) (f : Nat → SD) {fin : Exit → Act → World → Prop} {l l' : List SD} (ho : lkO s.ow j = some (.var l)) (hi : l[i]? = some .nils) (hl' : l.set i (.acc s.nx) = l') (hf : s.free s.nx = true)
    (hn : Run P F w0 fin k ⟨s.n, s.nx + 1, s.sl, upd (upd s.ow j (.var l')) s.nx (.acc T es 0 f)⟩) : Run P F w0 fin k s := fun h e a w D => by
  subst hl'
  have hF := Free.of hf
  have D1 := D.rename (e.but_setH s.nx (.slice none 0 0)) hF
  have D0 := D1.setOwn (o' := .var (l.set i (.acc s.nx))) (w' := w) ho rfl ?_ (fun _ _ => rfl) rfl rfl rfl rfl
  · have hne : s.nx ≠ j := fun hc => by rw [← hc, free_lkO hF] at ho; cases ho
    have hnone : lkO (upd s.ow j (.var (l.set i (.acc s.nx)))) s.nx = none := by rw [lkO_upd]; simp only [hne, if_false]; exact free_lkO hF
    have D2 := D0.addOwn (k := s.nx) (o := .acc T es 0 f) hnone ⟨[], by simp only [Nm.setH, if_true]; exact ⟨by simp, .inl ⟨rfl, rfl⟩⟩, Nat.zero_le _, fun i hi => absurd hi (Nat.not_lt_zero i)⟩ (fun b hb => ?_) (fun j o' b hj hb hc => ?_) (s.nx + 1)
    · exact hn h _ a w (D2.congr rfl (fun _ => rfl) fun _ => rfl)
    · simp only [OB.blk, Nm.setH, if_true, Value.ownBlock] at hb; cases hb
    · simp only [OB.blk, Nm.setH, if_true, Value.ownBlock] at hc; cases hc
  · obtain ⟨cs, T', g1, g2⟩ := D1.own j _ ho
    refine ⟨cs, T', g1, repC_set g2 hi fun v hv => ?_⟩
    simp only [rep] at hv ⊢
    subst hv
    simp only [Nm.setH, if_true]
    exact ⟨trivial, _, _, _, rfl⟩
end

end Go.Sx

/-! SxBs: empty slices written out, in regions that draw their order. -/
namespace Go.Sx
open Go.RowKit
section
variable {P : Program} {F : List Nat} {w0 : Base} {s : St} {h : Hp} {e : Nm} {a : Act} {w : World}
variable {Q : Exit → Act → World → Prop} {l : List Oper} {s0 : St} {rs : List Rec} {id : Nat} {rest : List Oper}
end
theorem run_accLe {P : Program} {F : List Nat} {w0 : Base} {s : St} {kk : List It} (k : Nat) {o o' : OB} {fin : Exit → Act → World → Prop} (ho : lkO s.ow k = some o) (hl : OLe o o') (hn : Run P F w0 fin kk ⟨s.n, s.nx, s.sl, upd s.ow k o'⟩) : Run P F w0 fin kk s := fun h e a w D =>
  hn h e a w (by
    have h2 : ∀ j x, lkO (upd s.ow k o') j = some x → ∃ o0, lkO s.ow j = some o0 ∧ OLe o0 x := fun j x hj => by
      simp only [lkO_upd] at hj
      by_cases hjk : j = k
      · subst hjk; simp only [if_true, Option.some.injEq] at hj; subst hj; exact ⟨o, ho, hl⟩
      · simp only [hjk, if_false] at hj; exact ⟨x, hj, OLe.refl _⟩
    refine ⟨D.defers, D.size, D.slot, fun j o hj => ?_, fun j o b hj hb => ?_, fun j j' o o' b hne hj hj' hb => ?_, D.sub, D.keeps, D.le, D.neww, D.fix⟩
    · obtain ⟨o0, g1, g2⟩ := h2 j o hj
      exact g2.ok (D.own j o0 g1)
    · obtain ⟨o0, g1, g2⟩ := h2 j o hj
      rw [g2.blk] at hb
      exact D.ownb j o0 b g1 hb
    · obtain ⟨o0, g1, g2⟩ := h2 j o hj
      obtain ⟨o1, g3, g4⟩ := h2 j' _ hj'
      rw [g2.blk] at hb
      rw [g4.blk]
      exact D.apart j j' o0 o1 b hne g1 g3 hb)
end Go.Sx

/-! SxAs: stores into elements of own slices, in regions that draw their order. -/
namespace Go.Sx
open Go.RowKit
section
variable {P : Program} {F : List Nat} {w0 : Base} {s : St}
variable {Q : Exit → Act → World → Prop} {l : List Oper} {s0 : St} {rs : List Rec} {id : Nat} {rest : List Oper}
end
end Go.Sx

/-! SxKb: strings made bytes, bytes made strings. -/
namespace Go.Sx
open Go.RowKit

/-- The bytes of a list, as what is known of a slice's elements. -/
def byF (l : List UInt8) : Nat → SD := fun i => .int .u8 ((l.getD i 0).toNat : Int)

section
variable {P : Program} {F : List Nat} {w0 : Base} {s : St} {ops : Array Oper} {Q : Exit → Act → World → Prop} {rest : List Oper}

/-- '[]byte(s)'. -/
theorem stepcvB {t S T te : Nat} {x : Operand} {b : ByteArray} {ty : Nat} {pos : String} {af : Array Edge} {s' : St} (hx : unG s x = .str b) (hg : allP (gCs s [x] [])) (hS : Nat.beq (kdT P S) 2 = true) (hT : P.underlying T = some (.slice te)) (he : P.underlying te = some (.int .u8))
    (hsz : b.size ≤ maxN) (hs : cstep s t (.list 1 b.size (byF b.data.toList)) = some s') (hn : RunL P F w0 ops Q rest s') : RunL P F w0 ops Q (⟨some t, .convert S T x, ty, pos, af, none⟩ :: rest) s := fun h e a w D => by
  obtain ⟨ht, rfl⟩ := cstep_ok hs
  have hv : rep h (unG s x) e (a.eval x) := D.unG hg (List.mem_singleton_self x)
  rw [hx] at hv
  simp only [rep] at hv
  have hu := und2 hS
  refine wpS_plain rfl fun K hK => ?_
  unfold Oper.wp
  have hrun := run_bytes_of_string (P := P) w S T te b hu hT he
  have hex : (execOp a.eval ⟨some t, .convert S T x, ty, pos, af, none⟩).run P w = .ok (.value (.slice (some ⟨w.heap.size, 0, none⟩) b.size (grownCap w b.size 0 te))) (w.drew.alloc (.cells (bytesRow b (grownCap w b.size 0 te)) te ((bytesRow b (grownCap w b.size 0 te)).size, (bytesRow b (grownCap w b.size 0 te)).size + 1))) := by
    simp only [execOp, hv, Sem.run_bind, hrun, Result.andThen_ok]
    rfl
  rw [hex]
  have D1 := D.drew
  obtain ⟨D2, hl⟩ := D1.stay (.cells (bytesRow b (grownCap w b.size 0 te)) te ((bytesRow b (grownCap w b.size 0 te)).size, (bytesRow b (grownCap w b.size 0 te)).size + 1))
  refine hK _ _ (hn _ _ _ _ (D2.put ht ?_))
  have hcap : b.size ≤ grownCap w b.size 0 te := grownCap_ge w _ _ _
  have hcapM : grownCap w b.size 0 te ≤ maxLen := grownCap_le_maxLen w _ _ _ (Nat.le_trans hsz (by simp [maxN, maxLen]))
  simp only [rep]
  refine ⟨_, _, rfl, hcap, ⟨hcapM, maxNL hsz⟩, fun _ => ⟨⟨w.heap.size, 0, none⟩, bytesRow b (grownCap w b.size 0 te), te, ((bytesRow b (grownCap w b.size 0 te)).size, (bytesRow b (grownCap w b.size 0 te)).size + 1), rfl, rfl, (by show (if w.drew.heap.size = w.drew.heap.size then _ else _) = _; rw [if_pos rfl]), fun j hj => ?_⟩⟩
  have hjl : j < b.data.toList.length := by simpa using hj
  refine ⟨.int .u8 ((b.data.toList.getD j 0).toNat : Int), fun e' => by simp only [byF, rep], ?_, rfl, fun c hc => by simp [Value.cells] at hc; subst hc; rfl⟩
  simp only [Nat.zero_add, Nat.mul_one, cut, bytesRow, Array.toList_append, Array.toList_map]
  rw [List.drop_append_of_le_length (by simp; omega), List.take_append_of_le_length (by simp; omega)]
  rw [← List.map_drop, ← List.map_take, List.drop_eq_getElem_cons hjl]
  have hja : j < b.data.size := by simpa using hjl
  simp [Value.cells, List.getD_eq_getElem?_getD, Array.getElem?_eq_getElem hja]

theorem cut_one {xs : List Value} {i : Nat} {v : Value} (h : v.cells.toList = cut xs (i * 1) 1) (hv : v.cells = #[v]) : xs[i]? = some v := by
  rw [hv, Nat.mul_one, cut] at h
  have := congrArg (·[0]?) h
  simpa using this.symm
theorem add_plain {b o : Nat} (j : Nat) : (⟨b, o, none⟩ : Addr).add j = ⟨b, o + j, none⟩ := by unfold Addr.add; split <;> simp_all

/-- 'string(b)' of a value of which the cells are known. -/
theorem conv_back {w : World} {S T te : Nat} {ao : Option Addr} {cap : Nat} {l : List UInt8} (hS : P.underlying S = some (.slice te)) (he : P.underlying te = some (.int .u8)) (hT : P.underlying T = some .string)
    (hc : 0 < l.length → ∃ b o, ao = some ⟨b, o, none⟩ ∧ ∀ j, j < l.length → w.cell? ⟨b, o + j, none⟩ = some (.int .u8 ((l.getD j 0).toNat : Int))) : (convert S T (.slice ao l.length cap)).run P w = .ok (.string ⟨l.toArray⟩) w := by
  cases l with
  | nil =>
    cases ao with
    | none => exact run_convert_bytes_nil w S te hS he 0 cap T hT
    | some a => exact run_convert_bytes_back w S T te a cap [] hS he hT (fun j hj => absurd hj (by simp))
  | cons x r =>
    obtain ⟨b, o, rfl, h1⟩ := hc (by simp)
    refine run_convert_bytes_back w S T te _ cap (x :: r) hS he hT (fun j hj => ?_)
    rw [add_plain, h1 j hj]
    simp [List.getD_eq_getElem?_getD, List.getElem?_eq_getElem hj]

/-- 'string(b)' of an own slice. -/
theorem stepcvA {t S T te k : Nat} {T' n : Nat} {f : Nat → SD} {x : Operand} {ty : Nat} {pos : String} {af : Array Edge} {s' : St} (l : List UInt8) (hx : ev s x = .acc k) (ho : lkO s.ow k = some (.acc T' 1 n f)) (hl : n = l.length) (hf : ∀ i, i < n → f i = byF l i)
    (hS : P.underlying S = some (.slice te)) (he : P.underlying te = some (.int .u8)) (hT : P.underlying T = some .string)
    (hs : cstep s t (.str ⟨l.toArray⟩) = some s') (hn : RunL P F w0 ops Q rest s') : RunL P F w0 ops Q (⟨some t, .convert S T x, ty, pos, af, none⟩ :: rest) s := fun h e a w D => by
  obtain ⟨ht, rfl⟩ := cstep_ok hs
  subst hl
  have hv := D.ev x
  rw [hx] at hv
  simp only [rep] at hv
  obtain ⟨hv1, ao, n', c, hv2⟩ := hv
  obtain ⟨xs, h1, h2, h3⟩ := D.own k _ ho
  rw [← hv1] at h1
  have hcell : ∃ cap, a.eval x = .slice ao l.length cap ∧ (0 < l.length → ∃ b o, ao = some ⟨b, o, none⟩ ∧ ∀ j, j < l.length → w.cell? ⟨b, o + j, none⟩ = some (.int .u8 ((l.getD j 0).toNat : Int))) := by
    obtain ⟨hlen, hcase⟩ := h1
    rcases hcase with ⟨g1, g2⟩ | ⟨g, cap, cur, g1, _, g2, g3, g4, g5, g6⟩
    · rw [g1] at hv2
      simp only [Value.slice.injEq] at hv2
      obtain ⟨rfl, rfl, rfl⟩ := hv2
      exact ⟨0, by rw [g1, g2], fun h => absurd h (by omega)⟩
    · rw [g1] at hv2
      simp only [Value.slice.injEq] at hv2
      obtain ⟨rfl, rfl, rfl⟩ := hv2
      refine ⟨cap, g1, fun _ => ⟨g, 0, rfl, fun j hj => ?_⟩⟩
      obtain ⟨u, u1, u2, u3, _⟩ := h3 j hj
      have hu := u1 e
      rw [hf j hj] at hu
      simp only [byF, rep] at hu
      subst hu
      have := cut_one u2 rfl
      rw [Nat.zero_add]
      unfold World.cell?
      simp only [g2]
      rw [← g6, List.getElem?_take] at this
      split at this
      · simpa using this
      · cases this
  obtain ⟨cap, h4, h5⟩ := hcell
  have hrun := conv_back (P := P) (w := w) (S := S) (T := T) (cap := cap) hS he hT h5
  refine wpS_plain rfl fun K hK => ?_
  unfold Oper.wp
  have hex : (execOp a.eval ⟨some t, .convert S T x, ty, pos, af, none⟩).run P w = .ok (.value (.string ⟨l.toArray⟩)) w := by
    simp only [execOp, h4, Sem.run_bind, hrun, Result.andThen_ok]
    rfl
  rw [hex]
  exact hK _ _ (hn _ _ _ _ (D.put ht (by simp only [rep])))

/-- 'string(b)' of a slice that stays. -/
theorem stepcvL {t S T te : Nat} {n : Nat} {f : Nat → SD} {x : Operand} {ty : Nat} {pos : String} {af : Array Edge} {s' : St} (l : List UInt8) (hx : unG s x = .list 1 n f) (hg : allP (gCs s [x] [])) (hl : n = l.length) (hf : ∀ i, i < n → f i = byF l i)
    (hS : P.underlying S = some (.slice te)) (he : P.underlying te = some (.int .u8)) (hT : P.underlying T = some .string)
    (hs : cstep s t (.str ⟨l.toArray⟩) = some s') (hn : RunL P F w0 ops Q rest s') : RunL P F w0 ops Q (⟨some t, .convert S T x, ty, pos, af, none⟩ :: rest) s := fun h e a w D => by
  obtain ⟨ht, rfl⟩ := cstep_ok hs
  subst hl
  have hv : rep h (unG s x) e (a.eval x) := D.unG hg (List.mem_singleton_self x)
  rw [hx] at hv
  simp only [rep] at hv
  obtain ⟨ao, cap, h4, _, _, h6⟩ := hv
  have h5 : 0 < l.length → ∃ b o, ao = some ⟨b, o, none⟩ ∧ ∀ j, j < l.length → w.cell? ⟨b, o + j, none⟩ = some (.int .u8 ((l.getD j 0).toNat : Int)) := fun hp => by
    obtain ⟨⟨b, o, sp⟩, cs, T1, fr, rfl, hsp, h7, h8⟩ := h6 hp
    simp only at hsp
    subst hsp
    refine ⟨b, o, rfl, fun j hj => ?_⟩
    obtain ⟨u, u1, u2, u3, _⟩ := h8 j hj
    have hu := u1 e
    rw [hf j hj] at hu
    simp only [byF, rep] at hu
    subst hu
    have hw := D.sub _ _ h7
    simp only at hw
    unfold World.cell?
    simp only [hw]
    have h9 : cs.toList[o + j]? = some (.int .u8 ((l.getD j 0).toNat : Int)) := by
      have e1 : (Value.int IntKind.u8 ((l.getD j 0).toNat : Int)).cells = #[.int .u8 ((l.getD j 0).toNat : Int)] := rfl
      rw [e1, Nat.mul_one, cut] at u2
      have := congrArg (·[0]?) u2
      simpa using this.symm
    simpa using h9
  have hrun := conv_back (P := P) (w := w) (S := S) (T := T) (cap := cap) hS he hT h5
  refine wpS_plain rfl fun K hK => ?_
  unfold Oper.wp
  have hex : (execOp a.eval ⟨some t, .convert S T x, ty, pos, af, none⟩).run P w = .ok (.value (.string ⟨l.toArray⟩)) w := by
    simp only [execOp, h4, Sem.run_bind, hrun, Result.andThen_ok]
    rfl
  rw [hex]
  exact hK _ _ (hn _ _ _ _ (D.put ht (by simp only [rep])))
end
end Go.Sx

/-! SxKc: loops of which the rounds are counted; the nil interface. -/
namespace Go.Sx
open Go.RowKit
section
variable {P : Program} {F : List Nat} {w0 : Base} {fin : Exit → Act → World → Prop} {k : List It} {s : St}
/-- So many rounds at most are to come. -/
def rdsI (P : Program) (rd : Option Nat) (fin : Exit → Act → World → Prop) (k : List It) (body : Code) (m : Nat) : Act → World → Prop := body.roundsIn (fe rd) 0 P (post P rd fin k) m
theorem run_rounds (m : Nat) {body : Code} (h : Run P F w0 fin (.code body :: .lp (rdsI P w0.rd fin k body m) :: k) s) : Run P F w0 fin (.code (.loop body) :: k) s := fun h' e a w D =>
  wpIn_loop_rounds (m + 1) (wpIn_mono (h h' e a w D) fun e a w hq => by cases e <;> exact hq)
theorem run_round {m : Nat} {body : Code} {fin' : Exit → Act → World → Prop} {k' : List It} (h : Run P F w0 fin (.code body :: .lp (rdsI P w0.rd fin k body m) :: k) s) : Run P F w0 fin' (.lp (rdsI P w0.rd fin k body (m + 1)) :: k') s := fun h' e a w D =>
  wpIn_mono (h h' e a w D) fun e a w hq => by cases e <;> exact hq
variable {Q : Exit → Act → World → Prop} {ops : Array Oper} {rest : List Oper}
/-- 'x != nil' of a nil interface value. -/
theorem stepnif {t T : Nat} {x : Operand} {U ty : Nat} {pos : String} {af : Array Edge} {s' : St} (hx : ev s x = .nilif) (hk : Nat.beq (kdT P T) 8 = true) (hs : cstep s t (.bool false) = some s')
    (hn : RunL P F w0 ops Q rest s') : RunL P F w0 ops Q (⟨some t, .binOp .neq T x (.const .nilIface) U, ty, pos, af, none⟩ :: rest) s := fun h e a w D => by
  obtain ⟨ht, rfl⟩ := cstep_ok hs
  have hv := D.ev x
  rw [hx] at hv
  simp only [rep] at hv
  have hu : ∃ m, P.underlying T = some (.interface m) := by
    have := Nat.eq_of_beq_eq_true hk
    unfold kdT at this
    split at this <;> first | exact ⟨_, by assumption⟩ | (simp at this)
  obtain ⟨m, hu⟩ := hu
  refine wpS_plain rfl fun K hK => ?_
  unfold Oper.wp
  have hex : (execOp a.eval ⟨some t, .binOp .neq T x (.const .nilIface) U, ty, pos, af, none⟩).run P w = .ok (.value (.bool false)) w := by
    have hc : a.eval (.const .nilIface) = .nilIface := rfl
    have h1 : (Op.equalIn (9999 + 1) T .nilIface .nilIface).run P w = .ok true w := by
      unfold Op.equalIn
      rw [Sem.run_bind, run_underlying hu, Result.andThen_ok]
      rfl
    have h2 : (Op.equal T .nilIface .nilIface).run P w = .ok true w := h1
    have h3 : (binOp .neq T .nilIface .nilIface).run P w = .ok (.bool false) w := by
      show (do pure (.bool (!(← Op.equal T .nilIface .nilIface))) : Sem Value).run P w = _
      simp only [Sem.run_bind, h2, Result.andThen_ok, Sem.run_pure, Bool.not_true]
    simp only [execOp, hv, hc, eqGuard_nil_constR, Sem.run_bind, Sem.run_pure, Result.andThen_ok, h3]
  rw [hex]
  exact hK _ _ (hn _ _ _ _ (D.put ht (by simp only [rep])))

theorem repC_get {h : Hp} {e : Nm} : ∀ {l : List SD} {vs : List Value} {i : Nat} {d : SD}, repC h l e vs → l[i]? = some d → ∃ v, vs[i]? = some v ∧ rep h d e v
  | [], _, _, _, _, hi => by simp at hi
  | d :: r, vs, i, d', x, hi => by
    simp only [repC] at x
    obtain ⟨v, vs', rfl, _, h1, h2⟩ := x
    cases i with
    | zero => simp only [List.getElem?_cons_zero, Option.some.injEq] at hi; subst hi; exact ⟨v, rfl, h1⟩
    | succ i =>
      obtain ⟨u, u1, u2⟩ := repC_get h2 (by simpa using hi)
      exact ⟨u, by simpa using u1, u2⟩

/-- 'string(b)' of a slice of an own array. -/
theorem stepcvV {t S T te k off n c : Nat} {cl : List SD} {x : Operand} {ty : Nat} {pos : String} {af : Array Edge} {s' : St} (l : List UInt8) (hx : ev s x = .vsl k off n c) (ho : lkO s.ow k = some (.var cl)) (hl : n = l.length) (hf : (cl.drop off).take n = l.map fun b => SD.int .u8 (b.toNat : Int))
    (hS : P.underlying S = some (.slice te)) (he : P.underlying te = some (.int .u8)) (hT : P.underlying T = some .string)
    (hs : cstep s t (.str ⟨l.toArray⟩) = some s') (hn : RunL P F w0 ops Q rest s') : RunL P F w0 ops Q (⟨some t, .convert S T x, ty, pos, af, none⟩ :: rest) s := fun h e a w D => by
  obtain ⟨ht, rfl⟩ := cstep_ok hs
  subst hl
  have hv := D.ev x
  rw [hx] at hv
  simp only [rep] at hv
  obtain ⟨cs, T1, h1, h2⟩ := D.own k _ ho
  have h5 : 0 < l.length → ∃ b o, (some ⟨e.bs k, off, none⟩ : Option Addr) = some ⟨b, o, none⟩ ∧ ∀ j, j < l.length → w.cell? ⟨b, o + j, none⟩ = some (.int .u8 ((l.getD j 0).toNat : Int)) := fun _ => by
    refine ⟨_, _, rfl, fun j hj => ?_⟩
    have e1 : cl[off + j]? = some (SD.int .u8 ((l.getD j 0).toNat : Int)) := by
      have := congrArg (·[j]?) hf
      simp only [List.getElem?_take_of_lt hj, List.getElem?_drop, List.getElem?_map, List.getElem?_eq_getElem hj, Option.map_some] at this
      rw [this]
      simp [List.getD_eq_getElem?_getD, List.getElem?_eq_getElem hj]
    obtain ⟨u, u1, u2⟩ := repC_get h2 e1
    simp only [rep] at u2
    subst u2
    unfold World.cell?
    simp only [h1]
    simpa using u1
  have hrun := conv_back (P := P) (w := w) (S := S) (T := T) (cap := c) hS he hT h5
  refine wpS_plain rfl fun K hK => ?_
  unfold Oper.wp
  have hex : (execOp a.eval ⟨some t, .convert S T x, ty, pos, af, none⟩).run P w = .ok (.value (.string ⟨l.toArray⟩)) w := by
    simp only [execOp, hv.1, Sem.run_bind, hrun, Result.andThen_ok]
    rfl
  rw [hex]
  exact hK _ _ (hn _ _ _ _ (D.put ht (by simp only [rep])))
end
end Go.Sx

/-! SxKd: calls of methods of interface values; functions that the model stands in for. -/
namespace Go.Sx
open Go.RowKit
section
variable {P : Program} {F : List Nat} {w0 : Base} {s : St} {ops : Array Oper} {Q : Exit → Act → World → Prop} {rest : List Oper}

/-- A pointer that is not nil. -/
def isPtr : SD → Bool
  | .loc .. => true
  | .fp _ => true
  | _ => false
theorem isPtr_ok {d : SD} (hd : isPtr d = true) {h : Hp} {e : Nm} {v : Value} (hv : rep h d e v) : ∃ a, v = .pointer (some a) := by
  cases d <;> simp only [isPtr, Bool.false_eq_true] at hd
  · simp only [rep] at hv
    obtain ⟨ad, _, _, _, rfl, _⟩ := hv
    exact ⟨ad, rfl⟩
  · simp only [rep] at hv
    exact ⟨_, hv⟩
/-- A call of such a method of such a pointer enters that function. -/
def MethP (P : Program) (tx : Nat) (name : String) (f : Nat) : Prop := ∀ (a : Addr) (args : Array Value) (w : World), (callMethod (.iface tx (.pointer (some a))) name args).run P w = .ok (.enter f (#[.pointer (some a)] ++ args)) w

theorem inv_run {tx f : Nat} {name : String} (hm : MethP P tx name f) {x : Operand} {a : Act} {ad : Addr} (hx : a.eval x = .iface tx (.pointer (some ad))) {w : World} {t : Option Nat} {args : Array Operand} {tys : Array Nat} {ty : Nat} {pos : String} {af : Array Edge} {g : Option (Nat × Bool)} :
    (execOp a.eval ⟨t, .call ⟨.invoke x name, args, tys⟩, ty, pos, af, g⟩).run P w = .ok (.enter f (.pointer (some ad) :: args.toList.map a.eval).toArray) w := by
  have e1 : (Value.pointer (some ad) :: args.toList.map a.eval).toArray = #[.pointer (some ad)] ++ args.map a.eval := by apply Array.ext'; simp
  have e2 : (#[a.eval x] ++ args.map a.eval).extract 1 (#[a.eval x] ++ args.map a.eval).size = args.map a.eval := by
    apply Array.ext'; simp only [Array.toList_extract, Array.toList_append, List.cons_append, List.nil_append, List.extract_eq_take_drop, List.drop_succ_cons, List.drop_zero]; exact List.take_of_length_le (by simp)
  have e3 : (#[a.eval x] ++ args.map a.eval)[0]? = some (a.eval x) := by rw [Array.getElem?_append_left (by simp)]; rfl
  have e4 : (invoke (.fn (.method name) #[]) (#[a.eval x] ++ args.map a.eval)).run P w = .ok (.enter f (#[.pointer (some ad)] ++ args.map a.eval)) w := by
    unfold invoke
    rw [e2]
    simp only [e3]
    rw [hx]
    exact hm ad _ w
  rw [e1]
  simp only [execOp, resolve, Sem.run_bind, Sem.run_pure, Result.andThen_ok]
  exact e4

/-- .. of a function that leaves all as it was. -/
theorem stepinv {f t tx : Nat} {name : String} {x : Operand} {d0 : SD} {args : Array Operand} {tys : Array Nat} {ty : Nat} {pos : String} {af : Array Edge} {R : List SD → SD → Prop} {ds : List SD} {d : SD} {s' : St} (hm : MethP P tx name f) (hf : FnOK P f R)
    (hx : ev s x = .iface tx d0) (hd0 : isPtr d0 = true) (ha : d0 :: args.toList.map (unG s) = ds) (hg : allP (gCs s args.toList [])) (hR : R ds d) (hs : cstep s t d = some s')
    (hn : RunL P F w0 ops Q rest s') : RunL P F w0 ops Q (⟨some t, .call ⟨.invoke x name, args, tys⟩, ty, pos, af, none⟩ :: rest) s := fun h e a w D => by
  subst ha
  obtain ⟨ht, rfl⟩ := cstep_ok hs
  have hv := D.ev x
  rw [hx] at hv
  simp only [rep] at hv
  obtain ⟨u, hu, hd⟩ := hv
  obtain ⟨ad, rfl⟩ := isPtr_ok hd0 hd
  refine wpS_plain rfl fun K hK => ?_
  unfold Oper.wp
  rw [inv_run hm hu]
  refine (hf.ok _ _ hR h e w (.pointer (some ad) :: args.toList.map a.eval) D.gh D.sub (by simp only [repT]; exact ⟨_, _, rfl, hd, repT_args D (allP_gCs hg).1 fun _ hx => hx⟩)).mono fun en w' hq => ?_
  obtain ⟨v, h', rfl, g1, g2, g3, g4, g5⟩ := hq
  exact hK _ _ (hn _ _ _ _ ((D.called g1 g2 g3 g4).put ht (g5 e)))

/-- .. with own objects. -/
theorem stepinvM {f t tx : Nat} {name : String} {x : Operand} {d0 : SD} {args : Array Operand} {tys : Array Nat} {ty : Nat} {pos : String} {af : Array Edge} {R : List SD → List OB → SD → List (Nat × OB) → Prop} (ks : List Nat) {ds : List SD} {os : List OB} {d : SD} {os' : List (Nat × OB)} {s' : St} (hm : MethP P tx name f) (hf : FnM P f R)
    (hx : ev s x = .iface tx d0) (hd0 : isPtr d0 = true)
    (hnd : nodupB ks = true) (ha : renL (tau ks) (d0 :: args.toList.map (unG s)) = ds) (hal : allNL (fun x => memb x ks) (fun x => memb x ks) (d0 :: args.toList.map (unG s)) = true) (ho : osOf s ks ks = some os) (hg : allP (gCs s args.toList [])) (hR : R ds os d os')
    (hs : callMD s t ks os d os' = some s') (hn : RunL P F w0 ops Q rest s') : RunL P F w0 ops Q (⟨some t, .call ⟨.invoke x name, args, tys⟩, ty, pos, af, none⟩ :: rest) s := fun h e a w D => by
  have hv := D.ev x
  rw [hx] at hv
  simp only [rep] at hv
  obtain ⟨u, hu, hd⟩ := hv
  obtain ⟨ad, rfl⟩ := isPtr_ok hd0 hd
  refine wpS_plain rfl fun K hK => ?_
  unfold Oper.wp
  rw [inv_run hm hu]
  refine (D.pass (passM hnd ha hal ho) hf hR (vs := .pointer (some ad) :: args.toList.map a.eval) (by simp only [repT]; exact ⟨_, _, rfl, hd, repT_args D (allP_gCs hg).1 fun _ hx => hx⟩)).mono fun en w' hq => ?_
  obtain ⟨v, h', e', rfl, D'⟩ := D.afterM ho hs hq
  exact hK _ _ (hn _ _ _ _ D')

/-- A function that the model stands in for: of a string and a number. -/
theorem stepx2 {f t : Nat} {x y : Operand} {b : ByteArray} {k kr : IntKind} {c n : Int} {tys : Array Nat} {ty : Nat} {pos : String} {af : Array Edge} {s' : St} (hx : unG s x = .str b) (hy : unG s y = .int k c) (hg : allP (gCs s [x, y] []))
    (hc : ∀ w, (callFunc f #[.string b, .int k c]).run P w = .ok (.value (.int kr n)) w) (hs : cstep s t (.int kr n) = some s')
    (hn : RunL P F w0 ops Q rest s') : RunL P F w0 ops Q (⟨some t, .call ⟨.value (.func f), #[x, y], tys⟩, ty, pos, af, none⟩ :: rest) s := fun h e a w D => by
  obtain ⟨ht, rfl⟩ := cstep_ok hs
  have h1 : rep h (unG s x) e (a.eval x) := D.unG hg (by simp)
  have h2 : rep h (unG s y) e (a.eval y) := D.unG hg (by simp)
  rw [hx] at h1
  rw [hy] at h2
  simp only [rep] at h1 h2
  refine wpS_plain rfl fun K hK => ?_
  unfold Oper.wp
  have hex : (execOp a.eval ⟨some t, .call ⟨.value (.func f), #[x, y], tys⟩, ty, pos, af, none⟩).run P w = .ok (.value (.int kr n)) w := by
    simp [execOp, resolve, Deferred.ofValue, Act.eval, invoke]
    have := hc w
    rw [← h1, ← h2] at this
    simpa [Act.eval] using this
  rw [hex]
  exact hK _ _ (hn _ _ _ _ (D.put ht (by simp only [rep])))
end
end Go.Sx

/-! SxKe: a copy out of a slice that stays into an own one. -/
namespace Go.Sx
open Go.RowKit
def cqF (a n2 : Nat) (g f : Nat → SD) : Nat → SD := fun i => if a ≤ i ∧ i < a + n2 then g (i - a) else f i
def cqA (P : Program) (s : St) (T : Nat) (x y : SD) : Option (List Prop × SD × Nat × OB) :=
  match x, y with
  | .accp k es a, .list es2 n2 g => match lkO s.ow k, elT P T with
    | some (.acc te es1 n1 f), some te' => bif Nat.beq te te' && Nat.beq es 1 && Nat.beq es1 1 && Nat.beq es2 1 && Nat.beq (kdT P T) 1 && Nat.beq (szT P te') 1 then
        some ([1 ≤ n2, a + n2 ≤ n1], .int .i64 (n2 : Int), k, .acc te 1 n1 (cqF a n2 g f)) else none
    | _, _ => none
  | _, _ => none
section
variable {P : Program} {F : List Nat} {w0 : Base} {s : St}
theorem wp_cqA {h : Hp} {e : Nm} {a : Act} {w : World} (D : Den F w0 s h e a w) {t T : Nat} {x y : Operand} {ty : Nat} {pos : String} {af : Array Edge} {g : Option (Nat × Bool)} {p : List Prop} {d : SD} {k : Nat} {ob : OB} (ht : t < s.n)
    (hq : cqA P s T (ev s x) (ev s y) = some (p, d, k, ob)) (hp : allP p) (K : Act → World → Prop) (Q : Exit → Act → World → Prop) (hK : ∀ h' e' a' w', Den F w0 ⟨s.n, s.nx, upd s.sl t d, upd s.ow k ob⟩ h' e' a' w' → K a' w') :
    (⟨some t, .call ⟨.builtin .copy, #[x, y], #[T, T]⟩, ty, pos, af, g⟩ : Oper).wp P a w K Q := by
  unfold cqA at hq
  split at hq
  · rename_i k1 es a0 es2 n2 gg hx hy
    split at hq
    · rename_i te es1 n1 f te' ho hte
      cases hb : (Nat.beq te te' && Nat.beq es 1 && Nat.beq es1 1 && Nat.beq es2 1 && Nat.beq (kdT P T) 1 && Nat.beq (szT P te') 1)
      · rw [hb] at hq; cases hq
      · rw [hb] at hq
        simp only [cond_true, Option.some.injEq, Prod.mk.injEq] at hq
        obtain ⟨rfl, rfl, rfl, rfl⟩ := hq
        simp only [Bool.and_eq_true] at hb
        obtain ⟨⟨⟨⟨⟨c1, c2⟩, c2b⟩, c3⟩, c4⟩, c5⟩ := hb
        have c1 := Nat.eq_of_beq_eq_true c1
        have c2 := Nat.eq_of_beq_eq_true c2
        have c2b := Nat.eq_of_beq_eq_true c2b
        have c3 := Nat.eq_of_beq_eq_true c3
        have c5 := Nat.eq_of_beq_eq_true c5
        subst c1 c2 c2b c3
        simp only [allP] at hp
        obtain ⟨p1, p2, _⟩ := hp
        obtain ⟨te2, hu⟩ := und1 c4
        have := elT_slice hu hte
        subst this
        obtain ⟨i, hi, hs⟩ := info_of_szT (show szT P te = 0 + 1 from c5)
        have hsz : i.size = 1 := by omega
        have hxv := D.ev x
        rw [hx] at hxv
        have hyv := D.ev y
        rw [hy] at hyv
        simp only [rep] at hxv hyv
        obtain ⟨b, n1', c, x1, x2, x3, x4⟩ := hxv
        obtain ⟨ao, cap2, y1, y2, y3, y4⟩ := hyv
        obtain ⟨ad, csF, TF, frF, rfl, y5, y6, y7⟩ := y4 (by omega)
        obtain ⟨bf, off, sp⟩ := ad
        simp only at y5
        subst y5
        obtain ⟨xs, o1, o2, o3⟩ := D.own _ _ ho
        rcases o1.2 with ⟨hv, _⟩ | ⟨g', cap, cur, hv, _, hg, hnc, hcm, hcs, htake⟩
        · rw [x1] at hv; cases hv
        · rw [x1] at hv
          simp only [Value.slice.injEq, Option.some.injEq, Addr.mk.injEq, and_true] at hv
          obtain ⟨rfl, rfl, rfl⟩ := hv
          have hxl := o1.1
          have ea : (if c = a0 then (⟨b, 0, none⟩ : Addr) else ⟨b, a0 * 1, none⟩) = ⟨b, a0, none⟩ := by rw [if_neg (by omega), Nat.mul_one]
          rw [ea] at x4
          have hm : Nat.min n2 (n1' - a0) = n2 := Nat.min_eq_left (by omega)
          have hblk : (OB.acc te 1 n1' f).blk e k1 = some b := by simp [OB.blk, x1, Value.ownBlock]
          generalize hcs' : cut csF.toList off n2 = cs
          have hget : ∀ j, j < n2 → ∃ u c0, cs[j]? = some c0 ∧ (∀ e, rep h (gg j) e u) ∧ u.cells = #[c0] ∧ c0.oneCell' = true := fun j hj => by
            obtain ⟨u, u1, u2, u3, u4⟩ := y7 j hj
            simp only [Nat.mul_one] at u2
            obtain ⟨c0, hc0⟩ : ∃ c0, u.cells = #[c0] := by
              obtain ⟨c0, h0⟩ := List.length_eq_one_iff.1 (show u.cells.toList.length = 1 by rw [Array.length_toList]; exact u3)
              exact ⟨c0, Array.ext' h0⟩
            have hone : c0.oneCell' = true := u4 c0 (by rw [hc0]; simp)
            refine ⟨u, c0, ?_, u1, hc0, hone⟩
            rw [hc0] at u2
            have := congrArg (·[0]?) u2
            simp only [cut, List.getElem?_take, List.getElem?_drop] at this ⊢
            rw [← hcs']
            simp only [cut, List.getElem?_take, List.getElem?_drop, if_pos hj]
            simpa using this.symm
          have hcl : cs.length = n2 := by
            rcases Nat.lt_trichotomy cs.length n2 with h1 | h1 | h1
            · obtain ⟨_, u, hu, _⟩ := hget cs.length h1
              rw [List.getElem?_eq_none (Nat.le_refl _)] at hu; cases hu
            · exact h1
            · have : cs.length ≤ n2 := by rw [← hcs']; simp only [cut]; exact List.length_take_le _ _
              omega
          have hFw := D.sub _ _ y6
          simp only at hFw
          have hload := run_loadCells_list (P := P) w ⟨bf, off, none⟩ cs fun j v hv => by
            rw [Addr.add_mid, cell_of_block hFw]
            rw [← hcs'] at hv
            simp only [cut, List.getElem?_take, List.getElem?_drop] at hv
            split at hv
            · simpa using hv
            · cases hv
          have hone : ∀ v ∈ cs, v.oneCell' = true := fun v hv => by
            obtain ⟨j, h3⟩ := List.mem_iff_getElem?.1 hv
            have hj : j < n2 := by rw [← hcl]; exact (List.getElem?_eq_some_iff.1 h3).1
            obtain ⟨_, u, h4, _, _, h5⟩ := hget j hj
            rw [h3] at h4
            simp only [Option.some.injEq] at h4
            rw [h4]; exact h5
          have hst := run_storeCells_at P b a0 te cs 0 cur w hg (by rw [hcl, hcs]; omega) hone
          simp only [Nat.add_zero] at hst
          unfold Oper.wp
          have hr : (execOp a.eval ⟨some t, .call ⟨.builtin .copy, #[x, y], #[T, T]⟩, ty, pos, af, g⟩).run P w = .ok (.value (goInt n2)) (w.setRow b (cur.toList.take a0 ++ cs ++ cur.toList.drop (a0 + cs.length)).toArray) := by
            have hload' : (loadCells ⟨bf, off, none⟩ (n2 * i.size)).run P w = .ok cs.toArray w := by rw [hsz, Nat.mul_one, ← hcl]; exact hload
            simp only [execOp, resolve, invoke, builtin, Sem.run_bind, Sem.run_pure, Result.andThen_ok, List.map_toArray, List.map_cons, List.map_nil, x4, y1]
            simp [Builtin.copy_, run_underlying hu, sizeOf, typeInfo, hi, Builtin.lenOf, Builtin.firstCells, hm, hload', hst]
          rw [hr]
          refine hK h e _ _ ?_
          have D1 := D.setOwn (w' := w.setRow b (cur.toList.take a0 ++ cs ++ cur.toList.drop (a0 + cs.length)).toArray) (o' := .acc te 1 n1' (cqF a0 n2 gg f)) ho rfl ?_ ?_ rfl rfl rfl (by simp)
          · exact D1.put (i := t) (d := .int .i64 ((n2 : Nat) : Int)) (v := goInt n2) ht (by simp [rep, goInt])
          · have hxl' : xs.length = n1' := by simpa using hxl
            refine ⟨xs.take a0 ++ cs ++ xs.drop (a0 + n2), ⟨?_, .inr ⟨b, c, _, x1, Nat.zero_le _, setRow_heap w b cur _ te _ hg, hnc, hcm, ?_, ?_⟩⟩, o2, fun j hj => ?_⟩
            · simp only [List.length_append, List.length_take, List.length_drop, hcl, hxl', Nat.mul_one]; omega
            · simp only [List.size_toArray, List.length_append, List.length_take, List.length_drop, Array.length_toList, hcl, hcs]
              omega
            · rw [hcl, ← htake]
              simp only [Nat.mul_one]
              have hA : (cur.toList.take a0 ++ cs).length = a0 + n2 := by
                rw [List.length_append, List.length_take, hcl, Array.length_toList]
                omega
              show List.take n1' (cur.toList.take a0 ++ cs ++ cur.toList.drop (a0 + n2)) = _
              rw [List.take_append, List.take_of_length_le (by omega), hA, List.take_take, Nat.min_eq_left (by omega), List.drop_take]
            · have hL : (xs.take a0).length = a0 := by rw [List.length_take]; omega
              unfold cqF
              by_cases hc : a0 ≤ j ∧ j < a0 + n2
              · rw [if_pos hc]
                obtain ⟨u, c0, h4, h5, h6, h7⟩ := hget (j - a0) (by omega)
                refine ⟨u, h5, ?_, by rw [h6]; rfl, fun c hc' => by rw [h6] at hc'; simp at hc'; subst hc'; exact h7⟩
                rw [h6]
                simp only [cut, Nat.mul_one]
                have hd : List.drop j (List.take a0 xs ++ cs ++ List.drop (a0 + n2) xs) = List.drop (j - a0) cs ++ List.drop (a0 + n2) xs := by
                  rw [List.append_assoc, List.drop_append, List.drop_eq_nil_of_le (by omega), List.nil_append, hL, List.drop_append]
                  have : j - a0 - cs.length = 0 := by omega
                  rw [this, List.drop_zero]
                rw [hd]
                obtain ⟨hh, hh2⟩ := List.getElem?_eq_some_iff.1 h4
                rw [List.drop_eq_getElem_cons hh, hh2]
                rfl
              · rw [if_neg hc]
                obtain ⟨u, w2, w3, w4⟩ := o3 j hj
                refine ⟨u, w2, ?_, w4⟩
                rw [w3]
                simp only [cut, Nat.mul_one]
                by_cases hja : j < a0
                · rw [List.append_assoc, List.drop_append_of_le_length (by omega), List.take_append_of_le_length (by rw [List.length_drop]; omega)]
                  rw [List.drop_take, List.take_take, Nat.min_eq_left (by omega)]
                · have hje : a0 + n2 ≤ j := by omega
                  have : List.drop j (List.take a0 xs ++ cs ++ List.drop (a0 + n2) xs) = List.drop j xs := by
                    rw [List.drop_append, List.drop_eq_nil_of_le (by rw [List.length_append]; omega), List.nil_append, List.drop_drop, List.length_append, hL, hcl]
                    congr 1; omega
                  rw [this]
          · intro b' hbk
            exact setRow_other w _ b' _ (fun hc => hbk (by rw [hblk, hc]))
    · cases hq
  · cases hq

variable {Q : Exit → Act → World → Prop} {l : List Oper} {s0 : St} {rs : List Rec} {id : Nat} {rest : List Oper}
theorem cqA_agree {σ : St} {T : Nat} {x y : SD} {r : List Prop × SD × Nat × OB} (hm : OwM s σ x) (hq : cqA P s T x y = some r) : cqA P σ T x y = some r := by
  unfold cqA at hq ⊢
  split at hq
  · rename_i k es a es2 n2 g
    cases ho : lkO s.ow k with
    | none => rw [ho] at hq; cases hq
    | some o => rw [hm k o (by simp [men]) ho]; rw [ho] at hq; exact hq
  · cases hq
theorem runDcq {t T : Nat} {x y : Operand} {ty : Nat} {pos : String} {af : Array Edge} {p : List Prop} {d : SD} {k : Nat} {ob : OB} {s' : St} (hq : cqA P s T (ev s x) (ev s y) = some (p, d, k, ob)) (hp : allP p) (hs : cpS s t d k ob = some s')
    (hn : RunD P F w0 Q id l s0 (rs ++ [recSl s t x y d [(k, some ob)]]) rest s') : RunD P F w0 Q id l s0 rs (⟨some t, .call ⟨.builtin .copy, #[x, y], #[T, T]⟩, ty, pos, af, none⟩ :: rest) s := fun K => by
  unfold cpS at hs
  cases hb : Nat.blt t s.n
  · rw [hb] at hs; cases hs
  rw [hb] at hs
  simp only [cond_true, Option.some.injEq] at hs
  subst hs
  have g1 : ∀ p ∈ (recSl s t x y d [(k, some ob)]).slots, lkp s.sl p.1 = p.2 := readS_ok
  have g2 : ∀ p ∈ (recSl s t x y d [(k, some ob)]).keys, lkO s.ow p.1 = some p.2 := keysA_ok
  refine hn (K.snoc g1 g2 (fun σ hn h1 h2 h3 h e a w D K Q hK => ?_) ⟨rfl, fun _ => rfl, fun _ => rfl⟩)
  rw [if_pos (by simp [Region.wanted])]
  have hev := ev_agree (s := s) (s' := σ) (l := [x, y]) h1
  have e1 := hev x (by simp)
  have e2 := hev y (by simp)
  have hm : OwM s σ (ev s x) := fun k o hm ho => h2 (k, o) (keysA_mem (by simp [menA, hm]) ho)
  refine wp_cqA D (by rw [hn]; exact blt_lt hb) (by rw [e1, e2]; exact cqA_agree hm hq) hp K Q fun h' e' a' w' D' => hK h' e' a' w' D'
end
end Go.Sx

/-! SxKf: a new slice of two pointers, as an own array. -/
namespace Go.Sx
open Go.RowKit
section
variable {P : Program} {F : List Nat} {w0 : Base} {s : St} {ops : Array Oper} {Q : Exit → Act → World → Prop} {rest : List Oper}
theorem stepmk2 {t T te : Nat} {x y : Operand} {kx ky : IntKind} {ty : Nat} {pos : String} {af : Array Edge} {s' : St} (hx : ev s x = .int kx 2) (hy : ev s y = .int ky 2) (hT : P.underlying T = some (.slice te)) (hi : (P.info? te).map (fun i => (i.zero, i.size, i.bytes)) = some (some (.pointer none), 1, 8))
    (hb : (Nat.blt t s.n && s.free s.nx) = true) (hs : (⟨s.n, s.nx + 1, upd s.sl t (.vsl s.nx 0 2 2), upd s.ow s.nx (.var [.nilp, .nilp])⟩ : St) = s')
    (hn : RunL P F w0 ops Q rest s') : RunL P F w0 ops Q (⟨some t, .makeSlice T x y, ty, pos, af, none⟩ :: rest) s := fun h e a w D => by
  subst hs
  simp only [Bool.and_eq_true] at hb
  have ht := blt_lt hb.1
  have hf := Free.of hb.2
  have hxv := D.ev x
  rw [hx] at hxv
  have hyv := D.ev y
  rw [hy] at hyv
  simp only [rep] at hxv hyv
  cases hinf : P.info? te with
  | none => rw [hinf] at hi; cases hi
  | some i =>
    rw [hinf] at hi
    simp only [Option.map_some, Option.some.injEq, Prod.mk.injEq] at hi
    obtain ⟨hz, hsz, hby⟩ := hi
    have hrun := run_makeSlice (P := P) w T te i (.pointer none) hT hinf hz kx ky 2 2 (by omega) (by omega) (by simp [hsz]) (by rw [hby]; decide) (by omega)
    refine wpS_plain rfl fun K hK => ?_
    unfold Oper.wp
    have hex : (execOp a.eval ⟨some t, .makeSlice T x y, ty, pos, af, none⟩).run P w = .ok (.value (.slice (some ⟨w.heap.size, 0, none⟩) 2 2)) (w.alloc (.cells (madeCells (Value.pointer none).cells ((2 : Int).toNat * i.size)) te)) := by
      simp only [execOp, hxv, hyv, Sem.run_bind, hrun, Result.andThen_ok]
      rfl
    rw [hex]
    have hcs : (madeCells (Value.pointer none).cells ((2 : Int).toNat * i.size)).toList = [.pointer none, .pointer none] := by rw [hsz]; simp [madeCells, Value.cells, Array.range]
    have D1 := D.newVar (k := s.nx) (l := [.nilp, .nilp]) (cs := madeCells (Value.pointer none).cells ((2 : Int).toNat * i.size)) (T := te) hf (by simp [menL, men]) (by rw [hcs]; simp only [repC, rep]; exact ⟨_, _, rfl, rfl, rfl, _, _, rfl, rfl, rfl, rfl⟩) (s.nx + 1)
    refine hK _ _ (hn _ _ _ _ (D1.put (i := t) (d := .vsl s.nx 0 2 2) ht ?_))
    simp only [rep, Nm.setB, if_true]
    exact ⟨trivial, Nat.le_refl _, by simp [maxLen], by simp [maxN]⟩
/-- What a slot holds is forgotten. -/
theorem runL_fgt {l : List Oper} (t : Nat) {s' : St} (hs : (⟨s.n, s.nx, upd s.sl t .any, s.ow⟩ : St) = s') (hn : RunL P F w0 ops Q l s') : RunL P F w0 ops Q l s := fun h e a w D => by
  subst hs
  refine hn h e a w ⟨D.defers, D.size, fun j => ?_, D.own, D.ownb, D.apart, D.sub, D.keeps, D.le, D.neww, D.fix⟩
  rw [lkp_upd]
  split
  · simp only [rep]
  · exact D.slot j
theorem run_roundsB {fin : Exit → Act → World → Prop} {k : List It} (id m : Nat) {body : Code} (h : Run P F w0 fin (.code body :: .lp (rdsI P w0.rd fin (.blk id :: k) body m) :: .blk id :: k) s) : Run P F w0 fin (.code (.loop body) :: .blk id :: k) s := run_rounds m h
end
end Go.Sx

/-! SxBr: a region that draws its order, in which one operation comes behind all before it and ahead of all behind it. -/
namespace Go.Sx
open Go.RowKit
section
variable {P : Program} {F : List Nat} {w0 : Base}

theorem draw_ph {l : List Oper} {rs : List Rec} {s0 : St} {Q : Exit → Act → World → Prop} (lo hi : Nat) (hhi : hi ≤ l.length) (hbar : ∀ i, hi ≤ i → i < l.length → ∀ j, j < hi → j ∈ (befs l []).getD i []) (hchk : drawOK s0 l rs = true) (hin : InOrder s0 rs)
    (hsem : ∀ (j : Nat) (r : Rec) (o : Oper), lo ≤ j → j < hi → rs[j]? = some r → l[j]? = some o → OpSem P F w0 l.toArray s0.n o r)
    (hfin : ∀ (fuel : Nat) (listed : Array Bool), listed.size = l.length → DC l listed → left listed l.length ≤ fuel → (∀ j, j < l.length → listed.getD j false = decide (j < hi)) →
      ∀ h e a w, Den F w0 (stS s0 rs (fun j => decide (j < hi)) rs.length) h e a w → wpAnyS P .any l.toArray Q fuel listed a w) :
    ∀ (fuel : Nat) (listed : Array Bool), listed.size = l.length → DC l listed → (∀ j, j < lo → listed.getD j false = true) → (∀ j, hi ≤ j → listed.getD j false = false) → left listed l.length ≤ fuel →
      ∀ h e a w, Den F w0 (stS s0 rs (fun j => listed.getD j false) rs.length) h e a w → wpAnyS P .any l.toArray Q fuel listed a w := by
  simp only [drawOK, Bool.and_eq_true] at hchk
  obtain ⟨⟨hlen, hlt⟩, hck⟩ := hchk
  have hlen := Nat.eq_of_beq_eq_true hlen
  have allof : ∀ (listed : Array Bool), listed.size = l.length → DC l listed → Region.ready .any l.toArray listed = [] → ∀ n, ∀ j, j < n → j < l.length → listed.getD j false = true := by
    intro listed hsz hdc hr n
    induction n with
    | zero => intro j hj; omega
    | succ n ih =>
      intro j hj hjl
      by_cases hjn : j < n
      · exact ih j hjn hjl
      · have hoj : l[j]? = some l[j] := List.getElem?_eq_getElem hjl
        cases hx : listed.getD j false with
        | true => rfl
        | false =>
          exfalso
          have : j ∈ Region.ready .any l.toArray listed := by
            rw [mem_ready]
            refine ⟨?_, l[j], by simp [hoj], fun ed he hb => ?_⟩
            · simpa [Array.getD_eq_getD_getElem?, show j < listed.size by omega] using hx
            · have hee : ed.on ∈ edgesOf l[j] := List.mem_map.2 ⟨ed, List.mem_filter.2 ⟨by simpa using he, hb⟩, rfl⟩
              have := edgesLt_spec hlt j _ hjl hoj _ hee
              exact ih ed.on (by omega) (by omega)
          rw [hr] at this
          cases this
  have fin : ∀ (fuel : Nat) (listed : Array Bool), listed.size = l.length → DC l listed → (∀ j, hi ≤ j → listed.getD j false = false) → left listed l.length ≤ fuel → (∀ j, j < hi → listed.getD j false = true) →
      ∀ h e a w, Den F w0 (stS s0 rs (fun j => listed.getD j false) rs.length) h e a w → wpAnyS P .any l.toArray Q fuel listed a w := fun fuel listed hsz hdc hge hl hall h e a w D => by
    have hd : ∀ j, listed.getD j false = decide (j < hi) := fun j => by
      by_cases hj : j < hi
      · rw [hall j hj]; simp [hj]
      · rw [hge j (by omega)]; simp [hj]
    refine hfin fuel listed hsz hdc hl (fun j _ => hd j) h e a w ?_
    have : (fun j => listed.getD j false) = fun j => decide (j < hi) := funext hd
    rw [this] at D
    exact D
  have sep : ∀ (i j : Nat) (ri rj : Rec), i < j → rs[i]? = some ri → rs[j]? = some rj → i ∈ (befs l []).getD j [] ∨ (ri.apart1 rj = true ∧ rj.apart1 ri = true) := fun i j ri rj hij hi hj => by
    have hjl : j < rs.length := (List.getElem?_eq_some_iff.1 hj).1
    exact apartAll_spec (chkAll_spec hck j rj hjl hj).1 i ri hij hi
  intro fuel
  induction fuel with
  | zero =>
    intro listed hsz hdc hlo hge hl h e a w D
    exact fin 0 listed hsz hdc hge hl (fun j hj => left_zero (Nat.le_zero.1 hl) j (by omega)) h e a w D
  | succ fuel ih =>
    intro listed hsz hdc hlo hge hl h e a w D
    by_cases hall : ∀ j, j < hi → listed.getD j false = true
    · exact fin _ listed hsz hdc hge hl hall h e a w D
    refine ⟨fun hr => absurd (fun j hj => allof listed hsz hdc hr l.length j (by omega) (by omega)) hall, fun i hi' => ?_⟩
    rw [mem_ready] at hi'
    obtain ⟨hu, o, ho, hedge⟩ := hi'
    have ho' : l[i]? = some o := by simpa using ho
    have hil : i < l.length := (List.getElem?_eq_some_iff.1 ho').1
    have hu' : listed.getD i false = false := by simpa [Array.getD_eq_getD_getElem?, show i < listed.size by omega] using hu
    have hre : rs[i]? = some rs[i] := List.getElem?_eq_getElem (by omega)
    generalize rs[i] = r at hre
    have hed : ∀ ed ∈ edgesOf o, listed.getD ed false = true := fun ed he => by
      obtain ⟨x, hx, rfl⟩ := List.mem_map.1 he
      obtain ⟨h1, h2⟩ := List.mem_filter.1 hx
      exact hedge x (by simpa using h1) h2
    have hbef := DC_bef hlt hdc i i (Nat.le_refl _) o ho' hed
    have hih : i < hi := by
      by_cases hx : i < hi
      · exact hx
      · exact absurd (fun j hj => hbef j (hbar i (by omega) hil j hj)) hall
    have hloi : lo ≤ i := by
      by_cases hx : lo ≤ i
      · exact hx
      · have := hlo i (by omega)
        rw [hu'] at this
        cases this
    have hlater : ∀ j, i ∈ (befs l []).getD j [] → j < l.length → listed.getD j false = false := fun j hj hjl => by
      cases hx : listed.getD j false with
      | false => rfl
      | true =>
        have hoj : l[j]? = some l[j] := List.getElem?_eq_getElem hjl
        have := DC_bef hlt hdc j j (Nat.le_refl _) _ hoj (hdc j _ hoj hx) i hj
        rw [hu'] at this
        cases this
    -- what has been written where this one looks
    have look : ∀ (α : Type) (f : Nat → Option α), (∀ j, f j ≠ none → ∃ q, rs[j]? = some q ∧ (j < i → q.apart1 r = true → False) ∧ (i < j → q.apart1 r = true → False)) →
        lastW f (fun j => listed.getD j false) rs.length = lastW f (fun _ => true) i := fun α f hf => by
      rw [← lastW_lt (f := f) (i := i) (n := rs.length) (by omega)]
      refine lastW_congr fun j hj hfj => ?_
      obtain ⟨q, hq, h1, h2⟩ := hf j hfj
      by_cases hji : j < i
      · rcases sep j i q r hji hq hre with h | h
        · simp [hbef j h, hji]
        · exact (h1 hji h.1).elim
      · by_cases hji' : j = i
        · subst hji'; simp only [hu', Nat.lt_irrefl, decide_false]
        · rcases sep i j r q (by omega) hre hq with h | h
          · simp only [hlater j h (by omega), hji, decide_false]
          · exact (h2 (by omega) h.2).elim
    obtain ⟨hin1, hin2⟩ := hin i r hre
    have ag1 : ∀ p ∈ r.slots, lkp (stS s0 rs (fun j => listed.getD j false) rs.length).sl p.1 = p.2 := fun p hp => by
      rw [← hin1 p hp, stS_sl, stS_sl]
      congr 1
      refine look _ _ fun j hj => ?_
      obtain ⟨q, hq, hd, _⟩ := wS_some hj
      have : ∀ (_ : q.apart1 r = true), False := fun hap => by
        have := apart1_dst hap hd
        simp only [Rec.names, Rec.reads, any_beq hp, Bool.true_or] at this
        cases this
      exact ⟨q, hq, fun _ => this, fun _ => this⟩
    have ag2 : ∀ p ∈ r.keys, lkO (stS s0 rs (fun j => listed.getD j false) rs.length).ow p.1 = some p.2 := fun p hp => by
      rw [← hin2 p hp, stS_ow, stS_ow]
      have := look _ (wO rs p.1) fun j hj => by
        obtain ⟨q, o, hq, hd, _⟩ := wO_some hj
        have : ∀ (_ : q.apart1 r = true), False := fun hap => by
          have := apart1_ow hap hd
          simp only [Rec.usesK, any_beq hp, Bool.true_or] at this
          cases this
        exact ⟨q, hq, fun _ => this, fun _ => this⟩
      rw [this]
    have noMen : ∀ k, k ∈ r.fresh → ∀ (j : Nat) (q : Rec), rs[j]? = some q → listed.getD j false = true → q.men k = false := fun k hk j q hq hj => by
      have hjl : j < rs.length := (List.getElem?_eq_some_iff.1 hq).1
      by_cases hji : j < i
      · exact freshB_spec ((chkAll_spec hck i r (by omega) hre).2 k hk).2 j q hji hq
      · by_cases hji' : j = i
        · subst hji'; rw [hu'] at hj; cases hj
        · rcases sep i j r q (by omega) hre hq with h | h
          · rw [hlater j h (by omega)] at hj; cases hj
          · exact apart1_fresh h.1 hk
    have ag3 : ∀ k, k ∈ r.fresh → Free (stS s0 rs (fun j => listed.getD j false) rs.length) k := fun k hk => by
      have hf := ((chkAll_spec hck i r (by omega) hre).2 k hk).1
      have hlt := (Free.of hf).lt
      replace hf := (show (Nat.blt k 1000 && !(menS k s0.sl || menO k s0.ow)) = true from hf)
      simp only [Bool.and_eq_true, Bool.not_eq_true', Bool.or_eq_false_iff] at hf
      replace hf := hf.2
      refine ⟨fun t => ?_, fun j o' hj => ?_, hlt⟩
      · rw [stS_sl]
        cases hl : lastW (wS rs t) (fun j => listed.getD j false) rs.length with
        | none => exact menS_lkp hf.1 t
        | some d =>
          obtain ⟨j, h1, h2, h3⟩ := lastW_some hl
          obtain ⟨q, hq, hd, h4⟩ := wS_some (by rw [h3]; simp)
          rw [h3] at h4
          cases h4
          have := noMen k hk j q hq h2
          simp only [Rec.men, hd, Bool.or_eq_false_iff] at this
          exact this.1
      · rw [stS_ow] at hj
        cases hl : lastW (wO rs j) (fun j => listed.getD j false) rs.length with
        | none => rw [hl] at hj; exact menO_lkO hf.2 j o' hj
        | some o2 =>
          rw [hl] at hj
          simp only at hj
          subst hj
          obtain ⟨m, h1, h2, h3⟩ := lastW_some hl
          obtain ⟨q, o3, hq, hd, h4⟩ := wO_some (by rw [h3]; simp)
          rw [h3] at h4
          cases h4
          have := noMen k hk m q hq h2
          simp only [Rec.men, Bool.or_eq_false_iff] at this
          have this2 := (List.any_eq_false.1 this.2) _ hd
          simp only [menU, Bool.or_eq_true, not_or, Bool.not_eq_true] at this2
          refine ⟨bne_of this2.1, fun x hx => ?_, fun kd x hx => ?_⟩
          · subst hx; exact this2.2
          · subst hx; exact this2.2
    have hgo := hsem i r o hloi hih hre ho' _ (stS_n s0 rs _ _) ag1 ag2 ag3 h e a w D (wpAnyS P .any l.toArray Q fuel (listed.setIfInBounds i true)) Q ?_
    · unfold wpOpS
      simp only [ho]
      split
      · rename_i hw
        rw [if_pos hw] at hgo
        exact hgo
      · rename_i hw
        rw [if_neg hw] at hgo
        exact hgo
    · intro h' e' a' w' D'
      have hS' : ∀ j, (listed.setIfInBounds i true).getD j false = (listed.getD j false || decide (j = i)) := fun j => by
        by_cases hji : j = i
        · subst hji; simp [Array.getD_eq_getD_getElem?, show j < listed.size by omega]
        · rw [getD_set_ne false (fun e => hji e.symm)]; simp [hji]
      refine ih _ (by simp [hsz]) ?_ (fun j hj => by rw [hS', hlo j hj]; rfl) (fun j hj => by rw [hS', hge j hj]; simp; omega) ?_ h' e' a' w' (D'.congr ?_ ?_ ?_)
      · intro j oj hoj hj ed hed'
        rw [hS'] at hj
        rw [hS']
        by_cases hji : j = i
        · subst hji
          rw [ho'] at hoj
          cases hoj
          simp [hed ed hed']
        · simp only [hji, decide_false, Bool.or_false] at hj
          simp [hdc j oj hoj hj ed hed']
      · have := left_set (listed := listed) (i := i) (by omega) hu' (n := l.length) hil
        omega
      · simp [Rec.app, stS_n]
      · intro t
        rw [stS_sl]
        cases hw : wS rs t i with
        | some d =>
          obtain ⟨q, hq, hd, h4⟩ := wS_some (rs := rs) (t := t) (j := i) (by rw [hw]; simp)
          rw [hre] at hq
          cases hq
          rw [hw] at h4
          cases h4
          rw [lastW_add hS' hw (by omega) fun j h1 h2 h3 => ?_]
          · simp [Rec.app, hd, lkp_upd]
          · obtain ⟨q, hq, hd', _⟩ := wS_some h3
            rcases sep i j r q h1 hre hq with h | h
            · exact hlater j h (by omega)
            · have := apart1_dst h.1 hd
              simp [Rec.names, hd'] at this
        | none =>
          rw [lastW_none hS' hw]
          have : ∀ t', r.dst = some t' → ¬ t = t' := fun t' ht' he => by subst he; simp [wS, hre, ht'] at hw
          simp only [Rec.app]
          cases hd : r.dst with
          | none => simp [stS_sl]
          | some t' => simp only [lkp_upd, this t' hd, if_false, stS_sl]
      · intro k
        rw [stS_ow]
        cases hw : wO rs k i with
        | some d =>
          obtain ⟨q, o2, hq, hd, h4⟩ := wO_some (rs := rs) (t := k) (j := i) (by rw [hw]; simp)
          rw [hre] at hq
          cases hq
          rw [hw] at h4
          cases h4
          rw [lastW_add hS' hw (by omega) fun j h1 h2 h3 => ?_]
          · have : lkU r.ow k = some d := by simpa [wO, hre] using hw
            simp only [Rec.app, lkO_app, this]
          · obtain ⟨q, o3, hq, hd', _⟩ := wO_some h3
            rcases sep i j r q h1 hre hq with h | h
            · exact hlater j h (by omega)
            · have := apart1_ow h.1 hd
              simp only [Rec.usesK, any_beq hd', Bool.or_true] at this
              cases this
        | none =>
          rw [lastW_none hS' hw]
          have : lkU r.ow k = none := by simpa [wO, hre] using hw
          simp only [Rec.app, lkO_app, this, stS_ow]
end
end Go.Sx

namespace Go.Sx
open Go.RowKit
def dumR : Rec := ⟨[], [], none, .any, [], []⟩
def barB (l : List Oper) (m : Nat) : Bool := (List.range l.length).all fun i => Nat.blt i m || ((List.range m).all fun j => memb j ((befs l []).getD i [])) && (Nat.beq i m || memb m ((befs l []).getD i []))
def barOK (s0 : St) (l : List Oper) (rs : List Rec) (s' : St) (rs2 : List Rec) : Bool :=
  noDef l && drawOK s0 l (rs ++ List.replicate (l.length - rs.length) dumR) && drawOK s' l (List.replicate (rs.length + 1) dumR ++ rs2) && barB l rs.length && Nat.blt rs.length l.length
/-- What an operation makes of a state. -/
def OpT (P : Program) (F : List Nat) (w0 : Base) (o : Oper) (s s' : St) : Prop := ∀ h e a w, Den F w0 s h e a w → ∀ (K : Act → World → Prop) (Q : Exit → Act → World → Prop), (∀ h' e' a' w', Den F w0 s' h' e' a' w' → K a' w') → o.wp P a w K Q

section
variable {P : Program} {F : List Nat} {w0 : Base} {Q fin : Exit → Act → World → Prop} {l : List Oper} {s0 s : St} {rs : List Rec} {id : Nat} {k : List It}

theorem Leq.rfl' {a : St} : Leq a a := ⟨rfl, fun _ => rfl, fun _ => rfl⟩
theorem Leq.dum (a : St) : Leq a (dumR.app a) := ⟨rfl, fun _ => rfl, fun _ => rfl⟩

structure KnownG (lo : Nat) (P : Program) (F : List Nat) (w0 : Base) (l : List Oper) (s0 : St) (rs : List Rec) (rest : List Oper) (s : St) : Prop where
  rest : rest = l.drop rs.length
  ord : InOrder s0 rs
  sem : ∀ (j : Nat) (r : Rec) (o : Oper), lo ≤ j → rs[j]? = some r → l[j]? = some o → OpSem P F w0 l.toArray s0.n o r
  now : Leq s (stS s0 rs (fun _ => true) rs.length)

theorem KnownG.snoc {lo : Nat} {rest : List Oper} {o : Oper} {r : Rec} {s' : St} (K : KnownG lo P F w0 l s0 rs (o :: rest) s) (h1 : ∀ p ∈ r.slots, lkp s.sl p.1 = p.2) (h2 : ∀ p ∈ r.keys, lkO s.ow p.1 = some p.2)
    (h3 : OpSem P F w0 l.toArray s.n o r) (h4 : Leq s' (r.app s)) : KnownG lo P F w0 l s0 (rs ++ [r]) rest s' := by
  have hn : s.n = s0.n := K.now.1.trans (by rw [stS_n])
  have hat : l[rs.length]? = some o := by
    have := congrArg (·[0]?) K.rest
    simpa using this.symm
  refine ⟨?_, fun j q hq => ?_, fun j q o' hlo hq ho' => ?_, ?_⟩
  · have := congrArg List.tail K.rest
    simpa using this
  · by_cases hj : j < rs.length
    · rw [List.getElem?_append_left hj] at hq
      rw [stS_append rs [r] _ j (by omega)]
      exact K.ord j q hq
    · have hjl : j = rs.length := by
        have := (List.getElem?_eq_some_iff.1 hq).1
        simp at this
        omega
      subst hjl
      simp only [List.getElem?_append_right (Nat.le_refl _), Nat.sub_self, List.getElem?_cons_zero, Option.some.injEq] at hq
      subst hq
      rw [stS_append rs [r] _ _ (Nat.le_refl _)]
      exact ⟨fun p hp => by rw [← K.now.2.1]; exact h1 p hp, fun p hp => by rw [← K.now.2.2]; exact h2 p hp⟩
  · by_cases hj : j < rs.length
    · rw [List.getElem?_append_left hj] at hq
      exact K.sem j q o' hlo hq ho'
    · have hjl : j = rs.length := by
        have := (List.getElem?_eq_some_iff.1 hq).1
        simp at this
        omega
      subst hjl
      simp only [List.getElem?_append_right (Nat.le_refl _), Nat.sub_self, List.getElem?_cons_zero, Option.some.injEq] at hq
      subst hq
      rw [hat] at ho'
      cases ho'
      rw [← hn]
      exact h3
  · refine h4.trans ?_
    simp only [List.length_append, List.length_cons, List.length_nil, Nat.zero_add, stS, List.getElem?_append_right (Nat.le_refl _), Nat.sub_self, List.getElem?_cons_zero, if_true]
    rw [stS_append rs [r] _ _ (Nat.le_refl _)]
    exact K.now.app r

theorem runDq_auxG {lo : Nat} : ∀ {r r' : List Oper} {s s' : St} {p : List Prop} {rs : List Rec}, runQ P l r s = (p, s', r') → allP p → KnownG lo P F w0 l s0 rs r s → KnownG lo P F w0 l s0 (rs ++ recsOf P l r s) r' s'
  | [], _, _, _, _, _, h, _, K => by
    simp only [runQ, Prod.mk.injEq] at h
    obtain ⟨_, rfl, rfl⟩ := h
    simpa [recsOf] using K
  | o :: r, r', s, s', p, rs, h, hp, K => by
    simp only [runQ] at h
    simp only [recsOf]
    split at h
    · rename_i p1 s1 h1
      generalize hrec : runQ P l r s1 = res at h
      obtain ⟨q, s2, r2⟩ := res
      simp only [Prod.mk.injEq] at h
      obtain ⟨rfl, rfl, rfl⟩ := h
      have hp' := allP_append.1 hp
      obtain ⟨g1, g2⟩ := semA (F := F) (w0 := w0) h1 hp'.1
      have K1 := K.snoc recA_reads.1 recA_reads.2 g1 g2
      have := runDq_auxG hrec hp'.2 K1
      simp only [h1]
      simpa [List.append_assoc] using this
    · rename_i h1
      simp only [Prod.mk.injEq] at h
      obtain ⟨_, rfl, rfl⟩ := h
      simp only [h1]
      simpa using K

theorem stS_dum (m : Nat) (S : Nat → Bool) (rs2 : List Rec) : ∀ j, (∀ i, m ≤ i → i < j → S i = false) → Leq s (stS s (List.replicate m dumR ++ rs2) S j)
  | 0, _ => Leq.rfl'
  | j + 1, h => by
    have ih := stS_dum m S rs2 j fun i h1 h2 => h i h1 (by omega)
    simp only [stS]
    by_cases hj : j < m
    · rw [List.getElem?_append_left (by simpa using hj), List.getElem?_replicate, if_pos hj]
      simp only
      cases S j
      · exact ih
      · exact ih.trans (Leq.dum _)
    · rw [h j (by omega) (by omega)]
      cases (List.replicate m dumR ++ rs2)[j]? with
      | none => exact ih
      | some r => exact ih

theorem stS_pre (rs2 : List Rec) : ∀ j, stS s0 (rs ++ rs2) (fun i => decide (i < rs.length)) (rs.length + j) = stS s0 rs (fun _ => true) rs.length
  | 0 => by
    rw [Nat.add_zero, stS_append rs rs2 _ _ (Nat.le_refl _)]
    have : ∀ j, j ≤ rs.length → stS s0 rs (fun i => decide (i < rs.length)) j = stS s0 rs (fun _ => true) j := by
      intro j
      induction j with
      | zero => intro _; rfl
      | succ j ih =>
        intro hj
        simp only [stS, ih (by omega), show j < rs.length by omega, decide_true]
    exact this _ (Nat.le_refl _)
  | j + 1 => by
    have ih := stS_pre rs2 j
    rw [← Nat.add_assoc]
    simp only [stS, show ¬ rs.length + j < rs.length by omega, decide_false]
    rw [ih]
    cases (rs ++ rs2)[rs.length + j]? <;> rfl

theorem barB_ok {m : Nat} (h : barB l m = true) : (∀ i, m ≤ i → i < l.length → ∀ j, j < m → j ∈ (befs l []).getD i []) ∧ ∀ i, m < i → i < l.length → m ∈ (befs l []).getD i [] := by
  have key : ∀ i, m ≤ i → i < l.length → (∀ j, j < m → j ∈ (befs l []).getD i []) ∧ (i = m ∨ m ∈ (befs l []).getD i []) := fun i h1 h2 => by
    have := (List.all_eq_true.1 h) i (List.mem_range.2 h2)
    simp only [Bool.or_eq_true, Bool.and_eq_true] at this
    rcases this with h3 | ⟨h3, h4⟩
    · have := blt_lt h3; omega
    · refine ⟨fun j hj => memb_iff.1 ((List.all_eq_true.1 h3) j (List.mem_range.2 hj)), ?_⟩
      rcases h4 with h4 | h4
      · exact .inl (Nat.eq_of_beq_eq_true h4)
      · exact .inr (memb_iff.1 h4)
  refine ⟨fun i h1 h2 => (key i h1 h2).1, fun i h1 h2 => ?_⟩
  rcases (key i (by omega) h2).2 with h3 | h3
  · omega
  · exact h3

theorem runDbar {o : Oper} {rest : List Oper} {s' s'' : St} {p : List Prop} (hm : P.follows .mixedOrders = true) (hgd : o.guard = none) (hop : OpT P F w0 o s s') (hq : runQ P l rest s' = (p, s'', [])) (hp : allP p)
    (hc : barOK s0 l rs s' (recsOf P l rest s') = true) (hn' : Nat.beq s.n s'.n = true) (h : Run P F w0 fin k s'') : RunD P F w0 (post P w0.rd fin k) id l s0 rs (o :: rest) s := fun K h' e a w D => by
  simp only [barOK, Bool.and_eq_true] at hc
  obtain ⟨⟨⟨⟨hnd, hc1⟩, hc2⟩, hb⟩, hml⟩ := hc
  have hml := blt_lt hml
  obtain ⟨hb1, hb2⟩ := barB_ok hb
  have hn' := Nat.eq_of_beq_eq_true hn'
  have hat : l[rs.length]? = some o := by
    have := congrArg (·[0]?) K.rest
    simpa using this.symm
  have hlt : edgesLt l l.length = true := by
    simp only [drawOK, Bool.and_eq_true] at hc1
    exact hc1.1.2
  have hrep : ∀ j, (Array.replicate l.length false).getD j false = false := fun j => by
    simp only [Array.getD_eq_getD_getElem?, Array.getElem?_replicate]
    split <;> rfl
  -- phase 2
  have K2 : KnownG (rs.length + 1) P F w0 l s' (List.replicate (rs.length + 1) dumR ++ recsOf P l rest s') [] s'' := by
    refine runDq_auxG hq hp ⟨?_, fun j r hj => ?_, fun j r o' hlo hj => ?_, ?_⟩
    · have := congrArg List.tail K.rest
      simpa using this
    · rw [List.getElem?_replicate] at hj
      split at hj
      · cases hj; exact ⟨fun p hp => by simp [dumR] at hp, fun p hp => by simp [dumR] at hp⟩
      · cases hj
    · rw [List.getElem?_replicate, if_neg (by omega)] at hj; cases hj
    · have := stS_dum (s := s') (rs.length + 1) (fun _ => true) [] (List.replicate (rs.length + 1) dumR).length (fun i h1 h2 => by simp at h2; omega)
      simpa using this
  have hlen2 : (List.replicate (rs.length + 1) dumR ++ recsOf P l rest s').length = l.length := by
    simp only [drawOK, Bool.and_eq_true] at hc2
    exact Nat.eq_of_beq_eq_true hc2.1.1
  refine wpIn_region_any hm (wpAnyS_in hnd ?_)
  refine draw_ph (P := P) (F := F) (w0 := w0) (rs := rs ++ List.replicate (l.length - rs.length) dumR) (s0 := s0) 0 rs.length (by omega) hb1 hc1 (fun j r hj => ?_) (fun j r o' _ hj hr ho' => ?_) (fun fuel listed hsz hdc hl hset h1 e1 a1 w1 D1 => ?_) l.length (Array.replicate l.length false) (by simp)
    (fun i o _ hi => by rw [hrep] at hi; cases hi) (fun j hj => by omega) (fun j _ => hrep j) ?_ h' e a _ ?_
  · by_cases hjl : j < rs.length
    · rw [List.getElem?_append_left hjl] at hj
      rw [stS_append rs _ _ j (by omega)]
      exact K.ord j r hj
    · rw [List.getElem?_append_right (by omega), List.getElem?_replicate] at hj
      split at hj
      · cases hj; exact ⟨fun p hp => by simp [dumR] at hp, fun p hp => by simp [dumR] at hp⟩
      · cases hj
  · rw [List.getElem?_append_left hj] at hr
    exact K.sem j r o' hr ho'
  · -- the barrier
    have D1' : Den F w0 s h1 e1 a1 w1 := by
      have e2 : (rs ++ List.replicate (l.length - rs.length) dumR).length = rs.length + (l.length - rs.length) := by simp
      rw [e2, stS_pre] at D1
      exact D1.congr K.now.1.symm (fun t => (K.now.2.1 t).symm) fun t => (K.now.2.2 t).symm
    cases fuel with
    | zero =>
      have := left_zero (Nat.le_zero.1 hl) rs.length hml
      rw [hset _ hml] at this
      simp at this
    | succ fuel =>
      refine ⟨fun hr => ?_, fun i hi => ?_⟩
      · exfalso
        have : rs.length ∈ Region.ready .any l.toArray listed := by
          rw [mem_ready]
          refine ⟨?_, o, by simpa using hat, fun ed he hb => ?_⟩
          · have := hset _ hml
            simp only [Nat.lt_irrefl, decide_false] at this
            simpa [Array.getD_eq_getD_getElem?, show rs.length < listed.size by omega] using this
          · have hee : ed.on ∈ edgesOf o := List.mem_map.2 ⟨ed, List.mem_filter.2 ⟨by simpa using he, hb⟩, rfl⟩
            have hlt' := edgesLt_spec hlt rs.length _ hml hat _ hee
            have := hset ed.on (by omega)
            rw [this]
            simpa using hlt'
        rw [hr] at this
        cases this
      · rw [mem_ready] at hi
        obtain ⟨hu, o', ho, hedge⟩ := hi
        have ho' : l[i]? = some o' := by simpa using ho
        have hil : i < l.length := (List.getElem?_eq_some_iff.1 ho').1
        have hu' : listed.getD i false = false := by simpa [Array.getD_eq_getD_getElem?, show i < listed.size by omega] using hu
        have him : ¬ i < rs.length := fun hc => by
          have := hset i hil
          rw [hu'] at this
          simp [hc] at this
        have hi : i = rs.length := by
          by_cases hx : i = rs.length
          · exact hx
          · have hed : ∀ ed ∈ edgesOf o', listed.getD ed false = true := fun ed he => by
              obtain ⟨x, hx, rfl⟩ := List.mem_map.1 he
              obtain ⟨h1, h2⟩ := List.mem_filter.1 hx
              exact hedge x (by simpa using h1) h2
            have := DC_bef hlt hdc i i (Nat.le_refl _) o' ho' hed _ (hb2 i (by omega) hil)
            rw [hset _ hml] at this
            simp at this
        subst hi
        rw [hat] at ho'
        cases ho'
        have hS' : ∀ j, (listed.setIfInBounds rs.length true).getD j false = (listed.getD j false || decide (j = rs.length)) := fun j => by
          by_cases hji : j = rs.length
          · subst hji; simp [Array.getD_eq_getD_getElem?, show rs.length < listed.size by omega]
          · rw [getD_set_ne false (fun e => hji e.symm)]; simp [hji]
        have hout : ∀ j, l.length ≤ j → listed.getD j false = false := fun j hj => by
          simp [Array.getD_eq_getD_getElem?, show ¬ j < listed.size by omega]
        have goal : o.wp P a1 w1 (wpAnyS P .any l.toArray (post P w0.rd fin k) fuel (listed.setIfInBounds rs.length true)) (post P w0.rd fin k) := by
          refine hop h1 e1 a1 w1 D1' _ _ fun h2 e2 a2 w2 D2 => ?_
          refine draw_ph (P := P) (F := F) (w0 := w0) (rs := List.replicate (rs.length + 1) dumR ++ recsOf P l rest s') (s0 := s') (rs.length + 1) l.length (Nat.le_refl _) (fun i h1 h2 => by omega) hc2 K2.ord (fun j r o' hlo _ hj ho' => K2.sem j r o' hlo hj ho')
            (fun fuel2 listed2 hsz2 hdc2 hl2 hset2 h3 e3 a3 w3 D3 => ?_) fuel _ (by simp [hsz]) ?_ (fun j hj => ?_) (fun j hj => ?_) ?_ h2 e2 a2 w2 ?_
          · have hr : Region.ready .any l.toArray listed2 = [] := by
              cases hr : Region.ready .any l.toArray listed2 with
              | nil => rfl
              | cons i r =>
                have hi : i ∈ Region.ready .any l.toArray listed2 := by rw [hr]; simp
                rw [mem_ready] at hi
                obtain ⟨q1, o2, q2, _⟩ := hi
                have hil : i < l.length := by
                  have := (Array.getElem?_eq_some_iff.1 q2).1
                  simpa using this
                have := hset2 i hil
                simp only [hil, decide_true] at this
                simp [Array.getD_eq_getD_getElem?, show i < listed2.size by omega] at this q1
                rw [this] at q1
                cases q1
            have hall : (fun j => decide (j < l.length)) = fun j => decide (j < (List.replicate (rs.length + 1) dumR ++ recsOf P l rest s').length) := by rw [hlen2]
            have hQ : post P w0.rd fin k .normal a3 w3 := by
              refine h h3 e3 a3 w3 (D3.congr ?_ (fun t => ?_) fun t => ?_)
              · rw [stS_n]; exact (K2.now.1.trans (by rw [stS_n])).symm
              · rw [K2.now.2.1, stS_sl, stS_sl]
                congr 1
                exact lastW_congr fun j hj _ => by rw [← hlen2]; simpa using hj
              · rw [K2.now.2.2, stS_ow, stS_ow]
                have : lastW (wO (List.replicate (rs.length + 1) dumR ++ recsOf P l rest s') t) (fun j => decide (j < l.length)) (List.replicate (rs.length + 1) dumR ++ recsOf P l rest s').length = lastW (wO (List.replicate (rs.length + 1) dumR ++ recsOf P l rest s') t) (fun _ => true) (List.replicate (rs.length + 1) dumR ++ recsOf P l rest s').length :=
                  lastW_congr fun j hj _ => by rw [← hlen2]; simpa using hj
                rw [this]
            cases fuel2 with
            | zero => exact ⟨hr, hQ⟩
            | succ f => exact ⟨fun _ => hQ, fun i hi => by rw [hr] at hi; cases hi⟩
          · intro j oj hoj hj ed hed'
            rw [hS'] at hj
            rw [hS']
            by_cases hji : j = rs.length
            · subst hji
              rw [hat] at hoj
              cases hoj
              have hlt' := edgesLt_spec hlt rs.length _ hml hat _ hed'
              have := hset ed (by omega)
              rw [this]
              simp [hlt']
            · simp only [hji, decide_false, Bool.or_false] at hj
              simp [hdc j oj hoj hj ed hed']
          · rw [hS']
            by_cases hji : j = rs.length
            · simp [hji]
            · rw [hset j (by omega)]; simp; omega
          · rw [hS', hout j hj]; simp; omega
          · have := left_set (listed := listed) (i := rs.length) (by omega) hu' (n := l.length) hml
            omega
          · have := stS_dum (s := s') (rs.length + 1) (fun j => (listed.setIfInBounds rs.length true).getD j false) (recsOf P l rest s') (List.replicate (rs.length + 1) dumR ++ recsOf P l rest s').length fun i h1 h2 => by
              rw [hS', hset i (by omega)]
              simp; omega
            exact D2.congr this.1 this.2.1 this.2.2
        unfold wpOpS
        simp only [ho]
        rw [if_pos (by simp [Region.wanted, hgd])]
        exact goal
  · have : ∀ n, left (Array.replicate l.length false) n = n := fun n => by induction n with
      | zero => rfl
      | succ n ih => simp only [left, hrep, ih]; simp; omega
    rw [this]
    exact Nat.le_refl _
  · have : (fun j => (Array.replicate l.length false).getD j false) = fun _ => false := funext hrep
    rw [this]
    refine (show Den F w0 s0 h' e a w.drew from D.drew).congr (by rw [stS_n]) (fun t => ?_) fun t => ?_
    · rw [stS_sl]
      have : ∀ rs : List Rec, ∀ n, lastW (wS rs t) (fun _ => false) n = none := fun rs n => by induction n with
        | zero => rfl
        | succ n ih => simp [lastW, ih]
      rw [this]; rfl
    · rw [stS_ow]
      have : ∀ rs : List Rec, ∀ n, lastW (wO rs t) (fun _ => false) n = none := fun rs n => by induction n with
        | zero => rfl
        | succ n ih => simp [lastW, ih]
      rw [this]
end
end Go.Sx

/-! SxKg: append of a string to an own slice of bytes; an interface value asked for another interface; calls of methods, with own objects, in regions that draw. -/
namespace Go.Sx
open Go.RowKit
section
variable {P : Program} {F : List Nat} {w0 : Base} {s : St} {h : Hp} {e : Nm} {a : Act} {w : World} {Q fin : Exit → Act → World → Prop} {ops : Array Oper} {rest : List Oper}

theorem strCells_get (b : ByteArray) (i : Nat) (hi : i < b.size) : cut (Lib.strCells b) (i * 1) 1 = [.int .u8 ((b.data.toList.getD i 0).toNat : Int)] := by
  have hl : i < b.data.toList.length := by simpa using hi
  simp only [cut, Nat.mul_one, Lib.strCells]
  rw [List.getD_eq_getElem?_getD, List.getElem?_eq_getElem hl]
  rw [← List.map_drop, ← List.map_take]
  have : (b.data.toList.drop i).take 1 = [b.data.toList[i]] := by
    rw [List.drop_eq_getElem_cons hl]; rfl
  rw [this]; rfl

def apsS (s : St) (t k te n m : Nat) (f g : Nat → SD) : Option St :=
  bif Nat.blt t s.n && noMap k s.ow then some ⟨s.n, s.nx, upd (purgeS k s.sl) t (.acc k), upd (purgeO k s.ow) k (.acc te 1 (n + m) (joinF n f g))⟩ else none

/-- append(x, y...), x an own slice of bytes, y a string. -/
theorem stepapS {t T U te k n : Nat} {f : Nat → SD} {x y : Operand} {b : ByteArray} {ty : Nat} {pos : String} {af : Array Edge} {i : TypeInfo} {s' : St} (hx : ev s x = .acc k) (hy : unG s y = .str b) (hg : allP (gCs s [y] []))
    (ho : lkO s.ow k = some (.acc te 1 n f)) (hT : P.underlying T = some (.slice te)) (hU : P.underlying U = some .string) (hi : P.info? te = some i) (hz : i.zero = some (.int .u8 0)) (h1 : i.size = 1) (h2 : i.bytes = 1)
    (hb : n + b.size ≤ 68719476736) (hs : apsS s t k te n b.size f (byF b.data.toList) = some s')
    (hn : RunL P F w0 ops Q rest s') : RunL P F w0 ops Q (⟨some t, .call ⟨.builtin .append, #[x, y], #[T, U]⟩, ty, pos, af, none⟩ :: rest) s := fun h e a w D => by
  unfold apsS at hs
  cases hfr : (Nat.blt t s.n && noMap k s.ow)
  · rw [hfr] at hs; cases hs
  rw [hfr] at hs
  simp only [cond_true, Option.some.injEq] at hs
  subst hs
  simp only [Bool.and_eq_true] at hfr
  obtain ⟨f1, f3⟩ := hfr
  have ht := blt_lt f1
  have hxv := D.ev x
  rw [hx] at hxv
  simp only [rep] at hxv
  have hyv : a.eval y = .string b := by
    have := D.unG hg (show y ∈ [y] by simp)
    rw [hy] at this
    simpa only [rep] using this
  obtain ⟨xs, o1, o2, o3⟩ := D.own k _ ho
  have hxl := o1.1
  obtain ⟨v', w', r1, r2, r3, r4⟩ := Lib.run_append_own_string (P := P) w 0 T U ty te i hT hU hi hz h1 h2 (e.hd k) n xs o1 b (by simp only [maxLen]; omega) (by omega) (Nat.zero_le _)
  have hexec : (execOp a.eval ⟨some t, .call ⟨.builtin .append, #[x, y], #[T, U]⟩, ty, pos, af, none⟩).run P w = .ok (.value v') w' := by
    simp only [execOp, resolve, invoke, builtin, Sem.run_bind, Sem.run_pure, Result.andThen_ok, List.map_toArray, List.map_cons, List.map_nil, hxv.1, hyv, r1]
  refine wpS_plain rfl fun K hK => ?_
  unfold Oper.wp
  rw [hexec]
  obtain ⟨Dp, hNo⟩ := D.purge (k := k) f3
  have r5 : v'.ownBlock = (e.hd k).ownBlock ∨ v'.ownBlock = some w.heap.size := by
    have key : ∀ v2 w2, (Builtin.append_ #[T, U] ty #[e.hd k, .string b]).run P w = .ok v2 w2 → v' = v2 := fun v2 w2 hr => by
      rw [r1] at hr
      simp only [Result.ok.injEq] at hr
      exact hr.1
    rcases o1.2 with ⟨hv, hn0⟩ | ⟨g, cap, cur, hv, hbg, hg', hnc, hcm, hcs, htake⟩
    · by_cases hm : b.size = 0
      · left
        rcases r2.2 with ⟨hv', _⟩ | ⟨g, cap, cur, hv', _⟩
        · rw [hv', hv]
        · have := (r4.2 ⟨hv, hm⟩)
          rw [this, hv]
      · right
        have hr := run_append_nil_string (P := P) w T U ty te i (.int .u8 0) hT hU hi hz b (by omega) (by omega) (by rw [h2]; omega)
        rw [hv] at key
        rw [key _ _ hr]
        rfl
    · by_cases hroom : n + b.size ≤ cap
      · left
        have hr := Lib.run_append_room_string (P := P) w T U ty te i hT hU hi h1 g n cap cur hg' b hroom (by have hcs2 : cur.size = cap := by { simpa using hcs }; omega)
        rw [hv] at key
        rw [key _ _ hr, hv]
        rfl
      · right
        have holds : ∀ j u, xs[j]? = some u → w.cell? ((⟨g, 0, none⟩ : Addr).add j) = some u := o1.cells (g := g) (by rw [hv]; rfl)
        have hr := Lib.run_append_grow_string (P := P) w T U ty te i (.int .u8 0) hT hU hi hz ⟨g, 0, none⟩ n cap xs (by rw [h1]; simpa using hxl) holds b (by omega) (by omega) (by rw [h2]; exact growslice_fits (by omega) (by omega))
        rw [hv] at key
        rw [key _ _ hr]
        rfl
  have D1 := Dp.acc' (k := k) (T := te) (es := 1) (n := n + b.size) (f := joinF n f (byF b.data.toList)) (v' := v') (w' := w') (row := (e.hd k).ownBlock) hNo ?_ (fun c hb => ?_) (fun c hb => ?_) r3
  · have D2 := D1.put (i := t) (d := .acc k) (v := v') ht ?_
    · exact hK _ _ (hn _ _ _ _ (D2.congr rfl (fun _ => rfl) fun _ => rfl))
    · simp only [rep, Nm.setH, if_true]
      refine ⟨trivial, ?_⟩
      rcases r2.2 with ⟨hv, _⟩ | ⟨g, cap, cur, hv, _⟩
      · exact ⟨none, 0, 0, hv⟩
      · exact ⟨_, _, _, hv⟩
  · refine ⟨xs ++ Lib.strCells b, ?_, hb, join_ok (es := 1) hxl ?_ ?_⟩
    · simp only [Nm.setH, if_true]
      exact r2
    · exact o3
    · intro j hj
      exact ⟨.int .u8 ((b.data.toList.getD j 0).toNat : Int), fun _ => by simp only [byF, rep], by rw [strCells_get b j hj]; rfl, rfl, fun c hc => by simp [Value.cells] at hc; subst hc; rfl⟩
  · refine ⟨(D.ownb k _ c ho (by simpa [OB.blk] using hb)).1, (D.ownb k _ c ho (by simpa [OB.blk] using hb)).2, fun j o' hjk hj hc => ?_⟩
    obtain ⟨o0, g1, g2, _⟩ := lkO_purge k _ j o' hj
    rw [g2.blk] at hc
    exact D.apart j k o0 _ c hjk g1 ho hc (by simpa [OB.blk] using hb)
  · rcases r5 with hr | hr
    · rw [hr] at hb; exact .inl hb
    · rw [hr] at hb; cases hb; exact .inr rfl
theorem stepapS' {t T U te k n : Nat} {f : Nat → SD} {x y : Operand} {b : ByteArray} {ty : Nat} {pos : String} {af : Array Edge} {s' : St} (hx : ev s x = .acc k) (hy : unG s y = .str b) (hg : allP (gCs s [y] []))
    (ho : lkO s.ow k = some (.acc te 1 n f)) (hT : P.underlying T = some (.slice te)) (hU : P.underlying U = some .string) (hI : (P.info? te).map (fun i => (i.zero, i.size, i.bytes)) = some (some (.int .u8 0), 1, 1))
    (hb : n + b.size ≤ 68719476736) (hs : apsS s t k te n b.size f (byF b.data.toList) = some s')
    (hn : RunL P F w0 ops Q rest s') : RunL P F w0 ops Q (⟨some t, .call ⟨.builtin .append, #[x, y], #[T, U]⟩, ty, pos, af, none⟩ :: rest) s := by
  obtain ⟨i, h1, h2⟩ := Option.map_eq_some_iff.1 hI
  simp only [Prod.mk.injEq] at h2
  exact stepapS hx hy hg ho hT hU h1 h2.1 h2.2.1 h2.2.2 hb hs hn

/-- An interface value asked for another interface, which its type has. -/
def AsP (P : Program) (tx T : Nat) : Prop := ∀ (v : Value) (X : Nat) (w : World), (Instr.typeAssert (.iface tx v) X T true).run P w = .ok (.tuple #[.iface tx v, .bool true]) w
theorem stepta {t X T tx : Nat} {x : Operand} {d : SD} {ty : Nat} {pos : String} {af : Array Edge} {s' : St} (hm : AsP P tx T) (hx : ev s x = .iface tx d) (hs : cstep s t (.tup [.iface tx d, .bool true]) = some s')
    (hn : RunL P F w0 ops Q rest s') : RunL P F w0 ops Q (⟨some t, .typeAssert x X T true, ty, pos, af, none⟩ :: rest) s := fun h e a w D => by
  obtain ⟨ht, rfl⟩ := cstep_ok hs
  have hv := D.ev x
  rw [hx] at hv
  simp only [rep] at hv
  obtain ⟨u, hu, hd⟩ := hv
  refine wpS_plain rfl fun K hK => ?_
  unfold Oper.wp
  have hex : (execOp a.eval ⟨some t, .typeAssert x X T true, ty, pos, af, none⟩).run P w = .ok (.value (.tuple #[.iface tx u, .bool true])) w := by
    simp only [execOp, hu, Sem.run_bind, hm u X w, Result.andThen_ok]
    rfl
  rw [hex]
  refine hK _ _ (hn _ _ _ _ (D.put ht ?_))
  simp only [rep, repT]
  exact ⟨_, rfl, _, _, rfl, ⟨u, rfl, hd⟩, _, _, rfl, rfl, rfl⟩

/-- A call of a method of an interface value, with own objects, as a barrier. -/
theorem opT_invM {f t tx : Nat} {name : String} {x : Operand} {d0 : SD} {args : Array Operand} {tys : Array Nat} {ty : Nat} {pos : String} {af : Array Edge} {R : List SD → List OB → SD → List (Nat × OB) → Prop} (ks : List Nat) {ds : List SD} {os : List OB} {d : SD} {os' : List (Nat × OB)} {s' : St} (hm : MethP P tx name f) (hf : FnM P f R)
    (hx : ev s x = .iface tx d0) (hd0 : isPtr d0 = true)
    (hnd : nodupB ks = true) (ha : renL (tau ks) (d0 :: args.toList.map (unG s)) = ds) (hal : allNL (fun x => memb x ks) (fun x => memb x ks) (d0 :: args.toList.map (unG s)) = true) (ho : osOf s ks ks = some os) (hg : allP (gCs s args.toList [])) (hR : R ds os d os')
    (hs : callMD s t ks os d os' = some s') : OpT P F w0 ⟨some t, .call ⟨.invoke x name, args, tys⟩, ty, pos, af, none⟩ s s' := fun h e a w D K Q hK => by
  have hv := D.ev x
  rw [hx] at hv
  simp only [rep] at hv
  obtain ⟨u, hu, hd⟩ := hv
  obtain ⟨ad, rfl⟩ := isPtr_ok hd0 hd
  unfold Oper.wp
  rw [inv_run hm hu]
  refine (D.pass (passM hnd ha hal ho) hf hR (vs := .pointer (some ad) :: args.toList.map a.eval) (by simp only [repT]; exact ⟨_, _, rfl, hd, repT_args D (allP_gCs hg).1 fun _ hx => hx⟩)).mono fun en w' hq => ?_
  obtain ⟨v, h', e', rfl, D'⟩ := D.afterM ho hs hq
  exact hK _ _ _ _ D'
/-- The check of a method's value whose receiver is behind an interface. -/
def NaP (P : Program) (tx : Nat) (name : String) : Prop := ∀ (a : Addr) (w : World), (nilAhead (P.types.size + Made.depth) tx (.pointer (some a)) name).run P w = .ok (some false) w
theorem ncm_run {tx : Nat} {name : String} (hna : NaP P tx name) {x : Operand} {ad : Addr} {t : Option Nat} {ty : Nat} {pos : String} {af : Array Edge} {g : Option (Nat × Bool)} (hx : a.eval x = .func (.method name) #[.iface tx (.pointer (some ad))] #[]) :
    (execOp a.eval ⟨t, .nilCheck x, ty, pos, af, g⟩).run P w = .ok (.value (.func (.method name) #[.iface tx (.pointer (some ad))] #[])) w := by
  have h1 : (program).run P w = .ok P w := rfl
  simp [execOp, hx, h1, hna ad w]
theorem runDncm {id : Nat} {l : List Oper} {s0 : St} {rs : List Rec} {t tx : Nat} {x : Operand} {name : String} {d0 : SD} {ty : Nat} {pos : String} {af : Array Edge} {s' : St} (hna : NaP P tx name) (hx : ev s x = .bfn (.method name) [.iface tx d0]) (hd0 : isPtr d0 = true)
    (hs : cstep s t (.bfn (.method name) [.iface tx d0]) = some s') (hn : RunD P F w0 Q id l s0 (rs ++ [⟨readS s (tmpsOf [x]), [], some t, .bfn (.method name) [.iface tx d0], [], []⟩]) rest s') :
    RunD P F w0 Q id l s0 rs (⟨some t, .nilCheck x, ty, pos, af, none⟩ :: rest) s := fun K => by
  obtain ⟨ht, rfl⟩ := cstep_ok hs
  refine hn (K.snoc readS_ok (fun p hp => by simp at hp) (fun σ hnn h1 _ _ h e a w D K Q hK => ?_) ⟨rfl, fun _ => rfl, fun _ => rfl⟩)
  rw [if_pos (by simp [Region.wanted])]
  have hev := ev_agree (s := s) (s' := σ) (l := [x]) h1 x (by simp)
  have hv := D.ev x
  rw [hev, hx] at hv
  have hv0 := hv
  simp only [rep, repT] at hv
  obtain ⟨vs, hf, u, vs', rfl, ⟨u', rfl, hd⟩, rfl⟩ := hv
  obtain ⟨ad, rfl⟩ := isPtr_ok hd0 hd
  unfold Oper.wp
  rw [ncm_run hna hf]
  refine hK _ _ _ _ (D.put (i := t) (by rw [hnn]; exact ht) ?_)
  rw [hf] at hv0
  exact hv0
theorem SLe.anyT2 {d : SD} (n : SD) : SLe (.tup [n, d]) (.tup [.any, d]) := fun h e v x => by
  simp only [rep, repT] at x ⊢
  obtain ⟨vs, rfl, v1, r1, rfl, _, r2⟩ := x
  exact ⟨_, rfl, v1, r1, rfl, trivial, r2⟩
theorem SLe.any1 {d : SD} : SLe d .any := fun h e v x => by simp only [rep]
end
end Go.Sx

/-! SxRk: range over a function whose captured variables are one's own; iterators that range over functions themselves. -/
namespace Go.Sx
open Go.RowKit
open Go.ChangeMaps (setBlock)
section
variable {P : Program} {F : List Nat} {w0 : Base} {s : St} {h : Hp} {e : Nm} {a : Act} {w : World}
theorem run_rangeFuncO {fin : Exit → Act → World → Prop} {k : List It} {g : Operand} {ps : Array Nat} {as bd : Code} {gf : Nat} {caps caps' : List SD} (ks : List Nat) {os osu' : List OB} {pe : Option Code} {s2 : LR → Nat → St} (hrd : w0.rd = none)
    (hg : ev s g = .fn gf caps) (hcn : (!menL s.nx caps && !menL (s.nx + 1) caps) = true) (hcr : renL (tau (ks ++ [s.nx + 1])) caps = caps') (hca : allNL (fun x => memb x (ks ++ [s.nx + 1])) (fun x => memb x (ks ++ [s.nx + 1])) caps = true)
    (hfr : (s.free s.nx && s.free (s.nx + 1) && nodupB (ks ++ [s.nx + 1]) && !memb s.nx ks) = true)
    (hos : ∀ r K, osOf (rfS s r K) (ks ++ [s.nx + 1]) (ks ++ [s.nx + 1]) = some (os ++ [recO r .ready none]))
    (hit : ∀ (h0 : Hp) (bl : List Nat) (r : LR), r.ps = ps → r.as = as → r.bd = bd → r.tm.size = s.n → bl.length = os.length + 1 → Le w0.h h0 → (∀ j b, j < ks.length → getN ks j = 1000 + j → w0.fix[j]? = some b → bl[j]? = some b) →
      (∀ h e, Le h0 h → (∀ (i b : Nat), bl[i]? = some b → e.bs (1000 + i) = b) → ∀ t, rep h (lkp (entS s ks) t) e (r.tm.getD t undef)) →
      FnMA P gf h0 bl (fun ds o d o' => ds = .yld r.l :: caps' ∧ o = os ++ [recO r .ready none] ∧ d = .tup [] ∧ o' = enumO 1000 (osu' ++ [recO r (stE pe) pe])))
    (hs : ∀ r K, aftD (rfS s r K) (ks ++ [s.nx + 1]) (os ++ [recO r .ready none]) (enumO 1000 (osu' ++ [recO r (stE pe) pe])) = some (s2 r K))
    (hre : ∀ r K, lkO (s2 r K).ow (s.nx + 1) = some (recO r (stE pe) pe))
    (hK : ∀ r K, Run P F ⟨w0.b0, none, { target := .collected K, args := #[] } :: w0.ds⟩ fin (contK pe k) ⟨(s2 r K).n, (s2 r K).nx, (s2 r K).sl, del (s2 r K).ow (s.nx + 1)⟩) :
    Run P F w0 fin (.code (.rangeFunc g ps as bd) :: k) s := fun h e a w D => by
  show (Code.rangeFunc g ps as bd).wpIn (fe w0.rd) 0 P (post P w0.rd fin k) a w
  rw [hrd]
  simp only [Bool.and_eq_true] at hfr
  obtain ⟨⟨⟨f1, f2⟩, f3⟩, f4⟩ := hfr
  have hv := D.ev g
  rw [hg] at hv
  simp only [rep] at hv
  obtain ⟨vs, hv, hc⟩ := hv
  refine wpIn_rangeFunc fun fn _ => ?_
  show ∃ (l : Nat) (mark : List Deferred) (w₁ : World) (d : Deferred) (w₁' : World) (f : FuncId) (args : Array Value) (w₂ : World), _
  obtain ⟨r, hr⟩ : ∃ r : LR, r = ⟨w.heap.size + 1, fn, a.tmps, ps, as, bd, w.heap.size⟩ := ⟨_, rfl⟩
  have hrl : r.l = w.heap.size + 1 := by rw [hr]
  -- the world and the state with the two new blocks
  have D1 := D.newObj (k := s.nx) (m := ⟨none, 0, fun _ => false, fun _ => .any, some (.raw (.deferred (some [])) (some w.heap.size))⟩) (o := .deferred (some [])) (Free.of f1) ⟨rfl, fun b hb => by cases hb; rfl⟩ (s.nx + 1)
  have hsz1 : (w.alloc (.deferred (some []))).heap.size = w.heap.size + 1 := World.size_alloc _ _
  have F2 : Free ⟨s.n, s.nx + 1, s.sl, upd s.ow s.nx (rawOB (.deferred (some [])) (some w.heap.size))⟩ (s.nx + 1) := by
    have hF := Free.of f2
    refine ⟨hF.sl, fun j o hj => ?_, hF.lt⟩
    simp only [lkO_upd] at hj
    by_cases hjk : j = s.nx
    · simp only [hjk, if_true, Option.some.injEq] at hj
      subst hj
      exact ⟨by omega, (fun x hx => by simp [rawOB] at hx), fun kd x hx => by simp only [rawOB, OB.mp.injEq] at hx; rw [← hx.2]; rfl⟩
    · simp only [hjk, if_false] at hj
      exact hF.ow j o hj
  have D2 := Den.newObj (s := ⟨s.n, s.nx + 1, s.sl, upd s.ow s.nx (rawOB (.deferred (some [])) (some w.heap.size))⟩) D1 (k := s.nx + 1) (m := ⟨none, 0, fun _ => false, fun _ => .any, some (.raw (.loop (r.loop .ready none)) (some r.l))⟩) (o := .loop (r.loop .ready none)) F2 ⟨rfl, fun b hb => by cases hb; rw [hsz1, hrl]⟩ (s.nx + 2)
  generalize hw1 : (w.alloc (.deferred (some []))).alloc (.loop (r.loop .ready none)) = w1 at D2
  generalize he1 : (e.setB s.nx w.heap.size).setB (s.nx + 1) (w.alloc (.deferred (some []))).heap.size = e1 at D2
  change Den F w0 (rfS s r w.heap.size) h e1 a w1 at D2
  simp only [Bool.and_eq_true, Bool.not_eq_true'] at hcn
  have hcaps : repT h caps e1 vs := by
    rw [← he1]
    exact repT_but (Nm.but_setB _ _ _) caps vs hcn.2 (repT_but (Nm.but_setB _ _ _) caps vs hcn.1 hc)
  have hlen : (os ++ [recO r .ready none]).length = (ks ++ [s.nx + 1]).length := (osOf_ok (hos r w.heap.size)).1
  have hcon := hit h (fixO (e1.inn (ks ++ [s.nx + 1])) (os ++ [recO r .ready none])) r (by rw [hr]) (by rw [hr]) (by rw [hr]) (by rw [hr]; exact D.size) (by simp [fixO]) D.le (fun j b hj hjk hb => by
    have hi1 : j < (os ++ [recO r .ready none]).length := by rw [hlen]; simp; omega
    rw [fixO_get hi1]
    have q1 := (Free.of f1).lt
    have q2 := (Free.of f2).lt
    have hfx : e.bs (1000 + j) = b := D.fix j b hb
    simp only [Nm.inn, Nat.add_sub_cancel_left, getN_append _ _ _ hj, hjk]
    rw [← he1]
    simp [Nm.setB, show ¬ (1000 + j = s.nx) by omega, show ¬ (1000 + j = s.nx + 1) by omega, hfx]) (fun h' e' hl hbl t => by
    have htm : r.tm = a.tmps := by rw [hr]
    rw [htm]
    refine entS_ok D hl (fun i hi => ?_) t
    have hi1 : i < (os ++ [recO r .ready none]).length := by rw [hlen]; simp; omega
    have hb := hbl i _ (fixO_get hi1)
    rw [hb]
    simp only [Nm.inn, Nat.add_sub_cancel_left, getN_append _ _ _ hi]
    have hmem := getN_mem hi
    have n1 : getN ks i ≠ s.nx := fun hc => by
      rw [Bool.not_eq_true'] at f4
      have := memb_iff.2 hmem
      rw [hc, f4] at this
      cases this
    have n2 : getN ks i ≠ s.nx + 1 := fun hc => by
      have hnd := nodupB_ok f3
      have := (List.nodup_append.1 hnd).2.2 (getN ks i) hmem (s.nx + 1) (by simp)
      exact this hc
    rw [← he1]
    simp [Nm.setB, n1, n2])
  refine ⟨w.heap.size + 1, [{ target := .collected w.heap.size, args := #[] }], w1, { target := .fn (.func gf) vs.toArray, args := #[.func (.yield (w.heap.size + 1)) #[] #[]] }, w1, gf, #[.func (.yield (w.heap.size + 1)) #[] #[]] ++ vs.toArray, w1, ?_, ?_, fun f' _ => trivial, ?_, fun hh => (by cases hh), ?_⟩
  · rw [← hw1, hr]
    exact run_enterLoop_outer _ _ _ _ _
  · have hev : a.eval g = .func (.func gf) #[] vs.toArray := hv
    simp only [resolve, hev]
    simp [go_sem]
  · have hcl := hcon.call
    simp [invoke, go_sem, hcl]
  · have hyv : repT h (.yld r.l :: caps) e1 (.func (.yield (w.heap.size + 1)) #[] #[] :: vs) := by
      simp only [repT, rep]
      exact ⟨_, _, rfl, by rw [hrl], hcaps⟩
    have hpm := passM (s := rfS s r w.heap.size) (ks := ks ++ [s.nx + 1]) (ds0 := .yld r.l :: caps) (ds := .yld r.l :: caps') f3 (by simp only [renL, ren, hcr]) (by simp only [allNL, allN, Bool.true_and]; exact hca) (hos r w.heap.size)
    obtain ⟨q1, q2, q3, q4⟩ := D2.passF hpm hyv
    have hcalls := hcon.ok _ _ _ _ ⟨rfl, rfl, rfl, rfl⟩ h (e1.inn (ks ++ [s.nx + 1])) w1 _ D2.gh (Le.refl h) (fun i b hb => by
      have hi : i < (os ++ [recO r .ready none]).length := by
        have := (List.getElem?_eq_some_iff.1 hb).1
        simpa [fixO] using this
      rw [fixO_get hi] at hb
      simpa using hb) D2.sub q1 q2 q3 q4
    have harr : (Value.func (.yield (w.heap.size + 1)) #[] #[] :: vs).toArray = #[Value.func (.yield (w.heap.size + 1)) #[] #[]] ++ vs.toArray := by apply Array.ext'; simp
    rw [harr] at hcalls
    refine callsIn_wide.2 (hcalls.mono fun en w2 hq => ?_)
    obtain ⟨v, h', e'', rfl, D3⟩ := D2.aft (hos r w.heap.size) (hs r w.heap.size) hq
    obtain ⟨k1, k2⟩ := rawOk (D3.own _ _ (hre r w.heap.size))
    have k2 := k2 _ rfl
    have k1' : w2.heap[w.heap.size + 1]? = some (.loop (r.loop (stE pe) pe)) := by rw [← hrl, ← k2]; exact k1
    have hst : (r.loop (stE pe) pe).state ≠ .busy := by cases pe <;> simp [LR.loop, stE]
    refine ⟨pe, _, run_endLoop k1' hst, ?_⟩
    have D4 := D3.setMp (m' := ⟨none, 0, fun _ => false, fun _ => .any, some (.raw (.loop { r.loop (stE pe) pe with state := .exhausted }) (some r.l))⟩) (o' := .loop { r.loop (stE pe) pe with state := .exhausted }) (hre r w.heap.size) k1 ⟨rfl, fun b hb => by cases hb; exact k2⟩
    have D5 := (D4.drop (s.nx + 1)).base [{ target := .collected w.heap.size, args := #[] }] none
    simp only [del_upd] at D5
    rw [k2, hrl] at D5
    have hfinal := hK r w.heap.size _ _ _ _ D5
    cases pe with
    | none => exact hfinal
    | some c => exact hfinal
end
section
variable {P : Program} {F : List Nat} {b0 : Base0} {s : St} {k : List It} {fn : Func} {l : List ResultVar} {ds : List SD} {d : SD} {os' : List (Nat × OB)}
theorem leaves_retMX {h : Hp} {e : Nm} {a : Act} {w : World} (D : Den F b0.std s h e a w) (hr : fn.results = l.toArray) (hq : resL P s l = some ds) (hd : SLe (retD ds) d) (ho : subO s.ow os') : LeavesInM Fence.wide 0 P fn a.tmps (retPostM F b0 d os') a.defers .returning w := by
  obtain ⟨v, g1, g2⟩ := run_results D hr hq
  rw [show a.defers = [] from D.defers]
  exact ⟨v, g1, v, h, e, rfl, D.le, D.sub, D.keeps, D.neww, D.fix, hd h e _ g2, D.ownP ho⟩
theorem run_retMX (hr : fn.results = l.toArray) (hq : resL P s l = some ds) (hd : SLe (retD ds) d) (ho : subO s.ow os') : Run P F b0.std (finX P fn (retPostM F b0 d os')) (.code .ret :: k) s := fun h e a w D =>
  wpIn_ret (post_ret (leaves_retMX D hr hq hd ho))
theorem leaves_retMX1 (nK K : Nat) {h : Hp} {e : Nm} {a : Act} {w : World} (D : Den F ⟨b0, none, [{ target := .collected K, args := #[] }]⟩ s h e a w) (hk : lkO s.ow nK = some (rawOB (.deferred (some [])) (some K))) (hr : fn.results = l.toArray) (hq : resL P s l = some ds) (hd : SLe (retD ds) d)
    (ho : subO (upd s.ow nK (.mp ⟨none, 0, fun _ => false, fun _ => .any, some (.raw (.deferred none) none)⟩ [])) os') : LeavesInM Fence.wide 0 P fn a.tmps (retPostM F b0 d os') a.defers .returning w := by
  rw [show a.defers = [{ target := .collected K, args := #[] }] from D.defers]
  obtain ⟨k1, k2⟩ := rawOk (D.own _ _ hk)
  have k2 := k2 K rfl
  have D' := D.setMp (m' := ⟨none, 0, fun _ => false, fun _ => .any, some (.raw (.deferred none) none)⟩) (o' := .deferred none) hk k1 ⟨rfl, fun b hb => by cases hb⟩
  rw [k2] at D' k1
  refine ⟨by simp, .inl ⟨K, _, rfl, run_takeDeferred k1, ?_⟩⟩
  have hq' : resL P { s with ow := upd s.ow nK (.mp ⟨none, 0, fun _ => false, fun _ => .any, some (.raw (.deferred none) none)⟩ []) } l = some ds := by
    have hat : ∀ x l, atD s x = some l → atD { s with ow := upd s.ow nK (.mp ⟨none, 0, fun _ => false, fun _ => .any, some (.raw (.deferred none) none)⟩ []) } x = some l := fun x l hx => by
      cases x <;> simp only [atD] at hx ⊢ <;> try exact hx
      · rename_i j off
        simp only [lkO_upd]
        by_cases hj : j = nK
        · subst hj; rw [hk] at hx; simp [rawOB] at hx
        · simp only [hj, if_false]; exact hx
      · rename_i j es i off
        simp only [lkO_upd]
        by_cases hj : j = nK
        · subst hj; rw [hk] at hx; simp [rawOB] at hx
        · simp only [hj, if_false]; exact hx
    clear hr hd
    induction l generalizing ds with
    | nil => exact hq
    | cons x r ih =>
      simp only [resL] at hq ⊢
      split at hq
      · rename_i d1 ds1 h1 h2
        simp only [Option.some.injEq] at hq
        subst hq
        have hx : resD P { s with ow := upd s.ow nK (.mp ⟨none, 0, fun _ => false, fun _ => .any, some (.raw (.deferred none) none)⟩ []) } x = some d1 := by
          cases x <;> simp only [resD] at h1 ⊢
          · exact h1
          · split at h1
            · rename_i l0 hl0
              rw [hat _ _ hl0]
              exact h1
            · cases h1
        rw [hx, ih h2]
      · cases hq
  obtain ⟨v, g1, g2⟩ := run_results D' hr hq'
  exact ⟨v, g1, v, h, e, rfl, D'.le, D'.sub, D'.keeps, D'.neww, D'.fix, hd h e _ g2, D'.ownP ho⟩
theorem run_retMX1 (nK K : Nat) (hk : lkO s.ow nK = some (rawOB (.deferred (some [])) (some K))) (hr : fn.results = l.toArray) (hq : resL P s l = some ds) (hd : SLe (retD ds) d)
    (ho : subO (upd s.ow nK (.mp ⟨none, 0, fun _ => false, fun _ => .any, some (.raw (.deferred none) none)⟩ [])) os') : Run P F ⟨b0, none, [{ target := .collected K, args := #[] }]⟩ (finX P fn (retPostM F b0 d os')) (.code .ret :: k) s := fun h e a w D =>
  wpIn_ret (post_ret (leaves_retMX1 nK K D hk hr hq hd ho))
theorem run_endMX1 (nK K : Nat) (hk : lkO s.ow nK = some (rawOB (.deferred (some [])) (some K))) (hr : fn.results = l.toArray) (hq : resL P s l = some ds) (hd : SLe (retD ds) d)
    (ho : subO (upd s.ow nK (.mp ⟨none, 0, fun _ => false, fun _ => .any, some (.raw (.deferred none) none)⟩ [])) os') : Run P F ⟨b0, none, [{ target := .collected K, args := #[] }]⟩ (finX P fn (retPostM F b0 d os')) [] s := fun h e a w D =>
  leaves_retMX1 nK K D hk hr hq hd ho
end
theorem fn_introMAX {P : Program} {f : Nat} {fn : Func} {c : Code} {n : Nat} {h0 : Hp} {bl : List Nat} {R : List SD → List OB → SD → List (Nat × OB) → Prop} (hcall : ∀ args w, (callFunc f args).run P w = .ok (.enter f args) w) (hf : P.funcs[f]? = some fn) (hb : fn.body = some c) (hn : fn.ntmps = n)
    (hrun : ∀ ds os d os', R ds os d os' → ds.length ≤ n ∧ bl.length ≤ os.length ∧ ∀ (F : List Nat) (w0 : Base0), Anch h0 bl w0 → Run P F w0.std (finX P fn (retPostM F w0 d os')) [.code c] ⟨n, 0, enum 0 ds, enumO 1000 os⟩) : FnMA P f h0 bl R := by
  refine ⟨hcall, fun ds os d os' hR h e w vs gh hl0 hbl hs hr ho hb' hap => ?_⟩
  obtain ⟨hlen, hlb, hrun⟩ := hrun ds os d os' hR
  have hvl : vs.length = ds.length := by
    clear hR hrun hlen
    induction ds generalizing vs with
    | nil => simp only [repT] at hr; simp [hr]
    | cons d r ih => simp only [repT] at hr; obtain ⟨v, vs', rfl, _, h2⟩ := hr; simp [ih vs' h2]
  refine (callsIn_wide (n := 0)).1 (callsIn_of_wp_marks hf hb trivial ?_)
  have hk : ∀ k o, lkO (enumO 1000 os) k = some o → ∃ i, k = 1000 + i ∧ os[i]? = some o := fun k o hk => by
    rw [lkO_enumO] at hk
    split at hk
    · exact ⟨k - 1000, by omega, hk⟩
    · cases hk
  have han : Anch h0 bl ⟨w, h, fixO e os, gh⟩ := ⟨hl0, fun i b hib => by
    have hi := (List.getElem?_eq_some_iff.1 hib).1
    show (fixO e os)[i]? = some b
    rw [fixO_get (by omega), hbl i b hib]⟩
  refine hrun (blksO e 1000 os) ⟨w, h, fixO e os, gh⟩ han h e _ w ⟨rfl, ?_, fun t => ?_, fun k o hko => ?_, fun k o b hko hbl => ?_, fun k k' o o' b hne hko hko' hbl => ?_, hs, Keeps.refl _ _, Le.refl h, fun _ _ => rfl, fun i b hib => ?_⟩
  · simp; omega
  · have := lkp_enum (e := e) 0 t hr
    simp only [Nat.zero_le, if_true, Nat.sub_zero] at this
    have e1 : (vs.toArray ++ Array.replicate (fn.ntmps - vs.toArray.size) undef).getD t undef = vs.getD t undef := by
      simp only [Array.getD_eq_getD_getElem?, Array.getElem?_append, List.getD_eq_getElem?_getD]
      by_cases ht : t < vs.length
      · simp [ht]
      · simp only [List.size_toArray, ht, if_false, Array.getElem?_replicate]
        rw [List.getElem?_eq_none (by omega)]
        split <;> simp
    rw [e1]
    exact this
  · obtain ⟨i, rfl, hi⟩ := hk k o hko
    exact ho i o hi
  · obtain ⟨i, rfl, hi⟩ := hk k o hko
    have hm : b ∈ blksO e 1000 os := mem_blksO.2 ⟨i, o, hi, hbl⟩
    exact ⟨.inr ⟨hm, by omega⟩, hb' b hm⟩
  · obtain ⟨i, rfl, hi⟩ := hk k o hko
    obtain ⟨j, rfl, hj⟩ := hk k' o' hko'
    exact hap i j o o' b (fun hc => hne (by rw [hc])) hi hj hbl
  · change (fixO e os)[i]? = some b at hib
    have hi : i < os.length := by
      have := (List.getElem?_eq_some_iff.1 hib).1
      simpa [fixO] using this
    rw [fixO_get hi] at hib
    simpa using hib
theorem fn_introMX {P : Program} {f : Nat} {fn : Func} {c : Code} {n : Nat} {R : List SD → List OB → SD → List (Nat × OB) → Prop} (hcall : ∀ args w, (callFunc f args).run P w = .ok (.enter f args) w) (hf : P.funcs[f]? = some fn) (hb : fn.body = some c) (hn : fn.ntmps = n)
    (hrun : ∀ ds os d os', R ds os d os' → ds.length ≤ n ∧ ∀ (F : List Nat) (w0 : Base0), Run P F w0.std (finX P fn (retPostM F w0 d os')) [.code c] ⟨n, 0, enum 0 ds, enumO 1000 os⟩) : FnM P f R := by
  refine ⟨hcall, fun ds os d os' hR h e w vs gh hs hr ho hb' hap => ?_⟩
  obtain ⟨hlen, hrun⟩ := hrun ds os d os' hR
  have hvl : vs.length = ds.length := by
    clear hR hrun hlen
    induction ds generalizing vs with
    | nil => simp only [repT] at hr; simp [hr]
    | cons d r ih => simp only [repT] at hr; obtain ⟨v, vs', rfl, _, h2⟩ := hr; simp [ih vs' h2]
  refine (callsIn_wide (n := 0)).1 (callsIn_of_wp_marks hf hb trivial ?_)
  have hk : ∀ k o, lkO (enumO 1000 os) k = some o → ∃ i, k = 1000 + i ∧ os[i]? = some o := fun k o hk => by
    rw [lkO_enumO] at hk
    split at hk
    · exact ⟨k - 1000, by omega, hk⟩
    · cases hk
  refine hrun (blksO e 1000 os) ⟨w, h, fixO e os, gh⟩ h e _ w ⟨rfl, ?_, fun t => ?_, fun k o hko => ?_, fun k o b hko hbl => ?_, fun k k' o o' b hne hko hko' hbl => ?_, hs, Keeps.refl _ _, Le.refl h, fun _ _ => rfl, fun i b hib => ?_⟩
  · simp; omega
  · have := lkp_enum (e := e) 0 t hr
    simp only [Nat.zero_le, if_true, Nat.sub_zero] at this
    have e1 : (vs.toArray ++ Array.replicate (fn.ntmps - vs.toArray.size) undef).getD t undef = vs.getD t undef := by
      simp only [Array.getD_eq_getD_getElem?, Array.getElem?_append, List.getD_eq_getElem?_getD]
      by_cases ht : t < vs.length
      · simp [ht]
      · simp only [List.size_toArray, ht, if_false, Array.getElem?_replicate]
        rw [List.getElem?_eq_none (by omega)]
        split <;> simp
    rw [e1]
    exact this
  · obtain ⟨i, rfl, hi⟩ := hk k o hko
    exact ho i o hi
  · obtain ⟨i, rfl, hi⟩ := hk k o hko
    have hm : b ∈ blksO e 1000 os := mem_blksO.2 ⟨i, o, hi, hbl⟩
    exact ⟨.inr ⟨hm, by omega⟩, hb' b hm⟩
  · obtain ⟨i, rfl, hi⟩ := hk k o hko
    obtain ⟨j, rfl, hj⟩ := hk k' o' hko'
    exact hap i j o o' b (fun hc => hne (by rw [hc])) hi hj hbl
  · change (fixO e os)[i]? = some b at hib
    simp only [fixO, List.getElem?_map] at hib
    cases hr : (List.range os.length)[i]? with
    | none => rw [hr] at hib; cases hib
    | some j =>
      rw [hr] at hib
      have : j = i := by
        have := List.getElem?_eq_some_iff.1 hr
        obtain ⟨h1, h2⟩ := this
        simp at h2
        exact h2.symm
      subst this
      simpa using hib
section
variable {P : Program} {F : List Nat} {w0 : Base} {s : St} {h : Hp} {e : Nm} {a : Act} {w : World} {Q : Exit → Act → World → Prop} {ops : Array Oper} {rest : List Oper} {h0 : Hp} {bl : List Nat}
/-- A call of yield, in a slot that is guarded. -/
theorem stepcallYAg {t j l : Nat} {args : Array Operand} {tys : Array Nat} {ty : Nat} {pos : String} {af : Array Edge} {R : List SD → List OB → SD → List (Nat × OB) → Prop} (ks : List Nat) {ds : List SD} {os : List OB} {d : SD} {os' : List (Nat × OB)} {s' : St} (hf : YldMA P l h0 bl R) (hj : lkp s.sl j = .gd true (.yld l))
    (han : Anch h0 bl w0.b0) (hak : anchK ks bl 0 = true) (hnd : nodupB ks = true) (ha : renL (tau ks) (args.toList.map (unG s)) = ds) (hal : allNL (fun x => memb x ks) (fun x => memb x ks) (args.toList.map (unG s)) = true) (ho : osOf s ks ks = some os) (hg : allP (gCs s args.toList [])) (hR : R ds os d os')
    (hs : callMD s t ks os d os' = some s') (hn : RunL P F w0 ops Q rest s') : RunL P F w0 ops Q (⟨some t, .call ⟨.value (.tmp j), args, tys⟩, ty, pos, af, none⟩ :: rest) s := fun h e a w D => by
  refine wpS_in1 rfl fun K hK r => ?_
  have hv := D.slot j
  rw [hj] at hv
  have hv : a.tmps.getD j undef = .func (.yield l) #[] #[] := by simpa [rep] using hv
  obtain ⟨q1, q2, q3, q4⟩ := D.passF (passM hnd ha hal ho) (repT_args D (allP_gCs hg).1 fun _ hx => hx)
  obtain ⟨q5, q6⟩ := D.anch han hak
  obtain ⟨fn, tmps, assign, body, hy, hR'⟩ := hf.ok ds os d os' hR h (e.inn ks) w _ D.gh q5 q6 D.sub q1 q2 q3 q4
  refine ⟨fun f _ => fe_fn r f, ?_⟩
  rw [fe_round]
  have hsem : (Oper.semAt r a.eval ⟨some t, .call ⟨.value (.tmp j), args, tys⟩, ty, pos, af, none⟩) = execOp a.eval ⟨some t, .call ⟨.value (.tmp j), args, tys⟩, ty, pos, af, none⟩ := Oper.semAt_eq _ _ _ fun c hc => by cases hc
  rw [hsem]
  have harr : (args.toList.map a.eval).toArray = args.map a.eval := by apply Array.ext'; simp
  have hrun : (execOp a.eval ⟨some t, .call ⟨.value (.tmp j), args, tys⟩, ty, pos, af, none⟩).run P w = .ok (.round l fn tmps assign body) w := by
    have hev : a.eval (.tmp j) = .func (.yield l) #[] #[] := hv
    rw [harr] at hy
    simp [execOp, resolve, hev, Deferred.ofValue, invoke, hy]
  rw [hrun, Oper.uponIn_round]
  refine ⟨fe_dp r, ?_⟩
  have hR2 : RoundIn (fe r) (0 - 1) P l fn tmps assign body w (retPostM (blksO (e.inn ks) 1000 os) ⟨w, h, fixO (e.inn ks) os, D.gh⟩ d os') := by
    cases r with
    | none => exact hR'
    | some l' => exact hR'
  refine hR2.mono fun en w' hq => ?_
  obtain ⟨v, h', e', rfl, D'⟩ := D.afterM ho hs hq
  exact hK _ _ (hn _ _ _ _ D')
end
end Go.Sx

/-! SxBo: own objects are lent to a call: it sees them as values that stay; behind it they are as they were. -/
namespace Go.Sx
open Go.RowKit
mutual
/-- A descriptor that speaks of no heap. -/
@[go_sem] def scal : SD → Bool
  | .any | .int .. | .bool _ | .str _ | .nils | .nilp | .nilfn | .nilif | .nilmap => true
  | .tup l => scalL l
  | _ => false
@[go_sem] def scalL : List SD → Bool
  | [] => true
  | d :: r => scal d && scalL r
end
mutual
theorem scal_rep {h h' : Hp} : ∀ (d : SD) (e : Nm) (v : Value), scal d = true → rep h d e v → rep h' d e v
  | .any, _, _, _, _ => by simp [rep]
  | .int .., _, _, _, x => by simpa [rep] using x
  | .bool .., _, _, _, x => by simpa [rep] using x
  | .str .., _, _, _, x => by simpa [rep] using x
  | .nils, _, _, _, x => by simpa [rep] using x
  | .nilp, _, _, _, x => by simpa [rep] using x
  | .nilfn, _, _, _, x => by simpa [rep] using x
  | .nilif, _, _, _, x => by simpa [rep] using x
  | .nilmap, _, _, _, x => by simpa [rep] using x
  | .tup l, e, v, hs, x => by
    simp only [rep] at x ⊢
    obtain ⟨vs, h1, h2⟩ := x
    exact ⟨vs, h1, scal_repT l e vs (by simpa [scal] using hs) h2⟩
  | .agg _, _, _, hs, _ | .list .., _, _, hs, _ | .fp _, _, _, hs, _ | .loc .., _, _, hs, _ | .acc _, _, _, hs, _ | .aptr .., _, _, hs, _ | .accp .., _, _, hs, _ | .vsl .., _, _, hs, _
  | .bfn .., _, _, hs, _ | .gd .., _, _, hs, _ | .fn .., _, _, hs, _ | .iface .., _, _, hs, _ | .omap _, _, _, hs, _ | .fmap .., _, _, hs, _ | .yld _, _, _, hs, _ => by simp [scal] at hs
theorem scal_repT {h h' : Hp} : ∀ (l : List SD) (e : Nm) (vs : List Value), scalL l = true → repT h l e vs → repT h' l e vs
  | [], _, _, _, x => by simpa [repT] using x
  | d :: r, e, vs, hs, x => by
    simp only [scalL, Bool.and_eq_true] at hs
    simp only [repT] at x ⊢
    obtain ⟨v, vs', h1, h2, h3⟩ := x
    exact ⟨v, vs', h1, scal_rep d e v hs.1 h2, scal_repT r e vs' hs.2 h3⟩
end
@[go_sem] def frzAll (s : St) : List Nat → Option St
  | [] => some s
  | k :: r => match frzD s k with
    | some s' => frzAll s' r
    | none => none
section
variable {P : Program} {F : List Nat} {w0 : Base} {s : St} {h : Hp} {e : Nm} {a : Act} {w : World} {Q : Exit → Act → World → Prop} {ops : Array Oper} {rest : List Oper}
theorem Den.frzAll : ∀ {ks : List Nat} {s : St} {h : Hp} {sf : St}, Den F w0 s h e a w → frzAll s ks = some sf → ∃ h', Den F w0 sf h' e a w
  | [], s, h, sf, D, hq => by
    simp only [Sx.frzAll, Option.some.injEq] at hq
    subst hq
    exact ⟨h, D⟩
  | k :: r, s, h, sf, D, hq => by
    simp only [Sx.frzAll] at hq
    split at hq
    · rename_i s' h1
      obtain ⟨h', D'⟩ := D.frz h1
      exact D'.frzAll hq
    · cases hq
/-- Behind a call that changed nothing that was there. -/
theorem Den.lent (D : Den F w0 s h e a w) {w' : World} (hb : Below w.heap.size w w') : Den F w0 s h e a w' :=
  D.called (Le.refl h) (fun b o ho => by
    have h1 := D.sub b o ho
    have hlt : b < w.heap.size := by
      rcases Nat.lt_or_ge b w.heap.size with h2 | h2
      · exact h2
      · rw [Array.getElem?_eq_none h2] at h1; cases h1
    rw [hb.block b hlt]; exact h1) hb (fun _ _ => rfl)
end
end Go.Sx
