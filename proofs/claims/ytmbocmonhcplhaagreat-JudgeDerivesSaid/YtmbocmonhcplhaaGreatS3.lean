/- Part of the proof that the laws of the judge return true for every input: SxZ, SxKa, SxMp, SxMq, SxMr, SxAp, SxRe, SxRf, SxRg, SxRh, SxRi, SxRj, SxCp, SxBs, SxAs, SxKb, SxKc, SxKd, SxKe, SxKf. -/
import Derived.Test.YtmbocmonhcplhaaGreatS2
import Derived.Maps.RangeRun
import Derived.LoopN
import Derived.RangeFuncLeaves
import Derived.RangeFuncNested
import Derived.Laws.IdiomStrings
import Derived.Laws.BytesArg
import Derived.LoopNIn
set_option linter.all false
namespace Go.Sx
open Go.RowKit
def newL (m : Nat) : Nat → List Nat
 | 0 => []
 | n + 1 => (m + n) :: newL m n
def upsO : List (Nat × OB) → List (Nat × Option OB)
 | [] => []
 | (k, o) :: r => (k, some o) :: upsO r
def killL (os' : List (Nat × OB)) : Nat → List Nat → List (Nat × Option OB)
 | _, [] => []
 | i, k :: r => match lkO os' i with
  | some _ => killL os' (i + 1) r
  | none => (k, none) :: killL os' (i + 1) r
def keysK (s : St) : List Nat → List (Nat × OB)
 | [] => []
 | k :: r => match lkO s.ow k with
  | some o => (k, o) :: keysK s r
  | none => keysK s r
def recM (s : St) (t : Nat) (args : List Operand) (ks : List Nat) (d : SD) (os' : List (Nat × OB)) : Rec :=
 ⟨readS s (tmpsOf args), keysK s ks, some t, ren (sgm ks s.nx) d, upsO (renOs (sgm ks s.nx) os') ++ killL os' 1000 ks, newL s.nx (bndO os')⟩
def isNil : List Nat → Bool
 | [] => true
 | _ => false
def callDD (s : St) (t : Nat) (ks : List Nat) (os : List OB) (d : SD) (os' : List (Nat × OB)) : Option St :=
 bif Nat.blt t s.n && nodupB ks && Nat.ble (s.nx + bndO os') 700 && allB (fun k => !isNew s.nx (bndO os') k) ks && isNil (accBack s os' 1000 ks) &&
  allN (okb ks (bndO os')) (okh ks (bndO os') []) d && okOs ks (bndO os') [] os' && kindB os' 1000 os then
  some ⟨s.n, s.nx + bndO os', upd s.sl t (ren (sgm ks s.nx) d), appO (upsO (renOs (sgm ks s.nx) os') ++ killL os' 1000 ks) s.ow⟩
 else none
theorem lkU_append : ∀ (a b : List (Nat × Option OB)) (k : Nat), lkU (a ++ b) k = match lkU a k with
  | some o => some o
  | none => lkU b k
 | [], b, k => rfl
 | (j, o) :: r, b, k => by
  simp only [List.cons_append, lkU]
  cases Nat.beq j k
  ·exact lkU_append r b k
  ·rfl
theorem lkU_ups : ∀ (l : List (Nat × OB)) (k : Nat), lkU (upsO l) k = (lkO l k).map some
 | [], _ => rfl
 | (j, o) :: r, k => by
  simp only [upsO, lkU, lkO]
  cases Nat.beq j k
  ·exact lkU_ups r k
  ·rfl
theorem lkU_kill {os' : List (Nat × OB)} : ∀ (ks : List Nat) (n i : Nat), i < ks.length → lkO os' (n + i) = none → ks.Nodup → lkU (killL os' n ks) (getN ks i) = some none
 | [], _, _, h, _, _ => absurd h (Nat.not_lt_zero _)
 | k :: r, n, 0, _, h, _ => by
  rw [Nat.add_zero] at h
  simp only [killL, h, getN, lkU, Nat.beq_refl, cond_true]
 | k :: r, n, i + 1, hi, h, hn => by
  have hi' : i < r.length := by simpa using hi
  have ih := lkU_kill r (n + 1) i hi' (by rw [show n + 1 + i = n + (i + 1) by omega]; exact h) (List.nodup_cons.1 hn).2
  simp only [killL, getN]
  split
  ·exact ih
  ·have : Nat.beq k (getN r i) = false := beqF fun hc => (List.nodup_cons.1 hn).1 (hc ▸ getN_mem hi')
   simp only [lkU, this, cond_false, ih]
theorem lkU_kill_none {os' : List (Nat × OB)} : ∀ (ks : List Nat) (n k : Nat) (x : Option OB), lkU (killL os' n ks) k = some x → x = none
 | [], _, _, _, h => by cases h
 | j :: r, n, k, x, h => by
  simp only [killL] at h
  split at h
  ·exact lkU_kill_none r _ k x h
  ·simp only [lkU] at h
   cases hb : Nat.beq j k
   ·rw [hb] at h; exact lkU_kill_none r _ k x h
   ·rw [hb] at h; simp only [cond_true, Option.some.injEq] at h; exact h.symm
theorem mem_newL {m : Nat} : ∀ {B k : Nat}, isNew m B k = true → k ∈ newL m B
 | 0, k, h => by
  simp only [isNew, Bool.and_eq_true] at h
  have h1 := Nat.le_of_ble_eq_true h.1
  have h2 := blt_lt h.2
  omega
 | B + 1, k, h => by
  simp only [isNew, Bool.and_eq_true] at h
  have h1 := Nat.le_of_ble_eq_true h.1
  have h2 := blt_lt h.2
  by_cases hk : k = m + B
  ·subst hk; exact List.mem_cons_self
  ·refine List.mem_cons_of_mem _ (mem_newL ?_)
   simp only [isNew, Bool.and_eq_true]
   exact ⟨h.1, Nat.ble_eq_true_of_le (by omega)⟩
theorem keysK_mem {s : St} : ∀ {l : List Nat} {k : Nat} {o : OB}, k ∈ l → lkO s.ow k = some o → (k, o) ∈ keysK s l
 | [], _, _, h, _ => by cases h
 | j :: r, k, o, h, ho => by
  rcases List.mem_cons.1 h with rfl | h
  ·simp only [keysK, ho]; exact List.mem_cons_self
  ·simp only [keysK]
   split
   ·exact List.mem_cons_of_mem _ (keysK_mem h ho)
   ·exact keysK_mem h ho
theorem keysK_ok {s : St} : ∀ {l : List Nat}, ∀ p ∈ keysK s l, lkO s.ow p.1 = some p.2
 | [], _, h => by cases h
 | j :: r, p, h => by
  simp only [keysK] at h
  split at h
  ·rename_i o ho
   rcases List.mem_cons.1 h with rfl | h
   ·exact ho
   ·exact keysK_ok p h
  ·exact keysK_ok p h
section
variable {P : Program} {F : List Nat} {w0 : Base} {s : St} {Q : Exit → Act → World → Prop} {l : List Oper} {s0 : St} {rs : List Rec} {id : Nat}
theorem sem_callM {f t : Nat} {args : Array Operand} {tys : Array Nat} {ty : Nat} {pos : String} {af : Array Edge} {R : List SD → List OB → SD → List (Nat × OB) → Prop} {ks : List Nat} {ds : List SD} {os : List OB} {d : SD} {os' : List (Nat × OB)} {s' : St} {ops : Array Oper} (hf : FnM P f R)
  (ha : renL (tau ks) (args.toList.map (unG s)) = ds) (hal : allNL (fun x => memb x ks) (fun x => memb x ks) (args.toList.map (unG s)) = true) (ho : osOf s ks ks = some os) (hg : allP (gCs s args.toList [])) (hR : R ds os d os')
  (hs : callDD s t ks os d os' = some s') : OpSem P F w0 ops s.n ⟨some t, .call ⟨.value (.func f), args, tys⟩, ty, pos, af, none⟩ (recM s t args.toList ks d os') ∧ Leq s' ((recM s t args.toList ks d os').app s) := by
 unfold callDD at hs
 generalize hB : bndO os' = B at hs
 generalize hcb : (Nat.blt t s.n && nodupB ks && Nat.ble (s.nx + B) 700 && allB (fun k => !isNew s.nx B k) ks && isNil (accBack s os' 1000 ks) &&
  allN (okb ks B) (okh ks B []) d && okOs ks B [] os' && kindB os' 1000 os) = cb at hs
 cases cb
 ·cases hs
 simp only [cond_true, Option.some.injEq] at hs
 simp only [Bool.and_eq_true] at hcb
 obtain ⟨⟨⟨⟨⟨⟨⟨c1, c2⟩, c3⟩, c4⟩, c5⟩, c6⟩, c7⟩, c8⟩ := hcb
 subst hs
 refine ⟨fun σ hn h1 h2 h3 h e a w D K Q hK => ?_, ⟨rfl, fun _ => rfl, fun _ => rfl⟩⟩
 rw [if_pos (by simp [Region.wanted])]
 have hev := ev_agree (s := s) (s' := σ) (l := args.toList) h1
 have ha' : args.toList.map (unG σ) = args.toList.map (unG s) := List.map_congr_left fun x hx => by simp only [unG, hev x hx]
 have hg' : allP (gCs σ args.toList []) := by rw [gCs_agree hev]; exact hg
 obtain ⟨o1, o2⟩ := osOf_ok ho
 have hi : ∀ {i : Nat} {o : OB}, os[i]? = some o → i < ks.length := fun {i o} ho => by have := (List.getElem?_eq_some_iff.1 ho).1; rw [o1] at this; exact this
 have o2' : ∀ (i : Nat) (o : OB), os[i]? = some o → ∃ o0, lkO σ.ow (getN ks i) = some o0 ∧ o = renO (tau ks) o0 ∧ allNO (fun x => memb x ks) (fun x => memb x ks) o0 = true := fun i o hio => by
  obtain ⟨o0, k1, k2, k3⟩ := o2 i o hio
  exact ⟨o0, h2 (getN ks i, o0) (keysK_mem (getN_mem (hi hio)) k1), k2, k3⟩
 have hnd := nodupB_ok c2
 unfold Oper.wp
 rw [callee_run hf.call]
 refine (D.pass ⟨hnd, by rw [ha']; exact hal, by rw [ha']; exact ha.symm, o1, o2'⟩ hf hR (repT_args D (allP_gCs hg').1 fun _ hx => hx)).mono fun en w' hq => ?_
 have hfree : ∀ k, isNew s.nx B k = true → Free σ k := fun k hk => h3 k (by simp only [recM, hB]; exact mem_newL hk)
 have hbad : ∀ k, (pbN s.nx B k && phN s.nx B [] k) = false → isNew s.nx B k = true := fun k hk => by
  cases hx : isNew s.nx B k
  ·simp [pbN, phN, hx, memb] at hk
  ·rfl
 have key0 : ∃ v h' e'', en = .returned v ∧ Den F w0 ((recM s t args.toList ks d os').app σ) h' e'' (a.put (some t) v) w' := ?_
 ·obtain ⟨v, h', e', rfl, D'⟩ := key0
  exact hK _ _ _ _ D'
 refine D.backM (s' := (recM s t args.toList ks d os').app σ) (ks := ks) (m := s.nx) (B := B) (A := []) (os := os) (d := d) (os' := os')
  ⟨hnd, Nat.le_of_ble_eq_true c3, fun k hk => by have := allB_ok c4 k hk; simpa only [Bool.not_eq_true'] using this, o1, o2', .inr (fun k hk => by cases hk), c6, c7, fun i o o' => kindB_ok c8 i o o'⟩
  (dst := some t) (fun t' h => by cases h; rw [hn]; exact blt_lt c1) rfl (fun i hi => ?_) (fun t' h => ?_) (fun k o hk => ?_) (fun k hk => by cases hk) hq
 ·have hi : ¬ i = t := fun hc => hi (by rw [hc])
  simp only [recM, Rec.app, lkp_upd, hi, if_false]
  exact .inr ⟨trivial, allN_of_men _ fun k hk => (hfree k (hbad k hk)).sl i⟩
 ·cases h; simp only [recM, Rec.app, lkp_upd, if_true]
 ·simp only [recM, Rec.app, lkO_app, lkU_append, lkU_ups] at hk
  cases hx : lkO (renOs (sgm ks s.nx) os') k with
  | some o' =>
   rw [hx] at hk
   simp only [Option.map_some, Option.some.injEq] at hk
   subst hk
   exact .inl (lkO_renOs hx)
  | none =>
   rw [hx] at hk
   simp only [Option.map_none] at hk
   refine .inr ?_
   cases hy : lkU (killL os' 1000 ks) k with
   | some x =>
    rw [hy] at hk
    have := lkU_kill_none ks 1000 k x hy
    subst this
    cases hk
   | none =>
    rw [hy] at hk
    simp only at hk
    have hkn : k ∉ ks := fun hc => by
     obtain ⟨q1, q2, q3⟩ := get_idx ks k 1000 hc
     have hlt : idxN ks k 1000 - 1000 < ks.length := by omega
     cases hz : lkO os' (1000 + (idxN ks k 1000 - 1000)) with
     | none =>
      have := lkU_kill ks 1000 _ hlt hz hnd
      rw [q3, hy] at this
      cases this
     | some o' =>
      have hsg : sgm ks s.nx (1000 + (idxN ks k 1000 - 1000)) = k := by
       have : Nat.blt (1000 + (idxN ks k 1000 - 1000)) 1000 = false := by
        cases hb : Nat.blt (1000 + (idxN ks k 1000 - 1000)) 1000
        ·rfl
        ·have := blt_lt hb; omega
       simp only [sgm, this, cond_false, Nat.add_sub_cancel_left, q3]
      have key : ∀ (l : List (Nat × OB)), lkO l (1000 + (idxN ks k 1000 - 1000)) = some o' → lkO (renOs (sgm ks s.nx) l) k ≠ none := fun l => by
       induction l with
       | nil => intro h; cases h
       | cons p r ih =>
        obtain ⟨j, oj⟩ := p
        intro h
        simp only [lkO, renOs] at h ⊢
        cases hb : Nat.beq j (1000 + (idxN ks k 1000 - 1000))
        ·rw [hb] at h
         cases hb2 : Nat.beq (sgm ks s.nx j) k
         ·exact ih h
         ·simp
        ·have hj := Nat.eq_of_beq_eq_true hb
         rw [hj, hsg, Nat.beq_refl]
         exact fun hc => by cases hc
      exact key os' hz hx
    refine ⟨hkn, ?_, o, hk, OLe.refl o, ?_⟩
    ·cases hx : isNew s.nx B k
     ·rfl
     ·have := free_lkO (hfree k hx)
      rw [this] at hk
      cases hk
    ·cases o with
     | var lv => exact allNL_of_men lv fun j hj => ((hfree j (hbad j hj)).ow k _ hk).2.1 lv rfl
     | acc T es n f => rfl
     | mp kd lv => exact allNM_of_men lv fun j hj => ((hfree j (hbad j hj)).ow k _ hk).2.2 kd lv rfl
theorem runDcallM {f t : Nat} {args : Array Operand} {tys : Array Nat} {ty : Nat} {pos : String} {af : Array Edge} {R : List SD → List OB → SD → List (Nat × OB) → Prop} (ks : List Nat) {ds : List SD} {os : List OB} {d : SD} {os' : List (Nat × OB)} {s' : St} {rest : List Oper} (hf : FnM P f R)
  (_hnd : nodupB ks = true) (ha : renL (tau ks) (args.toList.map (unG s)) = ds) (hal : allNL (fun x => memb x ks) (fun x => memb x ks) (args.toList.map (unG s)) = true) (ho : osOf s ks ks = some os) (hg : allP (gCs s args.toList [])) (hR : R ds os d os')
  (hs : callDD s t ks os d os' = some s') (hn : RunD P F w0 Q id l s0 (rs ++ [recM s t args.toList ks d os']) rest s') : RunD P F w0 Q id l s0 rs (⟨some t, .call ⟨.value (.func f), args, tys⟩, ty, pos, af, none⟩ :: rest) s := fun K => by
 obtain ⟨h1, h2⟩ := sem_callM (F := F) (w0 := w0) (ops := l.toArray) (tys := tys) (ty := ty) (pos := pos) (af := af) hf ha hal ho hg hR hs
 have g1 : ∀ p ∈ (recM s t args.toList ks d os').slots, lkp s.sl p.1 = p.2 := readS_ok
 have g2 : ∀ p ∈ (recM s t args.toList ks d os').keys, lkO s.ow p.1 = some p.2 := keysK_ok
 generalize recM s t args.toList ks d os' = r at *
 exact hn (K.snoc g1 g2 h1 h2)
end
end Go.Sx
namespace Go.Sx
open Go.RowKit
section
variable {P : Program} {F : List Nat} {w0 : Base} {s : St} {ops : Array Oper} {Q : Exit → Act → World → Prop} {rest : List Oper}
theorem runL_gT {dst : Option Nat} {op : Op} {ty : Nat} {pos : String} {af : Array Edge} {j : Nat} {b : Bool} (tj : Nat) (hj : (ops[j]?).bind (·.dst) = some tj) (hc : gV (lkp s.sl tj) b = some true)
  (hn : RunL P F w0 ops Q (⟨dst, op, ty, pos, af, none⟩ :: rest) s) : RunL P F w0 ops Q (⟨dst, op, ty, pos, af, some (j, b)⟩ :: rest) s := fun h e a w D => by
 have h1 := hn h e a w D
 have hw := wanted_of (o := ⟨dst, op, ty, pos, af, some (j, b)⟩) rfl hj (D.slot tj) hc
 simp only [wpS] at h1 ⊢
 rw [if_pos hw]
 have hw0 : Region.wanted (⟨dst, op, ty, pos, af, none⟩ : Oper) (yielded ops a.tmps) = true := by simp [Region.wanted]
 rw [if_pos hw0] at h1
 exact h1
theorem runL_gF {t : Nat} {op : Op} {ty : Nat} {pos : String} {af : Array Edge} {j : Nat} {b : Bool} {s' : St} {z : SD} (tj : Nat) (_ : zcT P ty = some z) (hj : (ops[j]?).bind (·.dst) = some tj) (hc : gV (lkp s.sl tj) b = some false) (hs : cstep s t (.gd false z) = some s')
  (hn : RunL P F w0 ops Q rest s') : RunL P F w0 ops Q (⟨some t, op, ty, pos, af, some (j, b)⟩ :: rest) s := fun h e a w D => by
 obtain ⟨ht, rfl⟩ := cstep_ok hs
 have hw := wanted_of (o := ⟨some t, op, ty, pos, af, some (j, b)⟩) rfl hj (D.slot tj) hc
 simp only [wpS]
 rw [if_neg (by rw [hw]; simp)]
 refine hn _ _ _ _ (D.put ht ?_)
 simp [rep]
theorem runL_gF0 {t : Nat} {op : Op} {ty : Nat} {pos : String} {af : Array Edge} {j : Nat} {b : Bool} {s' : St} (tj : Nat) (hj : (ops[j]?).bind (·.dst) = some tj) (hc : gV (lkp s.sl tj) b = some false) (hs : cstep s t (.gd false .any) = some s')
  (hn : RunL P F w0 ops Q rest s') : RunL P F w0 ops Q (⟨some t, op, ty, pos, af, some (j, b)⟩ :: rest) s := fun h e a w D => by
 obtain ⟨ht, rfl⟩ := cstep_ok hs
 have hw := wanted_of (o := ⟨some t, op, ty, pos, af, some (j, b)⟩) rfl hj (D.slot tj) hc
 simp only [wpS]
 rw [if_neg (by rw [hw]; simp)]
 refine hn _ _ _ _ (D.put ht ?_)
 simp [rep]
end
end Go.Sx
namespace Go.Sx
open Go.RowKit
open Go.ChangeMaps (setBlock)
instance : DecidableEq MK := fun a b => match a, b with
 | .i x, .i y => if h : x = y then isTrue (by rw [h]) else isFalse fun e => h (by cases e; rfl)
 | .s x, .s y => if h : x = y then isTrue (by rw [h]) else isFalse fun e => h (by cases e; rfl)
 | .i _, .s _ => isFalse fun e => by cases e
 | .s _, .i _ => isFalse fun e => by cases e
def kkT (P : Program) (T : Nat) : Option (Option IntKind) :=
 match P.underlying T with
 | some (.map k _) => match P.underlying k with
  | some (.int q) => some (some q)
  | some .string => some none
  | _ => none
 | _ => none
def mzT (P : Program) (T : Nat) : Option Value :=
 match P.underlying T with
 | some (.map _ e) => (P.info? e).bind (·.zero)
 | _ => none
def keyMK : Option IntKind → SD → Option MK
 | some k, .int j n => bif decide (k = j) then some (.i n) else none
 | none, .str b => some (.s b)
 | _, _ => none
def setD (q : MK) (d : SD) (f : MK → SD) (r : MK) : SD := if r = q then d else f r
def addK (q : MK) (dom : MK → Bool) (r : MK) : Bool := decide (r = q) || dom r
def lookD (b : Bool) : SD → SD → Option SD
 | .bool x, .bool z => some (.bool (bif b then x else z))
 | .int k x, .int j z => bif decide (k = j) then some (.int k (bif b then x else z)) else none
 | .str x, .str z => some (.str (bif b then x else z))
 | _, _ => none
def mapD (s : St) : SD → Option MD
 | .omap k => match lkO s.ow k with
  | some (.mp m _) => match m.it with
   | none => some m
   | some _ => none
  | _ => none
 | .fmap kk n dom f => some ⟨kk, n, dom, f, none⟩
 | _ => none
def mlD (P : Program) (s : St) (T : Nat) (x y : SD) (ok : Bool) : Option SD :=
 match mapD s x, kkT P T, mzT P T with
 | some m, some kk, some z => bif decide (m.kk = kk) then
   match keyMK kk y with
   | some q => match lookD (m.dom q) (m.f q) (ofV z) with
    | some d => some (bif ok then .tup [d, .bool (m.dom q)] else d)
    | none => none
   | none => none
  else none
 | _, _, _ => none
theorem keyMK_ok {h : Hp} {e : Nm} {kk : Option IntKind} {y : SD} {q : MK} {v : Value} (hq : keyMK kk y = some q) (hy : rep h y e v) : v = q.val kk ∧ q.ok kk = true := by
 unfold keyMK at hq
 split at hq
 ·rename_i k j n
  by_cases hkj : k = j
  ·simp only [hkj, decide_true, cond_true, Option.some.injEq] at hq
   subst hq
   simp only [rep] at hy
   exact ⟨by rw [hy]; simp only [MK.val, hkj], rfl⟩
  ·simp [hkj] at hq
 ·simp only [Option.some.injEq] at hq
  subst hq
  simp only [rep] at hy
  exact ⟨hy, rfl⟩
 ·cases hq
def KeyT (P : Program) (kt : Nat) (kk : Option IntKind) : Prop := match kk with
 | some q => P.underlying kt = some (.int q)
 | none => P.underlying kt = some .string
theorem kkT_ok {P : Program} {T : Nat} {kk : Option IntKind} (h : kkT P T = some kk) : ∃ kt et, P.underlying T = some (.map kt et) ∧ KeyT P kt kk := by
 unfold kkT at h
 split at h
 ·rename_i k e hu
  split at h
  ·rename_i q hk
   simp only [Option.some.injEq] at h
   subst h
   exact ⟨k, e, hu, hk⟩
  ·rename_i hk
   simp only [Option.some.injEq] at h
   subst h
   exact ⟨k, e, hu, hk⟩
  ·cases h
 ·cases h
section
variable {P : Program}
theorem run_checkKey {kt : Nat} {kk : Option IntKind} (hk : KeyT P kt kk) (b : Bool) (v : Value) (w : World) : (Instr.checkKey b 10000 kt v).run P w = .ok () w := by
 have key : ∀ n, (Instr.checkKey b (n + 1) kt v).run P w = .ok () w := fun n => by
  cases kk with
  | some q => simp only [KeyT] at hk; simp [Instr.checkKey, run_underlying hk]
  | none => simp only [KeyT] at hk; simp [Instr.checkKey, run_underlying hk]
 exact key 9999
def kdD : Option IntKind → TypeDesc
 | some q => .int q
 | none => .string
theorem run_kd {kt : Nat} {kk : Option IntKind} (hk : KeyT P kt kk) (w : World) : (underlying kt).run P w = .ok (kdD kk) w := by
 cases kk with
 | some q => exact run_underlying hk w
 | none => exact run_underlying hk w
theorem sameNow_ok {kk : Option IntKind} {p q : MK} (hp : p.ok kk = true) (hq : q.ok kk = true) : Instr.sameNow (kdD kk) (p.val kk) (q.val kk) = some (decide (p = q)) := by
 cases kk <;> cases p <;> cases q <;> simp only [MK.ok, Bool.false_eq_true] at hp hq
 ·rename_i a b
  simp only [kdD, MK.val, Instr.sameNow]
  by_cases h : a = b
  ·subst h
   have : (a == a) = true := by obtain ⟨x⟩ := a; show (x == x) = true; simp
   simp [this]
  ·have h1 : ¬ (MK.s a = MK.s b) := fun e => h (by cases e; rfl)
   have h2 : (a == b) = false := by
    cases hb : a == b
    ·rfl
    ·exfalso
     apply h
     obtain ⟨x⟩ := a
     obtain ⟨y⟩ := b
     have h' : (x == y) = true := hb
     rw [eq_of_beq h']
   simp [h1, h2]
 ·rename_i k a b
  simp only [kdD, MK.val, Instr.sameNow, if_true]
  by_cases h : a = b
  ·subst h; simp
  ·have h1 : ¬ (MK.i a = MK.i b) := fun e => h (by cases e; rfl)
   simp [h, h1]
theorem findNow_ok {kk : Option IntKind} {q : MK} (hq : q.ok kk = true) : ∀ (l : List MapEntry) (i : Nat), (∀ x ∈ l, ∃ p : MK, p.ok kk = true ∧ x.key = p.val kk) →
  (Instr.findNow (kdD kk) (q.val kk) l i = some none ∧ ∀ x ∈ l, x.key ≠ q.val kk) ∨ ∃ j x, l[j]? = some x ∧ x.key = q.val kk ∧ Instr.findNow (kdD kk) (q.val kk) l i = some (some (i + j, x.val))
 | [], i, _ => .inl ⟨rfl, by simp⟩
 | y :: r, i, h => by
  obtain ⟨p, hp, hy⟩ := h y (by simp)
  by_cases hpq : q = p
  ·subst hpq
   exact .inr ⟨0, y, rfl, hy, by simp [Instr.findNow, hy, sameNow_ok hq hq]⟩
  ·have hne : y.key ≠ q.val kk := fun e => hpq (MK.val_inj hq hp (e.symm.trans hy))
   have hs : Instr.sameNow (kdD kk) (q.val kk) y.key = some false := by rw [hy, sameNow_ok hq hp]; simp [hpq]
   rcases findNow_ok hq r (i + 1) (fun x hx => h x (by simp [hx])) with ⟨h1, h2⟩ | ⟨j, x, h1, h2, h3⟩
   ·refine .inl ⟨by simp only [Instr.findNow, hs]; exact h1, fun x hx => ?_⟩
    rcases List.mem_cons.1 hx with rfl | hx
    ·exact hne
    ·exact h2 x hx
   ·refine .inr ⟨j + 1, x, by simpa using h1, h2, ?_⟩
    simp only [Instr.findNow, hs, h3]
    simp only [Option.some.injEq, Prod.mk.injEq, and_true]
    omega
theorem mapOk_keys {h : Hp} {m : MD} {es : Array MapEntry} {clock : Nat} (x : mapOk h m es clock) : ∀ y ∈ es.toList, ∃ p : MK, p.ok m.kk = true ∧ y.key = p.val m.kk := fun y hy => by
 obtain ⟨q, h1, h2, _⟩ := x.2.2.1.key y (by simpa using hy)
 exact ⟨q, h1, h2⟩
theorem run_findKey {kt : Nat} {h : Hp} {m : MD} {es : Array MapEntry} {clock : Nat} (x : mapOk h m es clock) (hk : KeyT P kt m.kk) {q : MK} (hq : q.ok m.kk = true) (w : World) :
  (m.dom q = false ∧ (Instr.findKey kt (q.val m.kk) es.toList).run P w = .ok none w ∧ ∀ y ∈ es.toList, y.key ≠ q.val m.kk) ∨
  ∃ (j : Nat) (y : MapEntry), m.dom q = true ∧ es.toList[j]? = some y ∧ y.key = q.val m.kk ∧ (Instr.findKey kt (q.val m.kk) es.toList).run P w = .ok (some (j, y.val)) w := by
 rcases findNow_ok hq es.toList 0 (mapOk_keys x) with ⟨h1, h2⟩ | ⟨j, y, h1, h2, h3⟩
 ·refine .inl ⟨?_, by simp [Instr.findKey, run_kd hk, h1], h2⟩
  cases hd : m.dom q
  ·rfl
  ·obtain ⟨_, y, hy, hyk⟩ := x.2.2.1.all q hd
   exact absurd hyk (h2 y (by simpa using hy))
 ·refine .inr ⟨j, y, ?_, h1, h2, by simp [Instr.findKey, run_kd hk, h3]⟩
  obtain ⟨p, p1, p2, p3⟩ := x.2.2.1.key y (by have := List.mem_of_getElem? h1; simpa using this)
  rw [MK.val_inj hq p1 (h2.symm.trans p2)]
  exact p3
theorem mapD_ok {F : List Nat} {w0 : Base} {s : St} {h : Hp} {e : Nm} {a : Act} {w : World} (D : Den F w0 s h e a w) {x : SD} {m : MD} {v : Value} (hm : mapD s x = some m) (hx : rep h x e v) :
  ∃ b es clock, v = .map (some b) ∧ w.heap[b]? = some (.map es clock) ∧ mapOk h m es clock := by
 cases x <;> simp only [mapD, reduceCtorEq] at hm
 case omap k =>
  split at hm
  ·rename_i m' l ho
   split at hm
   ·rename_i hit
    simp only [Option.some.injEq] at hm
    subst hm
    obtain ⟨o, h1, h2⟩ := D.ownM ho (by rw [hit]; intros; simp)
    unfold mpObj at h2
    rw [hit] at h2
    obtain ⟨es, clock, rfl, h3⟩ := h2
    simp only [rep] at hx
    exact ⟨_, es, clock, hx, h1, h3⟩
   ·cases hm
  ·cases hm
 case fmap kk n dom f =>
  simp only [Option.some.injEq] at hm
  subst hm
  simp only [rep] at hx
  obtain ⟨b, es, clock, h1, h2, h3, h4, h5, h6⟩ := hx
  exact ⟨b, es, clock, h1, D.sub _ _ h2, h3, h4, h5, h6⟩
theorem run_mlD {F : List Nat} {w0 : Base} {s : St} {h : Hp} {e : Nm} {a : Act} {w : World} (D : Den F w0 s h e a w) {T : Nat} {x y d : SD} {ok : Bool} {v u : Value} (hq : mlD P s T x y ok = some d) (hx : rep h x e v) (hy : rep h y e u) :
  ∃ r, rep h d e r ∧ (Instr.lookup T v u ok).run P w = .ok r w := by
 unfold mlD at hq
 split at hq
 ·rename_i m kk z hm hkk hz
  by_cases hmk : m.kk = kk
  ·simp only [hmk, decide_true, cond_true] at hq
   split at hq
   ·rename_i q hqk
    split at hq
    ·rename_i d0 hl
     simp only [Option.some.injEq] at hq
     obtain ⟨b, es, clock, rfl, hb, hok⟩ := mapD_ok D hm hx
     obtain ⟨rfl, hqok⟩ := keyMK_ok hqk hy
     obtain ⟨kt, et, hT, hkt⟩ := kkT_ok hkk
     subst hmk
     have hzr : (zeroValue et).run P w = .ok z w := by
      unfold mzT at hz
      rw [hT] at hz
      simp only at hz
      cases hi : P.info? et with
      | none => rw [hi] at hz; cases hz
      | some i =>
       rw [hi] at hz
       simp only [Option.bind_some] at hz
       simp [zeroValue, typeInfo, hi, hz]
     have hval : ∃ r, rep h d0 e r ∧ (Instr.lookup T (.map (some b)) (q.val m.kk) ok).run P w = .ok (if ok then .tuple #[r, .bool (m.dom q)] else r) w := by
      rcases run_findKey (P := P) hok hkt hqok w with ⟨h1, h2, _⟩ | ⟨j, y', h1, h2, h3, h4⟩
      ·refine ⟨z, ?_, ?_⟩
       ·rw [h1] at hl
        unfold lookD at hl
        have hzz := rep_ofV h e z
        split at hl
        ·rename_i hz1; rw [hz1] at hzz; simp only [cond_false, Option.some.injEq] at hl; subst hl; exact hzz
        ·rename_i k _ j _ _ hz1
         rw [hz1] at hzz
         by_cases hkj : k = j
         ·subst hkj; simp only [decide_true, cond_true, cond_false, Option.some.injEq] at hl; subst hl; exact hzz
         ·simp [hkj] at hl
        ·rename_i hz1; rw [hz1] at hzz; simp only [cond_false, Option.some.injEq] at hl; subst hl; exact hzz
        ·cases hl
       ·simp [Instr.lookup, run_underlying hT, MapKept.run_getObj_map hb, run_checkKey hkt, h2, hzr, h1]
      ·refine ⟨y'.val, ?_, ?_⟩
       ·have hr := hok.2.2.2 y' (by have := List.mem_of_getElem? h2; simpa using this) q h3 hqok e
        rw [h1] at hl
        unfold lookD at hl
        split at hl
        ·rename_i hz1 _; rw [hz1] at hr; simp only [cond_true, Option.some.injEq] at hl; subst hl; exact hr
        ·rename_i k _ j _ hz1 _
         rw [hz1] at hr
         by_cases hkj : k = j
         ·subst hkj; simp only [decide_true, cond_true, Option.some.injEq] at hl; subst hl; exact hr
         ·simp [hkj] at hl
        ·rename_i hz1 _; rw [hz1] at hr; simp only [cond_true, Option.some.injEq] at hl; subst hl; exact hr
        ·cases hl
       ·simp [Instr.lookup, run_underlying hT, MapKept.run_getObj_map hb, run_checkKey hkt, h4, h1]
     obtain ⟨r, r1, r2⟩ := hval
     refine ⟨_, ?_, r2⟩
     subst hq
     cases ok
     ·simpa using r1
     ·simp only [cond_true, if_true, rep, repT]
      exact ⟨[r, .bool (m.dom q)], rfl, r, _, rfl, r1, _, _, rfl, rfl, rfl⟩
    ·cases hq
   ·cases hq
  ·simp [hmk] at hq
 ·cases hq
end
end Go.Sx
namespace Go.Sx
open Go.RowKit
open Go.ChangeMaps (setBlock)
theorem modify_spec {es : Array MapEntry} {j : Nat} {y : MapEntry} {k v : Value} (hj : es.toList[j]? = some y) (hk : y.key = k) :
  ((es.modify j fun e => { e with key := k, val := v }).toList.map (·.born) = es.toList.map (·.born)) ∧ ((es.modify j fun e => { e with key := k, val := v }).toList.map (·.key) = es.toList.map (·.key)) ∧
  (∀ x, x ∈ es.modify j (fun e => { e with key := k, val := v }) → (x ∈ es ∧ x ≠ y) ∨ x = { y with key := k, val := v } ∨ x ∈ es) ∧
  ∀ i, (es.modify j fun e => { e with key := k, val := v }).toList[i]? = if i = j then some { y with key := k, val := v } else es.toList[i]? := by
 have hjl : j < es.size := by have := (List.getElem?_eq_some_iff.1 hj).1; simpa using this
 have hget : ∀ i, (es.modify j fun e => { e with key := k, val := v }).toList[i]? = if i = j then some { y with key := k, val := v } else es.toList[i]? := fun i => by
  simp only [Array.getElem?_toList, Array.getElem?_modify]
  by_cases hij : j = i
  ·subst hij
   simp only [if_true]
   have : es[j]? = some y := by simpa using hj
   rw [this]; rfl
  ·have : ¬ i = j := fun h => hij h.symm
   simp [hij, this]
 refine ⟨?_, ?_, fun x hx => ?_, hget⟩
 ·apply List.ext_getElem?
  intro i
  simp only [List.getElem?_map, hget]
  by_cases hij : i = j
  ·subst hij; simp [hj]
  ·simp [hij]
 ·apply List.ext_getElem?
  intro i
  simp only [List.getElem?_map, hget]
  by_cases hij : i = j
  ·subst hij; simp [hj, hk]
  ·simp [hij]
 ·obtain ⟨i, hi⟩ := List.getElem?_of_mem (show x ∈ (es.modify j fun e => { e with key := k, val := v }).toList from Array.mem_toList_iff.2 hx)
  rw [hget] at hi
  by_cases hij : i = j
  ·simp only [hij, if_true, Option.some.injEq] at hi; exact .inr (.inl hi.symm)
  ·simp only [hij, if_false] at hi; exact .inr (.inr (by have := List.mem_of_getElem? hi; simpa using this))
theorem nodup_idx {α : Type} {l : List α} (hn : l.Nodup) {i j : Nat} {a : α} (hi : l[i]? = some a) (hj : l[j]? = some a) : i = j := by
 obtain ⟨h1, h2⟩ := List.getElem?_eq_some_iff.1 hi
 obtain ⟨h3, h4⟩ := List.getElem?_eq_some_iff.1 hj
 have hp := List.pairwise_iff_getElem.1 hn
 rcases Nat.lt_trichotomy i j with h | h | h
 ·exact absurd (h2.trans h4.symm) (hp i j h1 h3 h)
 ·exact h
 ·exact absurd (h4.trans h2.symm) (hp j i h3 h1 h)
theorem nodup_key {es : Array MapEntry} (h : es.toList.Pairwise fun x y => x.key ≠ y.key) : (es.toList.map (·.key)).Nodup := List.pairwise_map.2 h
theorem mapOk_set {h : Hp} {m : MD} {es : Array MapEntry} {clock : Nat} (x : mapOk h m es clock) {q : MK} (hq : q.ok m.kk = true) {j : Nat} {y : MapEntry} (hd : m.dom q = true) (hj : es.toList[j]? = some y) (hk : y.key = q.val m.kk) {d : SD} {v : Value} (hv : ∀ e, rep h d e v) :
  mapOk h ⟨m.kk, m.n, addK q m.dom, setD q d m.f, none⟩ (es.modify j fun e => { e with key := q.val m.kk, val := v }) clock := by
 obtain ⟨x1, x2, x3, x4⟩ := x
 obtain ⟨m1, m2, m3, m4⟩ := modify_spec (v := v) hj hk
 have hadd : addK q m.dom = m.dom := by
  funext r
  simp only [addK]
  by_cases hr : r = q
  ·subst hr; simp [hd]
  ·simp [hr]
 have old : ∀ z, z ∈ es.modify j (fun e => { e with key := q.val m.kk, val := v }) → ∃ z0 ∈ es, z.born = z0.born ∧ z.key = z0.key := fun z hz => by
  rcases m3 z hz with h1 | h1 | h1
  ·exact ⟨z, h1.1, rfl, rfl⟩
  ·refine ⟨y, by have := List.mem_of_getElem? hj; simpa using this, ?_, ?_⟩
   ·rw [h1]
   ·rw [h1, hk]
  ·exact ⟨z, h1, rfl, rfl⟩
 refine ⟨by simpa using x1, x2, ⟨fun z hz => ?_, by rw [m1]; exact x3.nodup, fun z hz => ?_, fun r hr => ?_, ?_⟩, fun z hz r hr hok e => ?_⟩
 ·obtain ⟨z0, h1, h2, _⟩ := old z hz; rw [h2]; exact x3.born z0 h1
 ·obtain ⟨z0, h1, _, h2⟩ := old z hz; rw [h2, hadd]; exact x3.key z0 h1
 ·rw [hadd] at hr
  obtain ⟨r1, z0, h1, h2⟩ := x3.all r hr
  refine ⟨r1, ?_⟩
  have hm : r.val m.kk ∈ (es.modify j fun e => { e with key := q.val m.kk, val := v }).toList.map (·.key) := by
   rw [m2]; exact List.mem_map.2 ⟨z0, by simpa using h1, h2⟩
  obtain ⟨z, hz, hzk⟩ := List.mem_map.1 hm
  exact ⟨z, Array.mem_toList_iff.1 hz, hzk⟩
 ·exact List.pairwise_map.1 (by rw [m2]; exact nodup_key x3.apart)
 ·simp only [setD]
  obtain ⟨i, hi⟩ := List.getElem?_of_mem (show z ∈ (es.modify j fun e => { e with key := q.val m.kk, val := v }).toList from Array.mem_toList_iff.2 hz)
  rw [m4] at hi
  by_cases hij : i = j
  ·simp only [hij, if_true, Option.some.injEq] at hi
   subst hi
   simp only at hr
   rw [if_pos (MK.val_inj hok hq hr.symm)]
   exact hv e
  ·simp only [hij, if_false] at hi
   have hzm : z ∈ es := by have := List.mem_of_getElem? hi; simpa using this
   by_cases hrq : r = q
   ·exfalso
    subst hrq
    have hnd := nodup_key x3.apart
    have h1 : (es.toList.map (·.key))[i]? = some (r.val m.kk) := by simp only [List.getElem?_map, hi, Option.map_some, hr]
    have h2 : (es.toList.map (·.key))[j]? = some (r.val m.kk) := by simp only [List.getElem?_map, hj, Option.map_some, hk]
    exact hij (nodup_idx hnd h1 h2)
   ·rw [if_neg hrq]
    exact x4 z hzm r hr hok e
theorem mapOk_push {h : Hp} {m : MD} {es : Array MapEntry} {clock : Nat} (x : mapOk h m es clock) {q : MK} (hq : q.ok m.kk = true) (hd : m.dom q = false) (hnew : ∀ y ∈ es.toList, y.key ≠ q.val m.kk) {d : SD} {v : Value} (hv : ∀ e, rep h d e v) (hn : m.n < maxN) :
  mapOk h ⟨m.kk, m.n + 1, addK q m.dom, setD q d m.f, none⟩ (es.push { key := q.val m.kk, val := v, born := clock }) (clock + 1) := by
 obtain ⟨x1, x2, x3, x4⟩ := x
 refine ⟨by simpa using x1, hn, ⟨fun z hz => ?_, ?_, fun z hz => ?_, fun r hr => ?_, ?_⟩, fun z hz r hr hok e => ?_⟩
 ·rcases Array.mem_push.1 hz with h1 | rfl
  ·exact Nat.lt_succ_of_lt (x3.born z h1)
  ·exact Nat.lt_succ_self _
 ·simp only [Array.toList_push, List.map_append, List.map_cons, List.map_nil]
  refine List.nodup_append.2 ⟨x3.nodup, by simp, fun a ha b hb => ?_⟩
  simp only [List.mem_singleton] at hb
  subst hb
  obtain ⟨z, hz, rfl⟩ := List.mem_map.1 ha
  have := x3.born z (by simpa using hz)
  omega
 ·rcases Array.mem_push.1 hz with h1 | rfl
  ·obtain ⟨p, p1, p2, p3⟩ := x3.key z h1
   exact ⟨p, p1, p2, by simp [addK, p3]⟩
  ·exact ⟨q, hq, rfl, by simp [addK]⟩
 ·simp only [addK, Bool.or_eq_true, decide_eq_true_eq] at hr
  rcases hr with rfl | hr
  ·exact ⟨hq, _, Array.mem_push_self, rfl⟩
  ·obtain ⟨r1, z, h1, h2⟩ := x3.all r hr
   exact ⟨r1, z, Array.mem_push.2 (.inl h1), h2⟩
 ·simp only [Array.toList_push]
  refine List.pairwise_append.2 ⟨x3.apart, by simp, fun a ha b hb => ?_⟩
  simp only [List.mem_singleton] at hb
  subst hb
  exact hnew a ha
 ·simp only [setD]
  rcases Array.mem_push.1 hz with h1 | rfl
  ·have hne : r ≠ q := fun hc => hnew z (by simpa using h1) (by rw [hr, hc])
   rw [if_neg hne]
   exact x4 z h1 r hr hok e
  ·rw [if_pos (MK.val_inj hok hq hr.symm)]
   exact hv e
section
variable {P : Program}
theorem sameBits_key (q : MK) (kk : Option IntKind) (hq : q.ok kk = true) (n : Nat) : Instr.sameBits n (q.val kk) (q.val kk) = true := by
 cases kk <;> cases q <;> simp only [MK.ok, Bool.false_eq_true] at hq
 ·rename_i b
  simp only [MK.val]
  have : (b == b) = true := by obtain ⟨x⟩ := b; show (x == x) = true; simp
  cases n <;> simp [Instr.sameBits, this]
 ·simp only [MK.val]
  cases n <;> simp [Instr.sameBits]
theorem run_update {T kt et : Nat} {h : Hp} {m : MD} {es : Array MapEntry} {clock b : Nat} {w : World} (hb : w.heap[b]? = some (.map es clock)) (x : mapOk h m es clock) (hT : P.underlying T = some (.map kt et)) (hkt : KeyT P kt m.kk) {q : MK} (hq : q.ok m.kk = true) {d : SD} {v : Value} (hv : ∀ e, rep h d e v) (hn : m.n < maxN) :
  ∃ es' clock', (Instr.mapUpdate T (.map (some b)) (q.val m.kk) v).run P w = .ok () (setBlock w b (.map es' clock')) ∧ mapOk h ⟨m.kk, bif m.dom q then m.n else m.n + 1, addK q m.dom, setD q d m.f, none⟩ es' clock' := by
 rcases run_findKey (P := P) x hkt hq w with ⟨h1, h2, h3⟩ | ⟨j, y, h1, h2, h3, h4⟩
 ·refine ⟨_, _, ?_, by rw [h1]; exact mapOk_push x hq h1 h3 hv hn⟩
  simp [Instr.mapUpdate, run_underlying hT, MapKept.run_getObj_map hb, run_checkKey hkt, h2, MapKept.run_setObj_map _ hb, setBlock]
 ·refine ⟨_, _, ?_, by rw [h1]; exact mapOk_set x hq h1 h2 h3 hv⟩
  have hjj : es[j]? = some y := by simpa using h2
  have hks : (Instr.keyThatStays (q.val m.kk) (q.val m.kk)).run P w = .ok (q.val m.kk) w := by
   simp [Instr.keyThatStays, sameBits_key q m.kk hq]
  simp [Instr.mapUpdate, run_underlying hT, MapKept.run_getObj_map hb, run_checkKey hkt, h4, hjj, h3, hks, MapKept.run_setObj_map _ hb, setBlock]
end
end Go.Sx
namespace Go.Sx
open Go.RowKit
open Go.ChangeMaps (setBlock)
section
variable {P : Program} {F : List Nat} {w0 : Base} {Q : Exit → Act → World → Prop} {s : St} {ops : Array Oper} {rest : List Oper}
theorem Den.newObj {h : Hp} {e : Nm} {a : Act} {w : World} (D : Den F w0 s h e a w) {k : Nat} {m : MD} {o : Obj} (hf : Free s k) (ho : mpObj h m w.heap.size o) (nx : Nat) (hl : m.lv = false := by rfl) :
  Den F w0 { s with nx := nx, ow := upd s.ow k (.mp m []) } h (e.setB k w.heap.size) a (w.alloc o) := by
 have hb := Below.alloc (Below.refl w.heap.size w) (Nat.le_refl _) o
 have D1 := (D.below hb).rename (e.but_setB k w.heap.size) hf
 have hnone : h w.heap.size = none := by
  cases hx : h w.heap.size with
  | none => rfl
  | some o => have := (Array.getElem?_eq_some_iff.1 (D.sub _ _ hx)).1; omega
 refine D1.addOwn (o := .mp m []) (free_lkO hf) ((obOk_mp hl).2 ⟨o, ?_, by simpa only [Nm.setB, if_true] using ho⟩) (fun b hb => ?_) (fun j o' b hj hb' hc' => ?_) nx
 ·simp only [Nm.setB, if_true]; exact heap_alloc_new w _
 ·rw [blk_mp hl] at hb
  simp only [Nm.setB, if_true, Option.some.injEq] at hb
  subst hb
  exact ⟨.inl D.keeps.size, hnone⟩
 ·rw [blk_mp hl] at hc'
  simp only [Nm.setB, if_true, Option.some.injEq] at hc'
  subst hc'
  have hjk : j ≠ k := fun x => by subst x; rw [free_lkO hf] at hj; cases hj
  rw [blk_but (e.but_setB k _) hjk] at hb'
  have := obOk_lt (D.own j o' hj) hb'
  omega
theorem Den.setMp {h : Hp} {e : Nm} {a : Act} {w : World} (D : Den F w0 s h e a w) {k : Nat} {m m' : MD} {l : List (SD × SD)} {o o' : Obj} (ho : lkO s.ow k = some (.mp m l)) (hb : w.heap[e.bs k]? = some o) (h' : mpObj h m' (e.bs k) o') (hl : m.lv = false := by rfl) (hl' : m'.lv = false := by rfl) :
  Den F w0 { s with ow := upd s.ow k (.mp m' []) } h e a (setBlock w (e.bs k) o') := by
 have hs := MapKept.heap_set (o' := o') hb
 refine D.setOwn (o' := .mp m' []) ho (by rw [blk_mp hl, blk_mp hl']) ((obOk_mp hl').2 ⟨o', hs.1, h'⟩) (fun b hbk => ?_) rfl rfl rfl (by simp [setBlock])
 exact hs.2 b fun hc => hbk (by simp [blk_mp hl, hc])
def newS (s : St) (t : Nat) (d : SD) (o : OB) : Option St :=
 bif Nat.blt t s.n && s.free s.nx then some ⟨s.n, s.nx + 1, upd s.sl t d, upd s.ow s.nx o⟩ else none
theorem newS_ok {t : Nat} {d : SD} {o : OB} {s' : St} (h : newS s t d o = some s') : t < s.n ∧ Free s s.nx ∧ s' = ⟨s.n, s.nx + 1, upd s.sl t d, upd s.ow s.nx o⟩ := by
 unfold newS at h
 cases hb : (Nat.blt t s.n && s.free s.nx)
 ·rw [hb] at h; cases h
 ·rw [hb] at h
  simp only [cond_true, Option.some.injEq] at h
  simp only [Bool.and_eq_true] at hb
  exact ⟨blt_lt hb.1, Free.of hb.2, h.symm⟩
theorem upon_w {o : Oper} {a : Act} {w w' : World} {v : Value} {K : Act → World → Prop} {Q : Exit → Act → World → Prop} (h : (execOp a.eval o).run P w = .ok (.value v) w') (hk : K (a.put o.dst v) w') : o.wp P a w K Q := by
 unfold Oper.wp
 rw [h]
 exact hk
theorem stepmk {t T : Nat} {ty : Nat} {pos : String} {af : Array Edge} {kk : Option IntKind} {s' : St} (f : MK → SD) (_hk : kkT P T = some kk) (hs : newS s t (.omap s.nx) (.mp ⟨kk, 0, fun _ => false, f, none⟩ []) = some s')
  (hn : RunL P F w0 ops Q rest s') : RunL P F w0 ops Q (⟨some t, .makeMap T none, ty, pos, af, none⟩ :: rest) s := fun h e a w D => by
 obtain ⟨ht, hf, rfl⟩ := newS_ok hs
 refine wpS_plain rfl fun K hK => ?_
 have hr : (execOp a.eval ⟨some t, .makeMap T none, ty, pos, af, none⟩).run P w = .ok (.value (.map (some w.heap.size))) (w.alloc (.map #[] 0)) := by
  simp only [execOp, Instr.makeMap, newObj]; rfl
 have D1 := D.newObj (k := s.nx) (m := ⟨kk, 0, fun _ => false, f, none⟩) (o := .map #[] 0) hf ⟨#[], 0, rfl, rfl, Nat.zero_le _, ⟨by simp, by simp, by simp, fun q hq => (by cases hq), by simp⟩, by simp⟩ (s.nx + 1)
 have D2 := D1.put (i := t) (d := .omap s.nx) (v := .map (some w.heap.size)) ht (by simp [rep, Nm.setB])
 exact upon_w hr (hK _ _ (hn _ _ _ _ D2))
def muD (P : Program) (s : St) (T : Nat) (x y z : SD) : Option (List Prop × St) :=
 match x with
 | .omap j => match lkO s.ow j, kkT P T with
  | some (.mp m _), some kk => match m.it, keyMK kk y with
   | none, some q => bif decide (m.kk = kk) && pureD z then some ([m.n < maxN], { s with ow := upd s.ow j (.mp ⟨m.kk, bif m.dom q then m.n else m.n + 1, addK q m.dom, setD q z m.f, none⟩ []) }) else none
   | _, _ => none
  | _, _ => none
 | _ => none
theorem wp_mu {T : Nat} {x y z : Operand} {o : Oper} (ho : o.op = .mapUpdate T x y z ∨ o.op = .insert T x y z) (hd : o.dst = none) {p : List Prop} {s' : St} {h : Hp} {e : Nm} {a : Act} {w : World} (D : Den F w0 s h e a w)
  (hq : muD P s T (unG s x) (unG s y) (unG s z) = some (p, s')) (hp : allP p) (hg : allP (gCs s [x, y, z] [])) (K : Act → World → Prop) (Q : Exit → Act → World → Prop) (hK : ∀ h' e' a' w', Den F w0 s' h' e' a' w' → K a' w') : o.wp P a w K Q := by
 have hgg := (allP_gCs hg).1
 have vx := ungd_ok (D.ev x) fun c d hc => hgg x (by simp) c d hc
 have vy := ungd_ok (D.ev y) fun c d hc => hgg y (by simp) c d hc
 have vz := ungd_ok (D.ev z) fun c d hc => hgg z (by simp) c d hc
 change rep h (unG s x) e _ at vx
 change rep h (unG s y) e _ at vy
 change rep h (unG s z) e _ at vz
 unfold muD at hq
 split at hq
 ·rename_i j hxj
  rw [hxj] at vx
  split at hq
  ·rename_i m l kk hm hkk
   split at hq
   ·rename_i q hit hqk
    by_cases hmk : m.kk = kk
    ·cases hpz : pureD (unG s z)
     ·simp [hpz] at hq
     ·simp only [hmk, hpz, decide_true, Bool.and_self, cond_true, Option.some.injEq, Prod.mk.injEq] at hq
      obtain ⟨rfl, rfl⟩ := hq
      have hlv : m.lv = false := by simp only [MD.lv, hit]
      obtain ⟨ho1, ho2, ho3⟩ := D.ownM hm (MD.nlv hlv)
      unfold mpObj at ho3
      rw [hit] at ho3
      obtain ⟨es, clock, rfl, hok⟩ := ho3
      obtain ⟨hyv, hqok⟩ := keyMK_ok hqk vy
      obtain ⟨kt, et, hT, hkt⟩ := kkT_ok hkk
      subst hmk
      simp only [rep] at vx
      obtain ⟨es', clock', hr, hok'⟩ := run_update (P := P) ho2 hok hT hkt hqok (fun e' => pure_rep (e' := e') _ _ hpz vz) hp.1
      have hrun : (execOp a.eval o).run P w = .ok .skip (setBlock w (e.bs j) (.map es' clock')) := by
       rcases ho with ho | ho <;> simp [execOp, ho, vx, hyv, hr]
      have D' := D.setMp (m' := ⟨m.kk, bif m.dom q then m.n else m.n + 1, addK q m.dom, setD q (unG s z) m.f, none⟩) (o' := .map es' clock') hm ho2 ⟨es', clock', rfl, hok'⟩ hlv
      unfold Oper.wp
      rw [hrun]
      refine hK h e _ _ ?_
      show Den F w0 _ h e (a.put o.dst undef) _
      rw [hd]
      exact D'.put_none _
    ·simp [hmk] at hq
   ·cases hq
  ·cases hq
 ·cases hq
theorem stepmu {T : Nat} {x y z : Operand} {ty : Nat} {pos : String} {af : Array Edge} {p : List Prop} {s' : St} (hq : muD P s T (unG s x) (unG s y) (unG s z) = some (p, s')) (hp : allP p) (hg : allP (gCs s [x, y, z] []))
  (hn : RunL P F w0 ops Q rest s') : RunL P F w0 ops Q (⟨none, .mapUpdate T x y z, ty, pos, af, none⟩ :: rest) s := fun h e a w D =>
 wpS_plain rfl fun K hK => wp_mu (.inl rfl) rfl D hq hp hg K _ fun h' e' a' w' D' => hK _ _ (hn _ _ _ _ D')
theorem stepmi {T : Nat} {x y z : Operand} {ty : Nat} {pos : String} {af : Array Edge} {p : List Prop} {s' : St} (hq : muD P s T (unG s x) (unG s y) (unG s z) = some (p, s')) (hp : allP p) (hg : allP (gCs s [x, y, z] []))
  (hn : RunL P F w0 ops Q rest s') : RunL P F w0 ops Q (⟨none, .insert T x y z, ty, pos, af, none⟩ :: rest) s := fun h e a w D =>
 wpS_plain rfl fun K hK => wp_mu (.inr rfl) rfl D hq hp hg K _ fun h' e' a' w' D' => hK _ _ (hn _ _ _ _ D')
theorem steplk {t T : Nat} {x y : Operand} {ok : Bool} {ty : Nat} {pos : String} {af : Array Edge} {d : SD} {s' : St} (hq : mlD P s T (unG s x) (unG s y) ok = some d) (hg : allP (gCs s [x, y] [])) (hs : cstep s t d = some s')
  (hn : RunL P F w0 ops Q rest s') : RunL P F w0 ops Q (⟨some t, .lookup T x y ok, ty, pos, af, none⟩ :: rest) s := fun h e a w D => by
 obtain ⟨ht, rfl⟩ := cstep_ok hs
 refine wpS_plain rfl fun K hK => ?_
 obtain ⟨r, r1, r2⟩ := run_mlD D hq (D.unG (l := [x, y]) (r := []) hg (by simp)) (D.unG (l := [x, y]) (r := []) hg (by simp))
 refine upon_ok (v := r) (by simp [execOp, r2]) (hK _ _ (hn _ _ _ _ (D.put ht r1)))
theorem steplkg {t T : Nat} {x y : Operand} {ok : Bool} {ty : Nat} {pos : String} {af : Array Edge} {j : Nat} {b g : Bool} {d : SD} {s' : St} (tj : Nat) (hj : (ops[j]?).bind (·.dst) = some tj) (hc : gV (lkp s.sl tj) b = some g)
  (hq : mlD P s T (unG s x) (unG s y) ok = some d) (hg : g = true → allP (gCs s [x, y] [])) (hs : cstep s t (mkG g d) = some s')
  (hn : RunL P F w0 ops Q rest s') : RunL P F w0 ops Q (⟨some t, .lookup T x y ok, ty, pos, af, some (j, b)⟩ :: rest) s := fun h e a w D => by
 obtain ⟨ht, rfl⟩ := cstep_ok hs
 have hv := D.slot tj
 refine wpS_step fun K hK => ?_
 rw [wanted_of (o := ⟨some t, .lookup T x y ok, ty, pos, af, some (j, b)⟩) rfl hj hv hc]
 cases hgb : g
 ·rw [if_neg (by simp)]
  refine hK _ _ (hn _ _ _ _ (D.put ht ?_))
  exact mkG_ok (fun h => by rw [hgb] at h; cases h) fun _ => rfl
 ·rw [if_pos rfl]
  obtain ⟨r, r1, r2⟩ := run_mlD D hq (D.unG (l := [x, y]) (r := []) (hg hgb) (by simp)) (D.unG (l := [x, y]) (r := []) (hg hgb) (by simp))
  refine upon_ok (v := r) (by simp [execOp, r2]) (hK _ _ (hn _ _ _ _ (D.put ht ?_)))
  exact mkG_ok (fun _ => r1) fun h => by rw [hgb] at h; cases h
theorem steprng {t T : Nat} {x : Operand} {ty : Nat} {pos : String} {af : Array Edge} {kk : Option IntKind} {n : Nat} {dom : MK → Bool} {f : MK → SD} {s' : St} (hx : ev s x = .fmap kk n dom f) (hk : (kkT P T).isSome = true)
  (hs : newS s t (.loc s.nx 0) (.mp ⟨kk, n, dom, f, some (.iter n (fun _ => false) none)⟩ []) = some s')
  (hn : RunL P F w0 ops Q rest s') : RunL P F w0 ops Q (⟨some t, .range T x, ty, pos, af, none⟩ :: rest) s := fun h e a w D => by
 obtain ⟨ht, hf, rfl⟩ := newS_ok hs
 have hv := D.ev x
 rw [hx] at hv
 simp only [rep] at hv
 obtain ⟨b, es, clock, h1, h2, h3, h4, h5, h6⟩ := hv
 obtain ⟨kk', hkk⟩ := Option.isSome_iff_exists.1 hk
 obtain ⟨kt, et, hT, _⟩ := kkT_ok hkk
 refine wpS_plain rfl fun K hK => ?_
 have hr := run_range_map w T kt et b es clock hT (D.sub _ _ h2)
 have D1 := D.newObj (k := s.nx) (m := ⟨kk, n, dom, f, some (.iter n (fun _ => false) none)⟩) (o := .mapIter (some b) clock #[] clock) hf
  ⟨b, es, clock, #[], rfl, h2, ⟨h3, h4, h5, h6⟩, by rw [show (es.filter fun e => !(#[] : Array Nat).contains e.born) = es from Array.filter_eq_self.2 (by simp)]; exact h3, by simp, fun q hq => by cases hq⟩ (s.nx + 1)
 have D2 := D1.put (i := t) (d := .loc s.nx 0) (v := .pointer (some ⟨w.heap.size, 0, none⟩)) ht (by simp [rep, Nm.setB])
 exact upon_w (v := .pointer (some ⟨w.heap.size, 0, none⟩)) (by simp [execOp, h1, hr]) (hK _ _ (hn _ _ _ _ D2))
theorem stepnxt {t j : Nat} {x : Operand} {ty : Nat} {pos : String} {af : Array Edge} {k : IntKind} {n c : Nat} {dom V : MK → Bool} {cur : Option MK} {f : MK → SD} {l : List (SD × SD)} (hx : ev s x = .loc j 0) (ho : lkO s.ow j = some (.mp ⟨some k, n, dom, f, some (.iter c V cur)⟩ l)) (ht : Nat.blt t s.n = true)
  (h1 : (∀ q, dom q = true → V q = true) → RunL P F w0 ops Q rest (s.put t (.tup [.bool false])))
  (h2 : ∀ (y : Int) (c' : Nat), c' < c → dom (.i y) = true → V (.i y) = false → RunL P F w0 ops Q rest ⟨s.n, s.nx, upd s.sl t (.tup [.bool true, .int k y, f (.i y)]), upd s.ow j (.mp ⟨some k, n, dom, f, some (.iter c' (addK (.i y) V) (some (.i y)))⟩ [])⟩) :
  RunL P F w0 ops Q (⟨some t, .next x false, ty, pos, af, none⟩ :: rest) s := fun h e a w D => by
 have hv := D.ev x
 rw [hx] at hv
 simp only [rep] at hv
 obtain ⟨o, o1, o2⟩ := D.own j _ ho
 obtain ⟨b, es, clock, seen, rfl, g2, g3, g4, g5, g6⟩ := (show iterOk h _ c V cur o from o2)
 have hb := D.sub _ _ g2
 refine wpS_plain rfl fun K hK => ?_
 rcases run_next_at (P := P) w ty (e.bs j) b clock clock seen es clock o1 hb (fun x hx => g3.2.2.1.born x (Array.mem_toList_iff.1 hx)) (Nat.le_refl _) with ⟨r1, r2⟩ | ⟨en, r1, w1, r2, r3⟩
 ·refine upon_ok (v := .tuple #[.bool false]) (by simp [execOp, hv, r2]) (hK _ _ (h1 (fun q hq => ?_) _ _ _ _ (D.put (blt_lt ht) (by simp [rep, repT]))))
  obtain ⟨q1, z, q2, q3⟩ := g3.2.2.1.all q hq
  rw [g5 z q2 q q3 q1]
  exact all_seen es seen r1 z (Array.mem_toList_iff.2 q2)
 ·obtain ⟨r4, r5⟩ := mem_left r1
  have r4' := Array.mem_toList_iff.1 r4
  obtain ⟨q, q1, q2, q3⟩ := g3.2.2.1.key en r4'
  cases q with
  | s bb => cases q1
  | i y =>
   have D1 : Den F w0 s h e a w1 := by
    rcases r2 with rfl | rfl
    ·exact D
    ·exact D.drew
   have o1' : w1.heap[e.bs j]? = some (.mapIter (some b) clock seen clock) := by
    rcases r2 with rfl | rfl <;> exact o1
   have hVf : V (.i y) = false := by rw [g5 en r4' _ q2 q1]; exact r5
   have hshr := left_shrinks es seen en r1
   unfold leftOf at hshr
   rw [g4] at hshr
   obtain ⟨c', hc'⟩ : ∃ c', (es.filter fun e => !(seen.push en.born).contains e.born).size = c' := ⟨_, rfl⟩
   rw [hc'] at hshr
   have hiter : iterOk h ⟨some k, n, dom, f, some (.iter c' (addK (.i y) V) (some (.i y)))⟩ c' (addK (.i y) V) (some (.i y)) (.mapIter (some b) clock (seen.push en.born) clock) := by
    refine ⟨b, es, clock, seen.push en.born, rfl, g2, g3, hc', fun z hz p hp hpk => ?_, fun p hp => ?_⟩
    ·rw [contains_push]
     have e0 := g5 z hz p hp hpk
     simp only [addK, e0]
     by_cases hpq : p = .i y
     ·have hze : z.key = en.key := by rw [hp, q2, hpq]
      have : z = en := entry_eq g3.2.2.1.apart (Array.mem_toList_iff.2 hz) r4 hze
      simp [hpq, this]
     ·have hne : z.born ≠ en.born := fun hc => by
       have hnd := g3.2.2.1.nodup
       obtain ⟨i1, h1⟩ := List.getElem?_of_mem (Array.mem_toList_iff.2 hz)
       obtain ⟨i2, h2⟩ := List.getElem?_of_mem r4
       have := nodup_idx hnd (i := i1) (j := i2) (a := z.born) (by simp [List.getElem?_map, h1]) (by simp [List.getElem?_map, h2, hc])
       subst this
       rw [h1] at h2
       cases h2
       exact hpq (MK.val_inj hpk q1 (hp.symm.trans q2))
      have : (z.born == en.born) = false := by simp [hne]
      simp [hpq, this]
    ·cases hp
     exact ⟨q1, en, r4', q2, by simp⟩
   have D2 := D1.setMp (m' := ⟨some k, n, dom, f, some (.iter c' (addK (.i y) V) (some (.i y)))⟩) (o' := .mapIter (some b) clock (seen.push en.born) clock) ho o1' hiter
   have hval := fun e => g3.2.2.2 en r4' (.i y) q2 q1 e
   have D3 := D2.put (i := t) (d := .tup [.bool true, .int k y, f (.i y)]) (v := .tuple #[.bool true, en.key, en.val]) (blt_lt ht) (by
    simp only [rep, repT]
    exact ⟨[.bool true, en.key, en.val], rfl, _, _, rfl, rfl, _, _, rfl, q2, _, _, rfl, hval e, rfl⟩)
   refine upon_w (v := .tuple #[.bool true, en.key, en.val]) (by simp [execOp, hv, r3]) (hK _ _ (h2 y c' hshr q3 hVf _ _ _ _ D3))
where
 entry_eq : ∀ {l : List MapEntry}, l.Pairwise (fun x y => x.key ≠ y.key) → ∀ {x y : MapEntry}, x ∈ l → y ∈ l → x.key = y.key → x = y
  | [], _, _, _, hx, _, _ => by simp at hx
  | a :: r, hp, x, y, hx, hy, h => by
   obtain ⟨h1, h2⟩ := List.pairwise_cons.1 hp
   rcases List.mem_cons.1 hx with ex | hx'
   ·rcases List.mem_cons.1 hy with ey | hy'
    ·rw [ex, ey]
    ·exact absurd (ex ▸ h) (h1 y hy')
   ·rcases List.mem_cons.1 hy with ey | hy'
    ·exact absurd (ey ▸ h).symm (h1 x hx')
    ·exact entry_eq h2 hx' hy' h
theorem stepent {t j : Nat} {x : Operand} {ty : Nat} {pos : String} {af : Array Edge} {k : IntKind} {n c : Nat} {dom V : MK → Bool} {y : Int} {f : MK → SD} {l : List (SD × SD)} {s' : St} (hx : ev s x = .loc j 0) (ho : lkO s.ow j = some (.mp ⟨some k, n, dom, f, some (.iter c V (some (.i y)))⟩ l))
  (hs : cstep s t (.tup [.int k y, f (.i y)]) = some s')
  (hn : RunL P F w0 ops Q rest s') : RunL P F w0 ops Q (⟨some t, .entry x, ty, pos, af, none⟩ :: rest) s := fun h e a w D => by
 obtain ⟨ht, rfl⟩ := cstep_ok hs
 have hv := D.ev x
 rw [hx] at hv
 simp only [rep] at hv
 obtain ⟨o, o1, o2⟩ := D.own j _ ho
 obtain ⟨b, es, clock, seen, rfl, g2, g3, g4, g5, g6⟩ := (show iterOk h _ c V (some (.i y)) o from o2)
 have hb := D.sub _ _ g2
 obtain ⟨q1, en, q2, q3, q4⟩ := g6 _ rfl
 refine wpS_plain rfl fun K hK => ?_
 obtain ⟨seen', hsn⟩ : ∃ seen' : Array Nat, seen = seen'.push en.born := ⟨seen.pop, by
  have hpos : 0 < seen.size := by
   cases hs0 : seen.size with
   | zero => have : seen = #[] := Array.eq_empty_of_size_eq_zero hs0; subst this; simp at q4
   | succ n => omega
  apply Array.ext'
  have h1 : seen.toList.getLast? = some en.born := by rw [Array.getLast?_toList]; exact q4
  have hne : seen.toList ≠ [] := fun hc => by rw [hc] at h1; cases h1
  simp only [Array.toList_push, Array.toList_pop]
  have h2 : seen.toList.getLast hne = en.born := by
   rw [List.getLast?_eq_some_getLast hne] at h1
   simpa using h1
  rw [← h2]
  exact (List.dropLast_concat_getLast hne).symm⟩
 subst hsn
 have hr := run_entry_at (P := P) w (e.bs j) b clock seen' es clock en o1 hb (Array.mem_toList_iff.2 q2) g3.2.2.1.nodup
 have hval := g3.2.2.2 en q2 (.i y) q3 q1 e
 refine upon_ok (v := .tuple #[en.key, en.val]) (by simp [execOp, hv, hr]) (hK _ _ (hn _ _ _ _ (D.put ht ?_)))
 simp only [rep, repT]
 exact ⟨[en.key, en.val], rfl, _, _, rfl, q3, _, _, rfl, hval, rfl⟩
end
end Go.Sx
namespace Go.Sx
open Go.RowKit
def apN (P : Program) (s : St) (T : Nat) (x y : SD) : Option (List Prop × List (Nat × Option OB) × OB) :=
 bif Nat.beq (kdT P T) 1 then
  match elT P T with
  | some te => bif Nat.ble 1 (szT P te) && Nat.ble 1 (byT P te) && Nat.ble (byT P te) 2048 && hasZ P te then
    match srcD (szT P te) y with
    | some (m, g) => match x with
     | .nils => some ([m ≤ 68719476736], [], .acc te (szT P te) m g)
     | .acc k => match lkO s.ow k with
      | some (.acc te' es' n f) => bif Nat.beq te te' && Nat.beq (szT P te) es' then
        some ([n + m ≤ 68719476736], [(k, none)], .acc te (szT P te) (n + m) (joinF n f g)) else none
      | _ => none
     | _ => none
    | none => none
   else none
  | none => none
 else none
def killO (kill : Option Nat) (l : List (Nat × OB)) : List (Nat × OB) :=
 match kill with
 | some k => del l k
 | none => l
theorem lkO_killO (kill : Option Nat) (l : List (Nat × OB)) (j : Nat) : lkO (killO kill l) j = if kill = some j then none else lkO l j := by
 cases kill with
 | none => simp [killO]
 | some k =>
  simp only [killO, lkO_del, Option.some.injEq]
  by_cases h : j = k
  ·subst h; simp
  ·have : ¬ k = j := fun e => h e.symm
   simp [h, this]
section
variable {P : Program} {F : List Nat} {w0 : Base} {s : St} {h : Hp} {e : Nm} {a : Act} {w : World}
theorem Den.accN (D : Den F w0 s h e a w) {k : Nat} {kill : Option Nat} (hf : Free s k) {T es n : Nat} {f : Nat → SD} {v' : Value} {w' : World} {row : Option Nat} (h1 : obOk h (e.setH k v') w' k (.acc T es n f))
  (hrow : ∀ b, row = some b → (w0.w.heap.size ≤ b ∨ (b ∈ F ∧ 700 ≤ k)) ∧ h b = none ∧ ∀ j o', kill ≠ some j → lkO s.ow j = some o' → o'.blk e j ≠ some b)
  (hblk : ∀ b, v'.ownBlock = some b → row = some b ∨ b = w.heap.size) (hg : w.grownBy w' row) :
  Den F w0 { s with ow := upd (killO kill s.ow) k (.acc T es n f) } h (e.setH k v') a w' := by
 have he := e.but_setH k v'
 have hfresh : h w.heap.size = none := by
  cases hx : h w.heap.size with
  | none => rfl
  | some o => have := (Array.getElem?_eq_some_iff.1 (D.sub _ _ hx)).1; omega
 have keep : ∀ b, b < w.heap.size → row ≠ some b → w'.heap[b]? = w.heap[b]? := fun b hb hne => hg.block b hb (fun hc => hne hc.symm)
 have hlk : ∀ j o, j ≠ k → lkO (upd (killO kill s.ow) k (.acc T es n f)) j = some o → kill ≠ some j ∧ lkO s.ow j = some o := fun j o hj ho => by
  rw [lkO_upd] at ho
  simp only [hj, if_false, lkO_killO] at ho
  by_cases hk : kill = some j
  ·simp [hk] at ho
  ·simp only [hk, if_false] at ho; exact ⟨hk, ho⟩
 have other : ∀ j o, kill ≠ some j → lkO s.ow j = some o → ∀ b, o.blk e j = some b → b < w.heap.size ∧ row ≠ some b := fun j o hj ho b hb => ⟨obOk_lt (D.own j o ho) hb, fun hc => (hrow b hc).2.2 j o hj ho hb⟩
 have hmine : ∀ b, v'.ownBlock = some b → (w0.w.heap.size ≤ b ∨ (b ∈ F ∧ 700 ≤ k)) ∧ h b = none ∧ ∀ j o', kill ≠ some j → lkO s.ow j = some o' → o'.blk e j ≠ some b := fun b hb => by
  rcases hblk b hb with hr | hr
  ·exact hrow b hr
  ·subst hr
   exact ⟨.inl D.keeps.size, hfresh, fun j o' hj ho hc => by have := (other j o' hj ho _ hc).1; omega⟩
 have hkk : ∀ o, lkO (upd (killO kill s.ow) k (.acc T es n f)) k = some o → o = .acc T es n f := fun o ho => by
  rw [lkO_upd] at ho
  simp only [if_true, Option.some.injEq] at ho
  exact ho.symm
 refine ⟨D.defers, D.size, fun t => rep_but he _ _ (hf.sl t) (D.slot t), fun j x hj => ?_, fun j x b hj hb => ?_, fun j j' o1 o2 b hne hj hj' hb => ?_, fun b x hx => ?_, ?_, D.le, D.neww, D.fix⟩
 ·by_cases hjk : j = k
  ·subst hjk; rw [hkk x hj]; exact h1
  ·obtain ⟨q1, q2⟩ := hlk j x hjk hj
   obtain ⟨_, m1, m2⟩ := hf.ow j x q2
   exact obOk_but he hjk m1 m2 (obOk_mono (Le.refl h) (fun b hb => keep b (other j x q1 q2 b hb).1 (other j x q1 q2 b hb).2) (D.own j x q2))
 ·by_cases hjk : j = k
  ·subst hjk
   rw [hkk x hj] at hb
   simp only [OB.blk, Nm.setH, if_true] at hb
   exact ⟨(hmine b hb).1, (hmine b hb).2.1⟩
  ·obtain ⟨q1, q2⟩ := hlk j x hjk hj
   rw [blk_but he hjk] at hb
   exact D.ownb j x b q2 hb
 ·by_cases hjk : j = k
  ·subst hjk
   have hjk' : j' ≠ j := fun x => hne x.symm
   obtain ⟨q1, q2⟩ := hlk j' o2 hjk' hj'
   rw [hkk o1 hj] at hb
   simp only [OB.blk, Nm.setH, if_true] at hb
   rw [blk_but he hjk']
   exact (hmine b hb).2.2 j' o2 q1 q2
  ·obtain ⟨q1, q2⟩ := hlk j o1 hjk hj
   rw [blk_but he hjk] at hb
   by_cases hjk' : j' = k
   ·subst hjk'
    rw [hkk o2 hj']
    simp only [OB.blk, Nm.setH, if_true]
    exact fun hc => (hmine b hc).2.2 j o1 q1 q2 hb
   ·obtain ⟨q3, q4⟩ := hlk j' o2 hjk' hj'
    rw [blk_but he hjk']
    exact D.apart j j' o1 o2 b hne q2 q4 hb
 ·have hlt := (Array.getElem?_eq_some_iff.1 (D.sub _ _ hx)).1
  rw [keep b hlt (fun hc => by have := (hrow b hc).2.1; rw [this] at hx; cases hx)]
  exact D.sub b x hx
 ·refine ⟨hg.os.trans D.keeps.os, hg.tape.trans D.keeps.tape, hg.output.trans D.keeps.output, Nat.le_trans D.keeps.size hg.size, fun b hb hF => ?_⟩
  rw [keep b (Nat.lt_of_lt_of_le hb D.keeps.size) (fun hc => ?_)]
  ·exact D.keeps.block b hb hF
  ·rcases (hrow b hc).1 with hx | hx
   ·omega
   ·exact hF hx.1
theorem wp_apN (D : Den F w0 s h e a w) {t T nx : Nat} (ht : t < s.n) (hF : Free s nx) {x y : Operand} {tys : Array Nat} {ty : Nat} {pos : String} {af : Array Edge} {g : Option (Nat × Bool)} {p : List Prop} {u : List (Nat × Option OB)} {ob : OB} (htys : tys = #[T, T]) {dx : SD} (hdx : rep h dx e (a.eval x))
  (hq : apN P s T dx (ev s y) = some (p, u, ob)) (hp : allP p) (hsd : ∀ k ob', u = [(k, ob')] → k < 700 ∨ 700 ≤ nx) (K : Act → World → Prop) (Q : Exit → Act → World → Prop) (hK : ∀ h' e' a' w', Den F w0 ⟨s.n, s.nx, upd s.sl t (.acc nx), appO ((nx, some ob) :: u) s.ow⟩ h' e' a' w' → K a' w') :
  (⟨some t, .call ⟨.builtin .append, #[x, y], tys⟩, ty, pos, af, g⟩ : Oper).wp P a w K Q := by
 subst htys
 unfold apN at hq
 cases hk : Nat.beq (kdT P T) 1
 ·rw [hk] at hq; cases hq
 ·rw [hk] at hq
  simp only [cond_true] at hq
  obtain ⟨te, hu⟩ := und1 hk
  split at hq
  ·rename_i te' hte
   have := elT_slice hu hte
   subst this
   cases hb : (Nat.ble 1 (szT P te') && Nat.ble 1 (byT P te') && Nat.ble (byT P te') 2048 && hasZ P te')
   ·rw [hb] at hq; cases hq
   ·rw [hb] at hq
    simp only [cond_true] at hq
    simp only [Bool.and_eq_true] at hb
    obtain ⟨⟨⟨b1, b2⟩, b4⟩, b3⟩ := hb
    have b4 := Nat.le_of_ble_eq_true b4
    have b1 := Nat.le_of_ble_eq_true b1
    have b2 := Nat.le_of_ble_eq_true b2
    obtain ⟨m0, hm0⟩ : ∃ m, szT P te' = m + 1 := ⟨szT P te' - 1, by omega⟩
    obtain ⟨i, hi, hs⟩ := info_of_szT hm0
    have hes : szT P te' = i.size := by omega
    have hby : byT P te' = i.bytes := by simp [byT, Program.bytesOf, hi]
    split at hq
    ·rename_i m gf hsrc
     obtain ⟨ao, c, hyv, hao, hml, news, hnl, hnc, hn1, hng⟩ := srcD_ok D.sub (D.ev y) hsrc
     cases hz : i.zero with
     | none => simp [hasZ, hi, hz] at b3
     | some z =>
      have hzs : z.cells.size = i.size := by
       simp only [hasZ, hi, Option.bind_some, hz, Bool.and_eq_true] at b3
       rw [← hes]
       exact Nat.eq_of_beq_eq_true b3.1
      have run : ∀ (v : Value) (n : Nat) (xs : List Value), w.ownsRow 0 te' i.size v n xs → n + m ≤ 68719476736 →
        ∃ v' w', (Builtin.append_ #[T, T] ty #[v, .slice ao m c]).run P w = .ok v' w' ∧ w'.ownsRow 0 te' i.size v' (n + m) (xs ++ news) ∧ w.grownBy w' v.ownBlock ∧ (v'.ownBlock = v.ownBlock ∨ v'.ownBlock = some w.heap.size) := fun v n xs hown hbn => by
       have hbytes : (n + m) * i.bytes ≤ 140737488355328 := by
        have : (n + m) * i.bytes ≤ 68719476736 * 2048 := Nat.mul_le_mul hbn (by rw [← hby]; exact b4)
        omega
       have h63 : n + m ≤ maxLen := by
        simp only [maxLen]; omega
       cases ao with
       | some ad =>
        obtain ⟨v', w', r1, r2, r3, _, r5⟩ := run_append_own_at (P := P) w 0 T ty te' i z i.size i.bytes hu hi hz rfl rfl hzs (by omega) v n xs hown ad m c news (by rw [← hes]; exact hnl) (hnc ad rfl) hn1 h63 hbytes (Nat.zero_le _)
        exact ⟨v', w', r1, r2, r3, r5⟩
       | none =>
        have hm := hao rfl
        subst hm
        have hnn : news = [] := List.eq_nil_of_length_eq_zero (by simpa using hnl)
        subst hnn
        refine ⟨v, w, ?_, by simpa using hown, ⟨rfl, rfl, rfl, Nat.le_refl _, fun _ _ _ => rfl⟩, .inl rfl⟩
        rcases hown.2 with ⟨rfl, rfl⟩ | ⟨g, cap, cur, rfl, _, _, hnc', _⟩
        ·simp [Builtin.append_, run_underlying hu, sizeOf, typeInfo, hi, Builtin.lenOf, Builtin.firstCells]
        ·simp [Builtin.append_, run_underlying hu, sizeOf, typeInfo, hi, Builtin.lenOf, Builtin.firstCells, hnc', storeCells]
      have hexec : ∀ (v : Value), a.eval x = v → ∀ v' w', (Builtin.append_ #[T, T] ty #[v, .slice ao m c]).run P w = .ok v' w' → (execOp a.eval ⟨some t, .call ⟨.builtin .append, #[x, y], #[T, T]⟩, ty, pos, af, g⟩).run P w = .ok (.value v') w' := fun v hv v' w' hr => by
       simp only [execOp, resolve, invoke, builtin, Sem.run_bind, Sem.run_pure, Result.andThen_ok, List.map_toArray, List.map_cons, List.map_nil, hv, hyv, hr]
      have hxv := hdx
      split at hq
      ·simp only [rep] at hxv
       simp only [Option.some.injEq, Prod.mk.injEq] at hq
       obtain ⟨rfl, rfl, rfl⟩ := hq
       simp only [allP] at hp
       obtain ⟨v', w', r1, r2, r3, r4⟩ := run (.slice none 0 0) 0 [] (World.ownsRow_nil w 0 te' i.size) (by simpa using hp.1)
       unfold Oper.wp
       rw [hexec _ hxv v' w' r1]
       have D1 := D.accN (k := nx) (kill := none) (T := te') (es := szT P te') (n := m) (f := gf) (v' := v') (w' := w') (row := none) hF ?_ (fun b hb => by cases hb) (fun b hb => ?_) (by simpa [Value.ownBlock] using r3)
       ·have D2 := D1.put (i := t) (d := .acc nx) (v := v') ht ?_
        ·exact hK _ _ _ _ (D2.congr rfl (fun _ => rfl) fun _ => rfl)
        ·simp only [rep, Nm.setH, if_true]
         refine ⟨trivial, ?_⟩
         rcases r2.2 with ⟨hv, _⟩ | ⟨g, cap, cur, hv, _⟩
         ·exact ⟨none, 0, 0, hv⟩
         ·exact ⟨_, _, _, hv⟩
       ·refine ⟨news, ?_, hp.1, ?_⟩
        ·simp only [Nm.setH, if_true]
         rw [hes]
         simpa using r2
        ·rw [hes] at hng ⊢; exact hng
       ·rcases r4 with hr | hr
        ·rw [hr] at hb; simp [Value.ownBlock] at hb
        ·rw [hr] at hb; cases hb; exact .inr rfl
      ·rename_i k
       simp only [rep] at hxv
       split at hq
       ·rename_i te2 es2 n f ho
        cases hfr : (Nat.beq te' te2 && Nat.beq (szT P te') es2)
        ·rw [hfr] at hq; cases hq
        ·rw [hfr] at hq
         simp only [cond_true, Option.some.injEq, Prod.mk.injEq] at hq
         obtain ⟨rfl, rfl, rfl⟩ := hq
         simp only [Bool.and_eq_true] at hfr
         obtain ⟨f1, f2⟩ := hfr
         have f1 := Nat.eq_of_beq_eq_true f1
         have f2 := Nat.eq_of_beq_eq_true f2
         subst f1 f2
         simp only [allP] at hp
         obtain ⟨xs, o1, o2, o3⟩ := D.own k _ ho
         have hxl := o1.1
         obtain ⟨v', w', r1, r2, r3, r4⟩ := run (e.hd k) n xs (by rw [← hes]; exact o1) hp.1
         unfold Oper.wp
         rw [hexec _ hxv.1 v' w' r1]
         have h63 : n + m ≤ maxN := hp.1
         have D1 := D.accN (k := nx) (kill := some k) (T := te') (es := szT P te') (n := n + m) (f := joinF n f gf) (v' := v') (w' := w') (row := (e.hd k).ownBlock) hF ?_ (fun b hb => ?_) (fun b hb => ?_) r3
         ·have D2 := D1.put (i := t) (d := .acc nx) (v := v') ht ?_
          ·exact hK _ _ _ _ (D2.congr rfl (fun _ => rfl) fun _ => rfl)
          ·simp only [rep, Nm.setH, if_true]
           refine ⟨trivial, ?_⟩
           rcases r2.2 with ⟨hv, _⟩ | ⟨g, cap, cur, hv, _⟩
           ·exact ⟨none, 0, 0, hv⟩
           ·exact ⟨_, _, _, hv⟩
         ·refine ⟨xs ++ news, ?_, h63, join_ok (es := szT P te') hxl ?_ ?_⟩
          ·simp only [Nm.setH, if_true]
           rw [hes]
           exact r2
          ·exact o3
          ·exact hng
         ·have hbk : (OB.acc te' (szT P te') n f).blk e k = some b := by simpa [OB.blk] using hb
          refine ⟨?_, (D.ownb k _ b ho hbk).2, fun j o' hjk hj hc => ?_⟩
          ·rcases (D.ownb k _ b ho hbk).1 with hx | hx
           ·exact .inl hx
           ·rcases hsd k none rfl with hh | hh
            ·have := hx.2; omega
            ·exact .inr ⟨hx.1, hh⟩
          ·exact D.apart j k o' _ b (fun hc => hjk (by rw [hc])) hj ho hc hbk
         ·rcases r4 with hr | hr
          ·rw [hr] at hb; exact .inl hb
          ·rw [hr] at hb; cases hb; exact .inr rfl
       ·cases hq
      ·cases hq
    ·cases hq
  ·cases hq
variable {Q : Exit → Act → World → Prop} {l : List Oper} {s0 : St} {rs : List Rec} {id : Nat} {rest : List Oper}
def apK (s : St) : List (Nat × Option OB) → Nat
 | (k, _) :: _ => bif Nat.blt k 700 then s.nx else s.nx + 700
 | [] => s.nx
theorem apK_side {s : St} {u : List (Nat × Option OB)} : ∀ k ob', u = [(k, ob')] → k < 700 ∨ 700 ≤ apK s u := fun k ob' hu => by
 subst hu
 simp only [apK]
 cases hb : Nat.blt k 700
 ·exact .inr (Nat.le_add_left _ _)
 ·exact .inl (blt_lt hb)
def recP (s : St) (t : Nat) (x y : Operand) (u : List (Nat × Option OB)) (ob : OB) : Rec :=
 ⟨readS s (tmpsOf [x, y]), keysA s [x, y] s.ow, some t, .acc (apK s u), (apK s u, some ob) :: u, [apK s u]⟩
def apS (s : St) (t : Nat) (u : List (Nat × Option OB)) (ob : OB) : Option St :=
 bif Nat.blt t s.n then some ⟨s.n, s.nx + 1, upd s.sl t (.acc (apK s u)), appO ((apK s u, some ob) :: u) s.ow⟩ else none
theorem apN_agree {σ : St} {T : Nat} {x y : SD} {r : List Prop × List (Nat × Option OB) × OB} (hm : OwM s σ x) (hq : apN P s T x y = some r) : apN P σ T x y = some r := by
 unfold apN at hq ⊢
 cases hk : Nat.beq (kdT P T) 1
 ·rw [hk] at hq; exact hq
 ·rw [hk] at hq
  simp only [cond_true] at hq ⊢
  split at hq
  ·rename_i te hte
   revert hq
   cases (Nat.ble 1 (szT P te) && Nat.ble 1 (byT P te) && Nat.ble (byT P te) 2048 && hasZ P te)
   ·exact id
   ·simp only [cond_true]
    cases srcD (szT P te) y with
    | none => exact id
    | some p =>
     obtain ⟨m, g⟩ := p
     cases x <;> try exact id
     rename_i k
     intro hq
     simp only at hq ⊢
     cases ho : lkO s.ow k with
     | none => rw [ho] at hq; cases hq
     | some o => rw [hm k o (by simp [men]) ho]; rw [ho] at hq; exact hq
  ·cases hq
theorem runDapN {t T : Nat} {x y : Operand} {ty : Nat} {pos : String} {af : Array Edge} {p : List Prop} {u : List (Nat × Option OB)} {ob : OB} {s' : St} (hq : apN P s T (ev s x) (ev s y) = some (p, u, ob)) (hp : allP p) (hs : apS s t u ob = some s')
  (hn : RunD P F w0 Q id l s0 (rs ++ [recP s t x y u ob]) rest s') : RunD P F w0 Q id l s0 rs (⟨some t, .call ⟨.builtin .append, #[x, y], #[T, T]⟩, ty, pos, af, none⟩ :: rest) s := fun K => by
 unfold apS at hs
 cases hb : Nat.blt t s.n
 ·rw [hb] at hs; cases hs
 rw [hb] at hs
 simp only [cond_true, Option.some.injEq] at hs
 subst hs
 have g1 : ∀ p ∈ (recP s t x y u ob).slots, lkp s.sl p.1 = p.2 := readS_ok
 have g2 : ∀ p ∈ (recP s t x y u ob).keys, lkO s.ow p.1 = some p.2 := keysA_ok
 refine hn (K.snoc g1 g2 (fun σ hn h1 h2 h3 h e a w D K Q hK => ?_) ⟨rfl, fun _ => rfl, fun _ => rfl⟩)
 rw [if_pos (by simp [Region.wanted])]
 have hev := ev_agree (s := s) (s' := σ) (l := [x, y]) h1
 have e1 := hev x (by simp)
 have e2 := hev y (by simp)
 have hm : OwM s σ (ev s x) := fun k o hm ho => h2 (k, o) (keysA_mem (by simp [menA, hm]) ho)
 refine wp_apN D (by rw [hn]; exact blt_lt hb) (h3 (apK s u) (by simp [recP])) rfl (D.ev x) (by rw [e1, e2]; exact apN_agree hm hq) hp apK_side K Q fun h' e' a' w' D' => hK h' e' a' w' D'
def oneK (k m : Nat) : Bool := !Nat.beq m k
def swp (j k m : Nat) : Nat := bif Nat.beq m j then k else m
def renS (σ : Nat → Nat) : List (Nat × SD) → List (Nat × SD)
 | [] => []
 | (i, d) :: r => (i, ren σ d) :: renS σ r
theorem lkp_renS (σ : Nat → Nat) : ∀ (l : List (Nat × SD)) (t : Nat), lkp (renS σ l) t = ren σ (lkp l t)
 | [], t => rfl
 | (i, d) :: r, t => by
  simp only [renS, lkp]
  cases Nat.beq i t
  ·exact lkp_renS σ r t
  ·rfl
def renD (s : St) (j k : Nat) : Option St :=
 bif Nat.blt j 700 && Nat.blt k 700 && !Nat.beq j k && mapsOk (oneK k) (oneK k) s.ow then
  some ⟨s.n, s.nx, renS (swp j k) (prgS (oneK k) (oneK k) s.sl), renOs (swp j k) (prgO (oneK k) (oneK k) [k] 0 0 s.ow)⟩ else none
def Nm.mov (e : Nm) (j k : Nat) : Nm := ⟨fun m => if m = k then e.bs j else e.bs m, fun m => if m = k then e.hd j else e.hd m⟩
theorem Den.ren (D : Den F w0 s h e a w) {j k : Nat} {s' : St} (hq : renD s j k = some s') : Den F w0 s' h (e.mov j k) a w := by
 unfold renD at hq
 cases hb : (Nat.blt j 700 && Nat.blt k 700 && !Nat.beq j k && mapsOk (oneK k) (oneK k) s.ow)
 ·rw [hb] at hq; cases hq
 rw [hb] at hq
 simp only [cond_true, Option.some.injEq] at hq
 subst hq
 simp only [Bool.and_eq_true, Bool.not_eq_true'] at hb
 obtain ⟨⟨⟨b1, b2⟩, b3⟩, b4⟩ := hb
 have b1 := blt_lt b1
 have b2 := blt_lt b2
 have b3 := bne_of b3
 have ag : e.agr (oneK k) (oneK k) ((e.mov j k).via (swp j k)) := by
  have key : ∀ m, oneK k m = true → m ≠ k := fun m hm hc => by subst hc; simp [oneK] at hm
  refine ⟨fun m hm => ?_, fun m hm => ?_⟩
  ·have hmk := key m hm
   by_cases hmj : m = j
   ·subst hmj; simp [Nm.via, swp, Nm.mov]
   ·simp [Nm.via, swp, beqF hmj, Nm.mov, hmk]
  ·have hmk := key m hm
   by_cases hmj : m = j
   ·subst hmj; simp [Nm.via, swp, Nm.mov]
   ·simp [Nm.via, swp, beqF hmj, Nm.mov, hmk]
 have slotP : ∀ t, rep h (lkp (prgS (oneK k) (oneK k) s.sl) t) e (a.tmps.getD t undef) ∧ allN (oneK k) (oneK k) (lkp (prgS (oneK k) (oneK k) s.sl) t) = true := fun t => by
  rw [lkp_prgS]
  cases hx : allN (oneK k) (oneK k) (lkp s.sl t)
  ·exact ⟨by simp [rep], rfl⟩
  ·exact ⟨D.slot t, hx⟩
 have obj : ∀ m o, lkO (renOs (swp j k) (prgO (oneK k) (oneK k) [k] 0 0 s.ow)) m = some o → ∃ m0 o1 o0, swp j k m0 = m ∧ m0 ≠ k ∧ lkO s.ow m0 = some o0 ∧ OLe o0 o1 ∧ allNO (oneK k) (oneK k) o1 = true ∧ o = renO (swp j k) o1 := fun m o ho => by
  obtain ⟨m0, o1, q1, q2, q3⟩ := lkO_renOs ho
  obtain ⟨q4, _, o0, q5, q6, q7⟩ := lkO_prgO b4 q2
  exact ⟨m0, o1, o0, q1, fun hc => q4 (by rw [hc]; simp), q5, q6, q7, q3⟩
 have self : ∀ m0 (o1 : OB), m0 ≠ k → (bif o1.isAcc then oneK k m0 else oneK k m0) = true := fun m0 o1 hm => by
  have : Nat.beq m0 k = false := beqF hm
  cases o1.isAcc <;> simp [oneK, this]
 have blk : ∀ m0 (o1 o0 : OB), m0 ≠ k → OLe o0 o1 → (renO (swp j k) o1).blk (e.mov j k) (swp j k m0) = o0.blk e m0 := fun m0 o1 o0 hm hle => by
  rw [blk_ren, blk_agr ag o1 (self m0 o1 hm), hle.blk]
 refine ⟨D.defers, D.size, fun t => ?_, fun m o ho => ?_, fun m o b ho hbl => ?_, fun m m' o o' b hne ho ho' hbl => ?_, D.sub, D.keeps, D.le, D.neww, fun i b hib => ?_⟩
 ·rw [lkp_renS]
  exact (rep_ren _ _).2 (rep_agr ag _ _ (slotP t).2 (slotP t).1)
 ·obtain ⟨m0, o1, o0, q1, q2, q3, q4, q5, q6⟩ := obj m o ho
  subst q1 q6
  exact (obOk_ren o1).2 (obOk_agr ag o1 (self m0 o1 q2) q5 (q4.ok (D.own m0 o0 q3)))
 ·obtain ⟨m0, o1, o0, q1, q2, q3, q4, q5, q6⟩ := obj m o ho
  subst q1 q6
  rw [blk m0 o1 o0 q2 q4] at hbl
  obtain ⟨r1, r2⟩ := D.ownb m0 o0 b q3 hbl
  refine ⟨?_, r2⟩
  rcases r1 with r1 | ⟨r1, r3⟩
  ·exact .inl r1
  ·refine .inr ⟨r1, ?_⟩
   have : m0 ≠ j := fun hc => by omega
   simp only [swp, beqF this, cond_false]
   exact r3
 ·obtain ⟨m0, o1, o0, q1, q2, q3, q4, q5, q6⟩ := obj m o ho
  obtain ⟨m0', o1', o0', q1', q2', q3', q4', q5', q6'⟩ := obj m' o' ho'
  subst q1 q6 q1' q6'
  rw [blk m0 o1 o0 q2 q4] at hbl
  rw [blk m0' o1' o0' q2' q4']
  exact D.apart m0 m0' o0 o0' b (fun hc => hne (by rw [hc])) q3 q3' hbl
 ·have : ¬ 1000 + i = k := by omega
  simp only [Nm.mov, this, if_false]
  exact D.fix i b hib
theorem run_ren (j k : Nat) {s' : St} {fin : Exit → Act → World → Prop} {kl : List It} (hq : renD s j k = some s') (hn : Run P F w0 fin kl s') : Run P F w0 fin kl s := fun _ _ _ _ D => hn _ _ _ _ (D.ren hq)
def isAccU : Option OB → Bool
 | some (.acc ..) => true
 | _ => false
def twoK (j k m : Nat) : Bool := !Nat.beq m k && !Nat.beq m j
def renHD (s : St) (j k : Nat) : Option St :=
 bif Nat.ble 700 k && !Nat.beq j k && isAccU (lkO s.ow j) && mapsOk (twoK j k) (oneK k) s.ow then
  some ⟨s.n, s.nx, renS (swp j k) (prgS (twoK j k) (oneK k) s.sl), renOs (swp j k) (prgO (twoK j k) (oneK k) [k] 0 0 s.ow)⟩ else none
def Nm.movH (e : Nm) (j k : Nat) : Nm := ⟨e.bs, fun m => if m = k then e.hd j else e.hd m⟩
theorem Den.renH (D : Den F w0 s h e a w) {j k : Nat} {s' : St} (hq : renHD s j k = some s') : Den F w0 s' h (e.movH j k) a w := by
 unfold renHD at hq
 cases hb : (Nat.ble 700 k && !Nat.beq j k && isAccU (lkO s.ow j) && mapsOk (twoK j k) (oneK k) s.ow)
 ·rw [hb] at hq; cases hq
 rw [hb] at hq
 simp only [cond_true, Option.some.injEq] at hq
 subst hq
 simp only [Bool.and_eq_true, Bool.not_eq_true'] at hb
 obtain ⟨⟨⟨b1, b3⟩, b2⟩, b4⟩ := hb
 have b1 := Nat.le_of_ble_eq_true b1
 have b3 := bne_of b3
 have key : ∀ m, oneK k m = true → m ≠ k := fun m hm hc => by subst hc; simp [oneK] at hm
 have key2 : ∀ m, twoK j k m = true → m ≠ k ∧ m ≠ j := fun m hm => by
  simp only [twoK, Bool.and_eq_true, Bool.not_eq_true'] at hm
  exact ⟨bne_of hm.1, bne_of hm.2⟩
 have ag : e.agr (twoK j k) (oneK k) ((e.movH j k).via (swp j k)) := by
  refine ⟨fun m hm => ?_, fun m hm => ?_⟩
  ·obtain ⟨h1, h2⟩ := key2 m hm
   simp [Nm.via, swp, beqF h2, Nm.movH]
  ·have hmk := key m hm
   by_cases hmj : m = j
   ·subst hmj; simp [Nm.via, swp, Nm.movH]
   ·simp [Nm.via, swp, beqF hmj, Nm.movH, hmk]
 have slotP : ∀ t, rep h (lkp (prgS (twoK j k) (oneK k) s.sl) t) e (a.tmps.getD t undef) ∧ allN (twoK j k) (oneK k) (lkp (prgS (twoK j k) (oneK k) s.sl) t) = true := fun t => by
  rw [lkp_prgS]
  cases hx : allN (twoK j k) (oneK k) (lkp s.sl t)
  ·exact ⟨by simp [rep], rfl⟩
  ·exact ⟨D.slot t, hx⟩
 have obj : ∀ m o, lkO (renOs (swp j k) (prgO (twoK j k) (oneK k) [k] 0 0 s.ow)) m = some o → ∃ m0 o1 o0, swp j k m0 = m ∧ m0 ≠ k ∧ lkO s.ow m0 = some o0 ∧ OLe o0 o1 ∧ allNO (twoK j k) (oneK k) o1 = true ∧ o = renO (swp j k) o1 := fun m o ho => by
  obtain ⟨m0, o1, q1, q2, q3⟩ := lkO_renOs ho
  obtain ⟨q4, _, o0, q5, q6, q7⟩ := lkO_prgO b4 q2
  exact ⟨m0, o1, o0, q1, fun hc => q4 (by rw [hc]; simp), q5, q6, q7, q3⟩
 have self : ∀ m0 (o1 o0 : OB), m0 ≠ k → lkO s.ow m0 = some o0 → OLe o0 o1 → (bif o1.isAcc then oneK k m0 else twoK j k m0) = true := fun m0 o1 o0 hm hl hle => by
  have h1 : Nat.beq m0 k = false := beqF hm
  cases hia : o1.isAcc
  ·by_cases hmj : m0 = j
   ·subst hmj
    rw [hl] at b2
    exfalso
    cases o0 <;> simp only [isAccU, Bool.false_eq_true] at b2
    cases o1 <;> simp only [OB.isAcc, Bool.true_eq_false] at hia <;> simp [OLe] at hle
   ·simp [twoK, h1, beqF hmj]
  ·simp [oneK, h1]
 have blk : ∀ m0 (o1 o0 : OB), m0 ≠ k → lkO s.ow m0 = some o0 → OLe o0 o1 → (renO (swp j k) o1).blk (e.movH j k) (swp j k m0) = o0.blk e m0 := fun m0 o1 o0 hm hl hle => by
  rw [blk_ren, blk_agr ag o1 (self m0 o1 o0 hm hl hle), hle.blk]
 refine ⟨D.defers, D.size, fun t => ?_, fun m o ho => ?_, fun m o b ho hbl => ?_, fun m m' o o' b hne ho ho' hbl => ?_, D.sub, D.keeps, D.le, D.neww, D.fix⟩
 ·rw [lkp_renS]
  exact (rep_ren _ _).2 (rep_agr ag _ _ (slotP t).2 (slotP t).1)
 ·obtain ⟨m0, o1, o0, q1, q2, q3, q4, q5, q6⟩ := obj m o ho
  subst q1 q6
  exact (obOk_ren o1).2 (obOk_agr ag o1 (self m0 o1 o0 q2 q3 q4) q5 (q4.ok (D.own m0 o0 q3)))
 ·obtain ⟨m0, o1, o0, q1, q2, q3, q4, q5, q6⟩ := obj m o ho
  subst q1 q6
  rw [blk m0 o1 o0 q2 q3 q4] at hbl
  obtain ⟨r1, r2⟩ := D.ownb m0 o0 b q3 hbl
  refine ⟨?_, r2⟩
  rcases r1 with r1 | ⟨r1, r3⟩
  ·exact .inl r1
  ·refine .inr ⟨r1, ?_⟩
   by_cases hmj : m0 = j
   ·subst hmj; simp only [swp, Nat.beq_refl, cond_true]; exact b1
   ·simp only [swp, beqF hmj, cond_false]; exact r3
 ·obtain ⟨m0, o1, o0, q1, q2, q3, q4, q5, q6⟩ := obj m o ho
  obtain ⟨m0', o1', o0', q1', q2', q3', q4', q5', q6'⟩ := obj m' o' ho'
  subst q1 q6 q1' q6'
  rw [blk m0 o1 o0 q2 q3 q4] at hbl
  rw [blk m0' o1' o0' q2' q3' q4']
  exact D.apart m0 m0' o0 o0' b (fun hc => hne (by rw [hc])) q3 q3' hbl
theorem run_renH (j k : Nat) {s' : St} {fin : Exit → Act → World → Prop} {kl : List It} (hq : renHD s j k = some s') (hn : Run P F w0 fin kl s') : Run P F w0 fin kl s := fun _ _ _ _ D => hn _ _ _ _ (D.renH hq)
end
end Go.Sx
namespace Go.Sx
open Go.RowKit
abbrev Fin := Exit → Act → World → Prop
section
variable {P : Program} {β : Type} {fin : β → List Nat → Base0 → Fin} {s : St}
def RunE (P : Program) {β : Type} (fin : β → List Nat → Base0 → Fin) (K : Fin → List It) (s : St) : Prop := ∃ b, ∀ F w0, Run P F (Base0.std w0) (fin b F w0) (K (fin b F w0)) s
theorem zH {K K' : Fin → List It} {s' : St} (h : ∀ F w0 fn, Run P F (Base0.std w0) fn (K' fn) s' → Run P F (Base0.std w0) fn (K fn) s) (h' : RunE P fin K' s') : RunE P fin K s :=
 let ⟨b, hb⟩ := h'
 ⟨b, fun F w0 => h F w0 _ (hb F w0)⟩
theorem zT {K : Fin → List It} {c : Operand} {x y : Code} {t : Bool} (hc : ev s c = .bool t) (h1 : t = true → RunE P fin (fun fn => .code x :: K fn) s) (h2 : t = false → RunE P fin (fun fn => .code y :: K fn) s) : RunE P fin (fun fn => .code (.cond c x y) :: K fn) s := by
 cases ht : t
 ·obtain ⟨b, hb⟩ := h2 ht
  exact ⟨b, fun F w0 => zE (hc.trans (by rw [ht])) (fun h => by cases h) fun _ => hb F w0⟩
 ·obtain ⟨b, hb⟩ := h1 ht
  exact ⟨b, fun F w0 => zE (hc.trans (by rw [ht])) (fun _ => hb F w0) fun h => by cases h⟩
def LpN (P : Program) (body : Code) (K : Fin → List It) (n : Nat) (fn : Fin) : Act → World → Prop := Code.roundsIn Fence.wide 0 P body (post P none fn (K fn)) n
def RunL' (P : Program) {β : Type} (fin : β → List Nat → Base0 → Fin) (K : Fin → List It) (body : Code) (n : Nat) (s : St) : Prop := RunE P fin (fun fn => .lp (LpN P body K n fn) :: K fn) s
theorem runE_weak {K : Fin → List It} {s' : St} (hw : Wk s s') (h : RunE P fin K s') : RunE P fin K s := zH (fun _ _ _ h => run_weak hw h) h
theorem rounds_of {body : Code} {K : Fin → List It} {n : Nat} {F : List Nat} {w0 : Base0} {fn : Fin} (h : Run P F w0.std fn (.code body :: .lp (LpN P body K n fn) :: K fn) s) : Run P F w0.std fn (.lp (LpN P body K (n + 1) fn) :: K fn) s := fun h' e a w D => by
 have := h h' e a w D
 show Code.roundsIn Fence.wide 0 P body (post P none fn (K fn)) (n + 1) a w
 refine wpIn_mono this fun e a w hq => ?_
 cases e <;> exact hq
theorem runE_round {body : Code} {K : Fin → List It} {n : Nat} (h : RunE P fin (fun fn => .code body :: .lp (LpN P body K n fn) :: K fn) s) : RunL' P fin K body (n + 1) s :=
 zH (fun _ _ _ h => rounds_of h) h
theorem runE_start {body : Code} {K : Fin → List It} {n : Nat} (h : RunL' P fin K body n s) : RunE P fin (fun fn => .code (.loop body) :: K fn) s :=
 zH (K' := fun fn => .lp (LpN P body K n fn) :: K fn) (fun _ _ _ h h' e a w D => wpIn_loop_rounds n (h h' e a w D)) h
theorem runE_loop {σ : Type} {body : Code} {K : Fin → List It} {S : σ → St} (ns : List Nat) (U : σ → List (Nat × SD)) (UO : σ → List (Nat × OB)) (I : σ → Prop) (μ : σ → Nat) (x0 : σ) (hS : ∀ x, headS s ns U UO x = S x) (h0 : I x0)
  (hs : subS s.sl (U x0)) (ho : subO s.ow (UO x0)) (hb : ∀ x n, I x → (∀ x', I x' → μ x' < μ x → RunL' P fin K body n (S x')) → RunE P fin (fun fn => .code body :: .lp (LpN P body K n fn) :: K fn) (S x)) : RunE P fin (fun fn => .code (.loop body) :: K fn) s := by
 have key : ∀ m x, μ x = m → I x → ∀ n, m < n → RunL' P fin K body n (S x) := by
  intro m
  induction m using Nat.strongRecOn with
  | _ m ih =>
   intro x hx hI n hn
   obtain ⟨n', rfl⟩ : ∃ n', n = n' + 1 := ⟨n - 1, by omega⟩
   refine runE_round (hb x n' hI fun x' hI' hlt => ?_)
   exact ih (μ x') (by omega) x' rfl hI' n' (by omega)
 have h1 := runE_start (key (μ x0) x0 rfl h0 (μ x0 + 1) (Nat.lt_succ_self _))
 refine zH (fun F w0 fn h h' e a w D => ?_) h1
 refine h h' e a w ?_
 rw [← hS x0]
 exact D.weak' rfl (subS_append hs (subS_keep ns)) fun k o hk => lkO_keep ho hk
theorem zY {σ : Type} {body : Code} {K : Fin → List It} {n : Nat} {S : σ → St} {I : σ → Prop} {μ : σ → Nat} {x : σ} (ih : ∀ x', I x' → μ x' < μ x → RunL' P fin K body n (S x')) (x' : σ) (h1 : I x') (h2 : μ x' < μ x) (h3 : Wk s (S x')) : RunE P fin (fun fn => .lp (LpN P body K n fn) :: K fn) s :=
 runE_weak h3 (ih x' h1 h2)
theorem fn_introE {α β : Type} [Inhabited β] {f : Nat} {fn : Func} {c : Code} {n : Nat} (hcall : ∀ args w, (callFunc f args).run P w = .ok (.enter f args) w) (hf : P.funcs[f]? = some fn) (hb : fn.body = some c) (hn : fn.ntmps = n)
  (pre : α → Prop) (good : α → β → Prop) (args : α → List SD) (os : α → List OB) (res : α → β → SD) (os' : α → β → List (Nat × OB))
  (hrun : ∀ x, pre x → (args x).length ≤ n ∧ RunE P (β := {y : β // good x y}) (fun y F w0 => bodyPost P fn (retPostM F w0 (res x y) (os' x y))) (fun _ => [.code c]) ⟨n, 0, enum 0 (args x), enumO 1000 (os x)⟩) :
  ∃ G : α → β, (∀ x, pre x → good x (G x)) ∧ FnM P f (fun ds o d o' => ∃ x, pre x ∧ ds = args x ∧ o = os x ∧ d = res x (G x) ∧ o' = os' x (G x)) := by
 have hex : ∀ x, ∃ y : β, pre x → good x y ∧ ∀ F w0, Run P F (Base0.std w0) (bodyPost P fn (retPostM F w0 (res x y) (os' x y))) [.code c] ⟨n, 0, enum 0 (args x), enumO 1000 (os x)⟩ := fun x => by
  by_cases hp : pre x
  ·obtain ⟨_, ⟨y, hy⟩, h⟩ := hrun x hp
   exact ⟨y, fun _ => ⟨hy, h⟩⟩
  ·exact ⟨default, fun h => absurd h hp⟩
 refine ⟨fun x => Classical.choose (hex x), fun x hx => (Classical.choose_spec (hex x) hx).1, fn_introM hcall hf hb hn ?_⟩
 rintro ds o d o' ⟨x, hx, rfl, rfl, rfl, rfl⟩
 exact ⟨(hrun x hx).1, (Classical.choose_spec (hex x) hx).2⟩
def retE (F : List Nat) (w0 : Base0) (d : SD) : Ending → World → Prop := fun en w' => F = [] → retPost w0 d en w'
theorem run_retE {F : List Nat} {w0 : Base0} {k : List It} {fn : Func} {l : List ResultVar} {ds : List SD} {d : SD} (hr : fn.results = l.toArray) (hq : resL P s l = some ds) (hd : SLe0 (retD ds) d) : Run P F w0.std (bodyPost P fn (retE F w0 d)) (.code .ret :: k) s := by
 by_cases hF : F = []
 ·subst hF
  have h := yA (P := P) (s := s) (b0 := w0) (k := k) hr hq hd
  have e1 : retE [] w0 d = retPost w0 d := by funext en w'; simp [retE]
  rw [e1]
  exact h
 ·intro h e a w D
  refine wpIn_ret (post_ret ?_)
  obtain ⟨vs, g1, g2⟩ := run_res (P := P) D hq
  have hres : (results fn a.tmps).run P w = .ok (if hz : vs.toArray.size = 1 then vs.toArray[0] else .tuple vs.toArray) w := by
   rw [results_resF, hr]
   simp only [List.mapM_toArray, Sem.run_bind]
   rw [map_eq_pure_bind]
   simp only [Sem.run_bind, g2, Result.andThen_ok, Sem.run_pure]
  exact bodyPost_ret hres D.defers fun hc => absurd hc hF
theorem fn_introE0 {α β : Type} [Inhabited β] {f : Nat} {fn : Func} {c : Code} {n : Nat} (hcall : ∀ args w, (callFunc f args).run P w = .ok (.enter f args) w) (hf : P.funcs[f]? = some fn) (hb : fn.body = some c) (hn : fn.ntmps = n)
  (pre : α → Prop) (good : α → β → Prop) (args : α → List SD) (res : α → β → SD)
  (hrun : ∀ x, pre x → (args x).length ≤ n ∧ RunE P (β := {y : β // good x y}) (fun y F w0 => bodyPost P fn (retE F w0 (res x y))) (fun _ => [.code c]) ⟨n, 0, enum 0 (args x), []⟩) :
  ∃ G : α → β, (∀ x, pre x → good x (G x)) ∧ FnOK P f (fun ds d => ∃ x, pre x ∧ ds = args x ∧ d = res x (G x)) := by
 have hex : ∀ x, ∃ y : β, pre x → good x y ∧ ∀ F w0, Run P F (Base0.std w0) (bodyPost P fn (retE F w0 (res x y))) [.code c] ⟨n, 0, enum 0 (args x), []⟩ := fun x => by
  by_cases hp : pre x
  ·obtain ⟨_, ⟨y, hy⟩, h⟩ := hrun x hp
   exact ⟨y, fun _ => ⟨hy, h⟩⟩
  ·exact ⟨default, fun h => absurd h hp⟩
 refine ⟨fun x => Classical.choose (hex x), fun x hx => (Classical.choose_spec (hex x) hx).1, fn_intro hcall hf hb hn ?_⟩
 rintro ds d ⟨x, hx, rfl, rfl⟩
 refine ⟨(hrun x hx).1, fun w0 => ?_⟩
 have h := (Classical.choose_spec (hex x) hx).2 [] w0
 have e1 : ∀ d, retE [] w0 d = retPost w0 d := fun d => by funext en w'; simp [retE]
 rw [e1] at h
 exact h
theorem zZ {K : Fin → List It} {fn : Func} {γ : Type} {res : γ → SD} (b : γ) {l : List ResultVar} {ds : List SD} (hr : fn.results = l.toArray) (hq : resL P s l = some ds) (hd : SLe0 (retD ds) (res b)) :
  RunE P (fun y F w0 => bodyPost P fn (retE F w0 (res y))) (fun fn => .code .ret :: K fn) s := ⟨b, fun _ _ => run_retE hr hq hd⟩
theorem yB {K : Fin → List It} {fn : Func} {γ : Type} {res : γ → SD} {os' : γ → List (Nat × OB)} (b : γ) {l : List ResultVar} {ds : List SD} (hr : fn.results = l.toArray) (hq : resL P s l = some ds) (hd : SLe (retD ds) (res b)) (ho : subO s.ow (os' b)) :
  RunE P (fun y F w0 => bodyPost P fn (retPostM F w0 (res y) (os' y))) (fun fn => .code .ret :: K fn) s := ⟨b, fun _ _ => yC hr hq hd ho⟩
end
section
variable {P : Program} {F : List Nat} {w0 : Base0} {s : St}
theorem run_endM {fn : Func} {d : SD} {os' : List (Nat × OB)} (hr : fn.results = #[]) (hd : SLe (.tup []) d) (ho : subO s.ow os') : Run P F w0.std (bodyPost P fn (retPostM F w0 d os')) [] s := fun h e a w D => by
 show bodyPost P fn (retPostM F w0 d os') .ret a w
 have hO : OwnP F w0.w os' h e w := by
  have key : ∀ j o, lkO os' j = some o → ∃ o0, lkO s.ow j = some o0 ∧ OLe o0 o := fun j o hj => subO_ok ho j o hj
  refine ⟨fun j o hj => ?_, fun j o b hj hb => ?_, fun j j' o o' b hne hj hj' hb => ?_⟩
  ·obtain ⟨o0, g1, g2⟩ := key j o hj
   exact g2.ok (D.own j o0 g1)
  ·obtain ⟨o0, g1, g2⟩ := key j o hj
   rw [g2.blk] at hb
   exact D.ownb j o0 b g1 hb
  ·obtain ⟨o0, g1, g2⟩ := key j o hj
   obtain ⟨o1, g3, g4⟩ := key j' o' hj'
   rw [g2.blk] at hb
   rw [g4.blk]
   exact D.apart j j' o0 o1 b hne g1 g3 hb
 have hres : (results fn a.tmps).run P w = .ok (.tuple #[]) w := by simp [results, hr]
 refine bodyPost_ret hres D.defers ⟨_, h, e, rfl, D.le, D.sub, D.keeps, D.neww, D.fix, ?_, hO⟩
 exact hd h e _ (by simp [rep, repT])
end
end Go.Sx
namespace Go.Sx
open Go.RowKit
structure Anch (h0 : Hp) (bl : List Nat) (b0 : Base0) : Prop where
 le : Le h0 b0.h
 fx : ∀ (i b : Nat), bl[i]? = some b → b0.fix[i]? = some b
structure FnMA (P : Program) (f : Nat) (h0 : Hp) (bl : List Nat) (R : List SD → List OB → SD → List (Nat × OB) → Prop) : Prop where
 call : ∀ args w, (callFunc f args).run P w = .ok (.enter f args) w
 ok : ∀ ds os d os', R ds os d os' → ∀ h e w vs (gh : GH h), Le h0 h → (∀ (i b : Nat), bl[i]? = some b → e.bs (1000 + i) = b) → Sub h w → repT h ds e vs → (∀ (i : Nat) (o : OB), os[i]? = some o → obOk h e w (1000 + i) o) → (∀ b, b ∈ blksO e 1000 os → h b = none) →
  (∀ (i j : Nat) (o o' : OB) (b : Nat), i ≠ j → os[i]? = some o → os[j]? = some o' → o.blk e (1000 + i) = some b → o'.blk e (1000 + j) ≠ some b) →
  Calls P f vs.toArray w (retPostM (blksO e 1000 os) ⟨w, h, fixO e os, gh⟩ d os')
structure YldMA (P : Program) (l : Nat) (h0 : Hp) (bl : List Nat) (R : List SD → List OB → SD → List (Nat × OB) → Prop) : Prop where
 ok : ∀ ds os d os', R ds os d os' → ∀ h e w vs (gh : GH h), Le h0 h → (∀ (i b : Nat), bl[i]? = some b → e.bs (1000 + i) = b) → Sub h w → repT h ds e vs → (∀ (i : Nat) (o : OB), os[i]? = some o → obOk h e w (1000 + i) o) → (∀ b, b ∈ blksO e 1000 os → h b = none) →
  (∀ (i j : Nat) (o o' : OB) (b : Nat), i ≠ j → os[i]? = some o → os[j]? = some o' → o.blk e (1000 + i) = some b → o'.blk e (1000 + j) ≠ some b) →
  YieldAt Fence.wide 0 P l vs.toArray w (retPostM (blksO e 1000 os) ⟨w, h, fixO e os, gh⟩ d os')
theorem fixO_get {e : Nm} {os : List OB} {i : Nat} (h : i < os.length) : (fixO e os)[i]? = some (e.bs (1000 + i)) := by
 simp only [fixO, List.getElem?_map, List.getElem?_range h, Option.map_some]
section
variable {P : Program} {F : List Nat} {w0 : Base} {s : St} {h : Hp} {e : Nm} {a : Act} {w : World}
theorem Den.passF (D : Den F w0 s h e a w) {ks : List Nat} {ds0 ds : List SD} {os : List OB} (C : PassM s ks ds0 ds os) {vs : List Value} (hv : repT h ds0 e vs) :
  repT h ds (e.inn ks) vs ∧ (∀ (i : Nat) (o : OB), os[i]? = some o → obOk h (e.inn ks) w (1000 + i) o) ∧ (∀ b, b ∈ blksO (e.inn ks) 1000 os → h b = none) ∧
  (∀ (i j : Nat) (o o' : OB) (b : Nat), i ≠ j → os[i]? = some o → os[j]? = some o' → o.blk (e.inn ks) (1000 + i) = some b → o'.blk (e.inn ks) (1000 + j) ≠ some b) := by
 have hag := inn_agr (e := e) (ks := ks)
 have hi : ∀ {i : Nat} {o : OB}, os[i]? = some o → i < ks.length := fun {i o} ho => by have := (List.getElem?_eq_some_iff.1 ho).1; rw [C.len] at this; exact this
 have hidx : ∀ i, i < ks.length → tau ks (getN ks i) = 1000 + i := fun i hi => idx_get ks i 1000 hi C.nd
 have hb : ∀ {i : Nat} {o : OB} {b : Nat}, os[i]? = some o → o.blk (e.inn ks) (1000 + i) = some b → ∃ o0, lkO s.ow (getN ks i) = some o0 ∧ o0.blk e (getN ks i) = some b := fun {i o b} ho hb => by
  obtain ⟨o0, h1, rfl, h3⟩ := C.obj i o ho
  refine ⟨o0, h1, ?_⟩
  cases o0 <;> simpa [renO, OB.blk, Nm.inn] using hb
 refine ⟨?_, fun i o ho => ?_, fun b hbb => ?_, fun i j o o' b hij ho ho' hbl => ?_⟩
 ·rw [C.ds]
  exact (repT_ren ds0 vs).2 (repT_agr hag ds0 vs C.arg hv)
 ·obtain ⟨o0, h1, rfl, h3⟩ := C.obj i o ho
  rw [← hidx i (hi ho)]
  refine (obOk_ren o0).2 (obOk_agr hag o0 ?_ h3 (D.own _ o0 h1))
  have := memb_iff.2 (getN_mem (hi ho))
  cases o0.isAcc
  ·exact this
  ·exact this
 ·obtain ⟨i, o, h1, h2⟩ := mem_blksO.1 hbb
  obtain ⟨o0, h3, h4⟩ := hb h1 h2
  exact (D.ownb _ o0 b h3 h4).2
 ·obtain ⟨o0, h3, h4⟩ := hb ho hbl
  intro hc
  obtain ⟨o1, h5, h6⟩ := hb ho' hc
  refine D.apart _ _ o0 o1 b (fun hc => hij ?_) h3 h5 h4 h6
  have h7 := hidx i (hi ho)
  have h8 := hidx j (hi ho')
  rw [hc, h8] at h7
  omega
def anchK (ks : List Nat) : List Nat → Nat → Bool
 | [], _ => true
 | _ :: r, i => Nat.beq (getN ks i) (1000 + i) && anchK ks r (i + 1)
theorem anchK_ok {ks : List Nat} : ∀ {bl : List Nat} {i : Nat}, anchK ks bl i = true → ∀ (j b : Nat), bl[j]? = some b → getN ks (i + j) = 1000 + (i + j)
 | [], _, _, j, b, h => by simp at h
 | x :: r, i, hk, 0, b, _ => by
  simp only [anchK, Bool.and_eq_true] at hk
  exact Nat.eq_of_beq_eq_true hk.1
 | x :: r, i, hk, j + 1, b, h => by
  simp only [anchK, Bool.and_eq_true] at hk
  have := anchK_ok hk.2 j b (by simpa using h)
  rw [show i + (j + 1) = i + 1 + j by omega]
  exact this
theorem Den.anch (D : Den F w0 s h e a w) {h0 : Hp} {bl : List Nat} (ha : Anch h0 bl w0.b0) {ks : List Nat} (hk : anchK ks bl 0 = true) : Le h0 h ∧ ∀ (i b : Nat), bl[i]? = some b → (e.inn ks).bs (1000 + i) = b := by
 refine ⟨ha.le.trans D.le, fun i b hb => ?_⟩
 have h1 := anchK_ok hk i b hb
 rw [Nat.zero_add] at h1
 simp only [Nm.inn, Nat.add_sub_cancel_left, h1]
 exact D.fix i b (ha.fx i b hb)
variable {Q : Exit → Act → World → Prop} {ops : Array Oper} {rest : List Oper} {h0 : Hp} {bl : List Nat}
theorem stepcallMA {f t : Nat} {args : Array Operand} {tys : Array Nat} {ty : Nat} {pos : String} {af : Array Edge} {R : List SD → List OB → SD → List (Nat × OB) → Prop} (ks : List Nat) {ds : List SD} {os : List OB} {d : SD} {os' : List (Nat × OB)} {s' : St} (hf : FnMA P f h0 bl R)
  (han : Anch h0 bl w0.b0) (hak : anchK ks bl 0 = true) (hnd : nodupB ks = true) (ha : renL (tau ks) (args.toList.map (unG s)) = ds) (hal : allNL (fun x => memb x ks) (fun x => memb x ks) (args.toList.map (unG s)) = true) (ho : osOf s ks ks = some os) (hg : allP (gCs s args.toList [])) (hR : R ds os d os')
  (hs : callMD s t ks os d os' = some s') (hn : RunL P F w0 ops Q rest s') : RunL P F w0 ops Q (⟨some t, .call ⟨.value (.func f), args, tys⟩, ty, pos, af, none⟩ :: rest) s := fun h e a w D => by
 refine wpS_plain rfl fun K hK => ?_
 unfold Oper.wp
 rw [callee_run hf.call]
 obtain ⟨q1, q2, q3, q4⟩ := D.passF (passM hnd ha hal ho) (repT_args D (allP_gCs hg).1 fun _ hx => hx)
 obtain ⟨q5, q6⟩ := D.anch han hak
 refine (hf.ok ds os d os' hR h (e.inn ks) w _ D.gh q5 q6 D.sub q1 q2 q3 q4).mono fun en w' hq => ?_
 obtain ⟨v, h', e', rfl, D'⟩ := D.afterM ho hs hq
 exact hK _ _ (hn _ _ _ _ D')
theorem stepcallYA {t j l : Nat} {args : Array Operand} {tys : Array Nat} {ty : Nat} {pos : String} {af : Array Edge} {R : List SD → List OB → SD → List (Nat × OB) → Prop} (ks : List Nat) {ds : List SD} {os : List OB} {d : SD} {os' : List (Nat × OB)} {s' : St} (hf : YldMA P l h0 bl R) (hj : lkp s.sl j = .yld l)
  (han : Anch h0 bl w0.b0) (hak : anchK ks bl 0 = true) (hnd : nodupB ks = true) (ha : renL (tau ks) (args.toList.map (unG s)) = ds) (hal : allNL (fun x => memb x ks) (fun x => memb x ks) (args.toList.map (unG s)) = true) (ho : osOf s ks ks = some os) (hg : allP (gCs s args.toList [])) (hR : R ds os d os')
  (hs : callMD s t ks os d os' = some s') (hn : RunL P F w0 ops Q rest s') : RunL P F w0 ops Q (⟨some t, .call ⟨.value (.tmp j), args, tys⟩, ty, pos, af, none⟩ :: rest) s := fun h e a w D => by
 refine wpS_in1 rfl fun K hK r => ?_
 have hv := D.slot j
 rw [hj] at hv
 simp only [rep] at hv
 obtain ⟨q1, q2, q3, q4⟩ := D.passF (passM hnd ha hal ho) (repT_args D (allP_gCs hg).1 fun _ hx => hx)
 obtain ⟨q5, q6⟩ := D.anch han hak
 obtain ⟨fn, tmps, assign, body, hy, hR'⟩ := hf.ok ds os d os' hR h (e.inn ks) w _ D.gh q5 q6 D.sub q1 q2 q3 q4
 refine ⟨fun f _ => fe_fn r f, ?_⟩
 rw [fe_round]
 have hsem : (Oper.semAt r a.eval ⟨some t, .call ⟨.value (.tmp j), args, tys⟩, ty, pos, af, none⟩) = execOp a.eval ⟨some t, .call ⟨.value (.tmp j), args, tys⟩, ty, pos, af, none⟩ := Oper.semAt_eq _ _ _ fun c hc => by cases hc
 rw [hsem]
 have harr : (args.toList.map a.eval).toArray = args.map a.eval := by apply Array.ext'; simp
 have hrun : (execOp a.eval ⟨some t, .call ⟨.value (.tmp j), args, tys⟩, ty, pos, af, none⟩).run P w = .ok (.round l fn tmps assign body) w := by
  have hev : a.eval (.tmp j) = .func (.yield l) #[] #[] := hv
  rw [harr] at hy
  simp [execOp, resolve, hev, Deferred.ofValue, invoke, hy]
 rw [hrun, Oper.uponIn_round]
 refine ⟨fe_dp r, ?_⟩
 have hR2 : RoundIn (fe r) (0 - 1) P l fn tmps assign body w (retPostM (blksO (e.inn ks) 1000 os) ⟨w, h, fixO (e.inn ks) os, D.gh⟩ d os') := by
  cases r with
  | none => exact hR'
  | some l' => exact hR'
 refine hR2.mono fun en w' hq => ?_
 obtain ⟨v, h', e', rfl, D'⟩ := D.afterM ho hs hq
 exact hK _ _ (hn _ _ _ _ D')
end
theorem fn_introMA {P : Program} {f : Nat} {fn : Func} {c : Code} {n : Nat} {h0 : Hp} {bl : List Nat} {R : List SD → List OB → SD → List (Nat × OB) → Prop} (hcall : ∀ args w, (callFunc f args).run P w = .ok (.enter f args) w) (hf : P.funcs[f]? = some fn) (hb : fn.body = some c) (hn : fn.ntmps = n)
  (hrun : ∀ ds os d os', R ds os d os' → ds.length ≤ n ∧ bl.length ≤ os.length ∧ ∀ (F : List Nat) (w0 : Base0), Anch h0 bl w0 → Run P F w0.std (bodyPost P fn (retPostM F w0 d os')) [.code c] ⟨n, 0, enum 0 ds, enumO 1000 os⟩) : FnMA P f h0 bl R := by
 refine ⟨hcall, fun ds os d os' hR h e w vs gh hl0 hbl hs hr ho hb' hap => ?_⟩
 obtain ⟨hlen, hlb, hrun⟩ := hrun ds os d os' hR
 have hvl : vs.length = ds.length := by
  clear hR hrun hlen
  induction ds generalizing vs with
  | nil => simp only [repT] at hr; simp [hr]
  | cons d r ih => simp only [repT] at hr; obtain ⟨v, vs', rfl, _, h2⟩ := hr; simp [ih vs' h2]
 refine calls_of_wp hf hb ?_
 refine (wpIn_wide (n := 0)).1 ?_
 have hk : ∀ k o, lkO (enumO 1000 os) k = some o → ∃ i, k = 1000 + i ∧ os[i]? = some o := fun k o hk => by
  rw [lkO_enumO] at hk
  split at hk
  ·exact ⟨k - 1000, by omega, hk⟩
  ·cases hk
 have han : Anch h0 bl ⟨w, h, fixO e os, gh⟩ := ⟨hl0, fun i b hib => by
  have hi := (List.getElem?_eq_some_iff.1 hib).1
  show (fixO e os)[i]? = some b
  rw [fixO_get (by omega), hbl i b hib]⟩
 refine hrun (blksO e 1000 os) ⟨w, h, fixO e os, gh⟩ han h e _ w ⟨rfl, ?_, fun t => ?_, fun k o hko => ?_, fun k o b hko hbl => ?_, fun k k' o o' b hne hko hko' hbl => ?_, hs, Keeps.refl _ _, Le.refl h, fun _ _ => rfl, fun i b hib => ?_⟩
 ·simp; omega
 ·have := lkp_enum (e := e) 0 t hr
  simp only [Nat.zero_le, if_true, Nat.sub_zero] at this
  have e1 : (vs.toArray ++ Array.replicate (fn.ntmps - vs.toArray.size) undef).getD t undef = vs.getD t undef := by
   simp only [Array.getD_eq_getD_getElem?, Array.getElem?_append, List.getD_eq_getElem?_getD]
   by_cases ht : t < vs.length
   ·simp [ht]
   ·simp only [List.size_toArray, ht, if_false, Array.getElem?_replicate]
    rw [List.getElem?_eq_none (by omega)]
    split <;> simp
  rw [e1]
  exact this
 ·obtain ⟨i, rfl, hi⟩ := hk k o hko
  exact ho i o hi
 ·obtain ⟨i, rfl, hi⟩ := hk k o hko
  have hm : b ∈ blksO e 1000 os := mem_blksO.2 ⟨i, o, hi, hbl⟩
  exact ⟨.inr ⟨hm, by omega⟩, hb' b hm⟩
 ·obtain ⟨i, rfl, hi⟩ := hk k o hko
  obtain ⟨j, rfl, hj⟩ := hk k' o' hko'
  exact hap i j o o' b (fun hc => hne (by rw [hc])) hi hj hbl
 ·change (fixO e os)[i]? = some b at hib
  have hi : i < os.length := by
   have := (List.getElem?_eq_some_iff.1 hib).1
   simpa [fixO] using this
  rw [fixO_get hi] at hib
  simpa using hib
end Go.Sx
namespace Go.Sx
open Go.RowKit
open Go.ChangeMaps (setBlock)
structure LR where
 l : Nat
 fn : Nat
 tm : Array Value
 ps : Array Nat
 as : Code
 bd : Code
 dfr : Nat
def LR.loop (r : LR) (st : LoopState) (pe : Option Code) : Loop := { state := st, pending := pe, fn := r.fn, tmps := r.tm, params := r.ps, assign := r.as, body := r.bd, defers := r.dfr }
def rawOB (o : Obj) (K : Option Nat) : OB := .mp ⟨none, 0, fun _ => false, fun _ => .any, some (.raw o K)⟩ []
def recO (r : LR) (st : LoopState) (pe : Option Code) : OB := rawOB (.loop (r.loop st pe)) (some r.l)
theorem rawOk {h : Hp} {e : Nm} {w : World} {k : Nat} {o : Obj} {K : Option Nat} (x : obOk h e w k (rawOB o K)) : w.heap[e.bs k]? = some o ∧ ∀ b, K = some b → e.bs k = b := by
 obtain ⟨o', h1, h2, h3⟩ := x
 subst h2
 exact ⟨h1, h3⟩
theorem rawMk {h : Hp} {e : Nm} {w : World} {k : Nat} {o : Obj} {K : Option Nat} (h1 : w.heap[e.bs k]? = some o) (h2 : ∀ b, K = some b → e.bs k = b) : obOk h e w k (rawOB o K) := ⟨o, h1, rfl, h2⟩
theorem OwnP.setRaw {F : List Nat} {w0 w : World} {ow ow' : List (Nat × OB)} {h : Hp} {e : Nm} {k : Nat} {o o' : Obj} {K : Option Nat} (O : OwnP F w0 ow h e w) (hk : lkO ow k = some (rawOB o K)) (hk' : lkO ow' k = some (rawOB o' K)) (hne : ∀ j, j ≠ k → lkO ow' j = lkO ow j) : OwnP F w0 ow' h e (w.putObj (e.bs k) o') := by
 obtain ⟨hb, hK⟩ := rawOk (O.own k _ hk)
 have hlt := (Array.getElem?_eq_some_iff.1 hb).1
 have hbk : (rawOB o K).blk e k = some (e.bs k) := rfl
 have key : ∀ j x, lkO ow' j = some x → ∃ y, lkO ow j = some y ∧ x.blk e j = y.blk e j := fun j x hj => by
  by_cases hjk : j = k
  ·subst hjk
   rw [hk'] at hj
   cases hj
   exact ⟨_, hk, rfl⟩
  ·rw [hne j hjk] at hj
   exact ⟨x, hj, rfl⟩
 refine ⟨fun j x hj => ?_, fun j x b hj hxb => ?_, fun j j' x x' b hjj hj hj' hxb => ?_⟩
 ·by_cases hjk : j = k
  ·subst hjk
   rw [hk'] at hj
   cases hj
   exact rawMk (World.putObj_heap_same hlt) hK
  ·rw [hne j hjk] at hj
   refine obOk_mono (Le.refl h) (fun b hxb => World.putObj_heap_other fun hc => ?_) (O.own j x hj)
   subst hc
   exact O.apart j k x _ _ hjk hj hk hxb hbk
 ·obtain ⟨y, hy, hyb⟩ := key j x hj
  rw [hyb] at hxb
  exact O.ownb j y b hy hxb
 ·obtain ⟨y, hy, hyb⟩ := key j x hj
  obtain ⟨y', hy', hyb'⟩ := key j' x' hj'
  rw [hyb] at hxb
  rw [hyb']
  exact O.apart j j' y y' b hjj hy hy' hxb
def hereI (F : List Nat) (w0 : Base) (s : St) : Act → World → Prop := fun a w => ∃ h e, Den F w0 s h e a w
theorem run_here {P : Program} {F : List Nat} {w0 : Base} {fin : Exit → Act → World → Prop} {k : List It} {s : St} : Run P F w0 fin (.lp (hereI F w0 s) :: k) s := fun h e _ _ D => ⟨h, e, D⟩
def jumpOf : Exit → Option (Option Code)
 | .normal => some none
 | .ret => some (some .ret)
 | .exit id => some (some (.exit id))
 | _ => none
def finR (F : List Nat) (w0 : Base0) (osb : List (Nat × OB)) (pe : Option Code) : Exit → Act → World → Prop := fun ex _ w => jumpOf ex = some pe ∧
 ∃ h e, Le w0.h h ∧ Sub h w ∧ Keeps F w0.w w ∧ (∀ b, b < w0.w.heap.size → h b = w0.h b) ∧ (∀ (i b : Nat), w0.fix[i]? = some b → e.bs (1000 + i) = b) ∧ OwnP F w0.w osb h e w
def putPs : List Nat → List SD → List (Nat × SD) → List (Nat × SD)
 | p :: ps, d :: ds, l => putPs ps ds (upd l p d)
 | _, _, l => l
theorem putPs_ok {h : Hp} {e : Nm} : ∀ (ps : List Nat) (ds : List SD) (vs : List Value) (sl : List (Nat × SD)) (tm : Array Value), repT h ds e vs → (∀ p ∈ ps, p < tm.size) → (∀ t, rep h (lkp sl t) e (tm.getD t undef)) →
  (((ps.zip vs).foldl (fun t (p : Nat × Value) => t.setIfInBounds p.1 p.2) tm).size = tm.size) ∧ ∀ t, rep h (lkp (putPs ps ds sl) t) e (((ps.zip vs).foldl (fun t (p : Nat × Value) => t.setIfInBounds p.1 p.2) tm).getD t undef)
 | [], ds, vs, sl, tm, _, _, h => by simpa [putPs] using h
 | p :: ps, [], vs, sl, tm, hr, _, h => by simp only [repT] at hr; subst hr; simpa [putPs] using h
 | p :: ps, d :: ds, vs, sl, tm, hr, hp, h => by
  simp only [repT] at hr
  obtain ⟨v, vs', rfl, h1, h2⟩ := hr
  simp only [List.zip_cons_cons, List.foldl_cons, putPs]
  have := putPs_ok ps ds vs' (upd sl p d) (tm.setIfInBounds p v) h2 (fun q hq => by simpa using hp q (by simp [hq])) (fun t => by
   rw [lkp_upd, getD_set _ _ _ _ (hp p (by simp))]
   by_cases ht : t = p
   ·simp only [ht, if_true]; exact h1
   ·simp only [ht, if_false]; exact h t)
  exact ⟨this.1.trans (by simp), this.2⟩
theorem Den.ownP {F : List Nat} {w0 : Base} {s : St} {h : Hp} {e : Nm} {a : Act} {w : World} (D : Den F w0 s h e a w) {os' : List (Nat × OB)} (ho : subO s.ow os') : OwnP F w0.w os' h e w := by
 have key : ∀ j o, lkO os' j = some o → ∃ o0, lkO s.ow j = some o0 ∧ OLe o0 o := fun j o hj => subO_ok ho j o hj
 refine ⟨fun j o hj => ?_, fun j o b hj hb => ?_, fun j j' o o' b hne hj hj' hb => ?_⟩
 ·obtain ⟨o0, g1, g2⟩ := key j o hj
  exact g2.ok (D.own j o0 g1)
 ·obtain ⟨o0, g1, g2⟩ := key j o hj
  rw [g2.blk] at hb
  exact D.ownb j o0 b g1 hb
 ·obtain ⟨o0, g1, g2⟩ := key j o hj
  obtain ⟨o1, g3, g4⟩ := key j' o' hj'
  rw [g2.blk] at hb
  rw [g4.blk]
  exact D.apart j j' o0 o1 b hne g1 g3 hb
section
variable {P : Program} {F : List Nat} {b0 : Base0} {l : Nat} {k : List It} {s : St} {osb : List (Nat × OB)}
theorem run_round_end (ho : subO s.ow osb) : Run P F ⟨b0, some l, []⟩ (finR F b0 osb none) [] s := fun h e a w D => ⟨rfl, h, e, D.le, D.sub, D.keeps, D.neww, D.fix, D.ownP ho⟩
end
theorem yld_intro {P : Program} {h0 : Hp} {bl : List Nat} {R : List SD → List OB → SD → List (Nat × OB) → Prop} (r : LR) (slE : List (Nat × SD)) (n : Nat) (l : Nat) (hl : r.l = l) (hsz : r.tm.size = n) (hps : ∀ p ∈ r.ps.toList, p < n)
  (hsl : ∀ h e, Le h0 h → (∀ (i b : Nat), bl[i]? = some b → e.bs (1000 + i) = b) → ∀ t, rep h (lkp slE t) e (r.tm.getD t undef))
  (hrun : ∀ ds os d os', R ds os d os' → ∃ (osu osu' : List OB) (pe : Option Code) (sA : St), os = osu ++ [recO r .ready none] ∧ d = .bool pe.isNone ∧ os' = enumO 1000 (osu' ++ [recO r (if pe.isNone then .ready else .done) pe]) ∧ osu'.length = osu.length ∧
   bl.length = os.length ∧ ds.length = r.ps.size ∧
   (∀ F w0, Anch h0 bl w0 → Run P F ⟨w0, some l, []⟩ (fun _ _ _ => False) [.code r.as, .lp (hereI F ⟨w0, some l, []⟩ sA)] ⟨n, 0, putPs r.ps.toList ds slE, enumO 1000 os⟩) ∧
   lkO sA.ow (1000 + osu.length) = some (recO r .ready none) ∧
   (∀ F w0, Anch h0 bl w0 → Run P F ⟨w0, some l, []⟩ (finR F w0 (enumO 1000 (osu' ++ [recO r .busy none])) pe) [.code r.bd] { sA with ow := upd sA.ow (1000 + osu.length) (recO r .busy none) })) : YldMA P l h0 bl R := by
 refine ⟨fun ds os d os' hR h e w vs gh hl0 hbl hs hr ho hb' hap => ?_⟩
 subst hl
 obtain ⟨osu, osu', pe, sA, e1, e2, e3, e4, e5, e7, g1, g2, g3⟩ := hrun ds os d os' hR
 have hm : os[osu.length]? = some (recO r .ready none) := by rw [e1]; simp
 have hel : e.bs (1000 + osu.length) = r.l := (rawOk (ho _ _ hm)).2 _ rfl
 have hrec : w.heap[r.l]? = some (.loop (r.loop .ready none)) := by
  have := (rawOk (ho _ _ hm)).1
  rw [hel] at this
  exact this
 have hvl : vs.length = ds.length := by
  have : ∀ (ds : List SD) (vs : List Value), repT h ds e vs → vs.length = ds.length := by
   intro ds
   induction ds with
   | nil => intro vs hr; simp only [repT] at hr; simp [hr]
   | cons d r ih => intro vs hr; simp only [repT] at hr; obtain ⟨v, vs', rfl, _, h2⟩ := hr; simp [ih vs' h2]
  exact this ds vs hr
 have hy := run_yield (P := P) (args := vs.toArray) hrec (by simp [LR.loop, hvl, e7])
 refine ⟨_, _, _, _, hy, roundIn_of_wpIn trivial ?_⟩
 have han : Anch h0 bl ⟨w, h, fixO e os, gh⟩ := ⟨hl0, fun i b hib => by
  have hi := (List.getElem?_eq_some_iff.1 hib).1
  show (fixO e os)[i]? = some b
  rw [fixO_get (by omega), hbl i b hib]⟩
 have hk : ∀ k o, lkO (enumO 1000 os) k = some o → ∃ i, k = 1000 + i ∧ os[i]? = some o := fun k o hk => by
  rw [lkO_enumO] at hk
  split at hk
  ·exact ⟨k - 1000, by omega, hk⟩
  ·cases hk
 have hfold : (r.ps.zip vs.toArray).foldl (fun tmps (x : Nat × Value) => tmps.setIfInBounds x.1 x.2) r.tm = (r.ps.toList.zip vs).foldl (fun t (p : Nat × Value) => t.setIfInBounds p.1 p.2) r.tm := by
  rw [← Array.foldl_toList, Array.toList_zip]
 obtain ⟨p1, p2⟩ := putPs_ok r.ps.toList ds vs slE r.tm hr (fun p hp => by rw [hsz]; exact hps p hp) (hsl h e hl0 hbl)
 rw [← hfold] at p1 p2
 have D0 : Den (blksO e 1000 os) ⟨⟨w, h, fixO e os, gh⟩, some r.l, []⟩ ⟨n, 0, putPs r.ps.toList ds slE, enumO 1000 os⟩ h e { tmps := (r.ps.zip vs.toArray).foldl (fun tmps (x : Nat × Value) => tmps.setIfInBounds x.1 x.2) r.tm, defers := [] } w := by
  refine ⟨rfl, p1.trans hsz, p2, fun k o hko => ?_, fun k o b hko hbl => ?_, fun k k' o o' b hne hko hko' hbl => ?_, hs, Keeps.refl _ _, Le.refl h, fun _ _ => rfl, fun i b hib => ?_⟩
  ·obtain ⟨i, rfl, hi⟩ := hk k o hko
   exact ho i o hi
  ·obtain ⟨i, rfl, hi⟩ := hk k o hko
   have hm : b ∈ blksO e 1000 os := mem_blksO.2 ⟨i, o, hi, hbl⟩
   exact ⟨.inr ⟨hm, by omega⟩, hb' b hm⟩
  ·obtain ⟨i, rfl, hi⟩ := hk k o hko
   obtain ⟨j, rfl, hj⟩ := hk k' o' hko'
   exact hap i j o o' b (fun hc => hne (by rw [hc])) hi hj hbl
  ·change (fixO e os)[i]? = some b at hib
   have hi : i < os.length := by
    have := (List.getElem?_eq_some_iff.1 hib).1
    simpa [fixO] using this
   rw [fixO_get hi] at hib
   simpa using hib
 have hA := g1 _ _ han h e _ w D0
 refine wpIn_mono (show r.as.wpIn (Fence.wide.inRound r.l) 0 P (post P (some r.l) (fun _ _ _ => False) [.lp (hereI (blksO e 1000 os) ⟨⟨w, h, fixO e os, gh⟩, some r.l, []⟩ sA)]) _ w from hA) fun ex a1 w1 hq => ?_
 cases ex with
 | normal =>
  obtain ⟨h1, e1', D1⟩ := hq
  have hfix1 : e1'.bs (1000 + osu.length) = r.l := (rawOk (D1.own _ _ g2)).2 _ rfl
  have hrec1 := (rawOk (D1.own _ _ g2)).1
  rw [hfix1] at hrec1
  refine ⟨_, run_beginRound hrec1 rfl, ?_⟩
  have hset := D1.setMp (m' := ⟨none, 0, fun _ => false, fun _ => .any, some (.raw (.loop (r.loop .busy none)) (some r.l))⟩) (o' := .loop (r.loop .busy none)) g2 (by rw [hfix1]; exact hrec1) ⟨rfl, fun b hb => by cases hb; exact hfix1⟩
  rw [hfix1] at hset
  have hB := g3 _ _ han h1 e1' a1 _ hset
  refine wpIn_mono (show r.bd.wpIn (Fence.wide.inRound r.l) 0 P (post P (some r.l) _ []) a1 _ from hB) fun ex a3 w3 hq3 => ?_
  obtain ⟨hj, h3, e3', q1, q2, q3, q4, q5, q6⟩ := hq3
  have hlk : lkO (enumO 1000 (osu' ++ [recO r .busy none])) (1000 + osu.length) = some (recO r .busy none) := by
   rw [lkO_enumO, if_pos (by omega), Nat.add_sub_cancel_left, ← e4]; simp
  have hfix3 : e3'.bs (1000 + osu.length) = r.l := (rawOk (q6.own _ _ hlk)).2 _ rfl
  have hrec3 := (rawOk (q6.own _ _ hlk)).1
  rw [hfix3] at hrec3
  have hlast : ∀ (jump : Option Code), jump = pe → retPostM (blksO e 1000 os) ⟨w, h, fixO e os, gh⟩ d os' (.returned (.bool jump.isNone)) (w3.putObj r.l (.loop (r.loop (if jump.isNone then .ready else .done) jump))) := fun jump hjp => by
   subst hjp
   have hO := q6.setRaw (o' := .loop (r.loop (if jump.isNone then .ready else .done) jump)) (ow' := enumO 1000 (osu' ++ [recO r (if jump.isNone then .ready else .done) jump])) hlk (by
    rw [lkO_enumO, if_pos (by omega), Nat.add_sub_cancel_left, ← e4]; simp [recO]) (fun j hj => by
    rw [lkO_enumO, lkO_enumO]
    by_cases hj1 : 1000 ≤ j
    ·rw [if_pos hj1, if_pos hj1]
     have hne : j - 1000 ≠ osu'.length := fun hc => hj (by omega)
     by_cases hlt : j - 1000 < osu'.length
     ·rw [List.getElem?_append_left hlt, List.getElem?_append_left hlt]
     ·rw [List.getElem?_eq_none (by simp; omega), List.getElem?_eq_none (by simp; omega)]
    ·rw [if_neg hj1, if_neg hj1])
   rw [hfix3] at hO
   have hnone := (q6.ownb _ _ r.l hlk (by show some (e3'.bs _) = _; rw [hfix3])).2
   have hmem : r.l ∈ blksO e 1000 os := mem_blksO.2 ⟨osu.length, _, hm, by show some (e.bs _) = _; rw [hel]⟩
   refine ⟨_, h3, e3', rfl, q1, fun b o hb => ?_, ⟨q3.os, q3.tape, q3.output, by simpa [World.putObj] using q3.size, fun b hb hF => ?_⟩, q4, q5, ?_, by rw [e3]; exact hO⟩
   ·rw [World.putObj_heap_other (fun hc => by rw [hc, hnone] at hb; cases hb)]
    exact q2 b o hb
   ·rw [World.putObj_heap_other (fun hc => hF (by rw [hc]; exact hmem))]
    exact q3.block b hb hF
   ·rw [e2]; simp [rep]
  cases ex with
  | normal =>
   simp only [jumpOf, Option.some.injEq] at hj
   exact ⟨_, _, run_endRound none hrec3, hlast none hj⟩
  | ret =>
   simp only [jumpOf, Option.some.injEq] at hj
   exact ⟨_, _, run_endRound (some .ret) hrec3, hlast _ hj⟩
  | exit id =>
   simp only [jumpOf, Option.some.injEq] at hj
   exact ⟨_, _, run_endRound (some (.exit id)) hrec3, hlast _ hj⟩
  | _ => simp [jumpOf] at hj
 | _ => exact hq
end Go.Sx
namespace Go.Sx
open Go.RowKit
open Go.ChangeMaps (setBlock)
def entS (s : St) (ks : List Nat) : List (Nat × SD) := renS (tau ks) (prgS (fun k => memb k ks) (fun _ => false) s.sl)
def aftD (s : St) (ks : List Nat) (os : List OB) (os' : List (Nat × OB)) : Option St :=
 bif nodupB ks && Nat.ble (s.nx + bndO os') 700 && allB (fun k => !isNew s.nx (bndO os') k) ks && (allB (fun k => Nat.blt k 700) ks || allB (fun k => Nat.ble 700 k) (accBack s os' 1000 ks)) &&
  okOs ks (bndO os') (accBack s os' 1000 ks) os' && kindB os' 1000 os && mapsOk (pbN s.nx (bndO os')) (phN s.nx (bndO os') (accBack s os' 1000 ks)) s.ow then
  some ⟨s.n, s.nx + bndO os', prgS (pbN s.nx (bndO os')) (phN s.nx (bndO os') (accBack s os' 1000 ks)) s.sl,
   renOs (sgm ks s.nx) os' ++ prgO (pbN s.nx (bndO os')) (phN s.nx (bndO os') (accBack s os' 1000 ks)) ks s.nx (bndO os') s.ow⟩
 else none
section
variable {P : Program} {F : List Nat} {w0 : Base} {s : St} {h : Hp} {e : Nm} {a : Act} {w : World}
theorem Den.aft (D : Den F w0 s h e a w) {ks : List Nat} {os : List OB} {os' : List (Nat × OB)} {s' : St} (ho : osOf s ks ks = some os) (hs : aftD s ks os os' = some s')
  {en : Ending} {w' : World} (hp : retPostM (blksO (e.inn ks) 1000 os) ⟨w, h, fixO (e.inn ks) os, D.gh⟩ (.tup []) os' en w') : ∃ v h' e'', en = .returned v ∧ Den F w0 s' h' e'' a w' := by
 unfold aftD at hs
 generalize hA : accBack s os' 1000 ks = A at hs
 generalize hB : bndO os' = B at hs
 generalize hcb : (nodupB ks && Nat.ble (s.nx + B) 700 && allB (fun k => !isNew s.nx B k) ks && (allB (fun k => Nat.blt k 700) ks || allB (fun k => Nat.ble 700 k) A) &&
  okOs ks B A os' && kindB os' 1000 os && mapsOk (pbN s.nx B) (phN s.nx B A) s.ow) = cb at hs
 cases cb
 ·cases hs
 simp only [cond_true, Option.some.injEq] at hs
 simp only [Bool.and_eq_true] at hcb
 obtain ⟨⟨⟨⟨⟨⟨c2, c3⟩, c4⟩, c5⟩, c7⟩, c8⟩, c9⟩ := hcb
 subst hs
 refine D.backM (s' := ⟨s.n, s.nx + B, prgS (pbN s.nx B) (phN s.nx B A) s.sl, renOs (sgm ks s.nx) os' ++ prgO (pbN s.nx B) (phN s.nx B A) ks s.nx B s.ow⟩) (ks := ks) (m := s.nx) (B := B) (A := A) (os := os) (d := .tup []) (os' := os') ⟨nodupB_ok c2, Nat.le_of_ble_eq_true c3, fun k hk => by have := allB_ok c4 k hk; simpa only [Bool.not_eq_true'] using this, (osOf_ok ho).1, (osOf_ok ho).2, ?_, rfl, c7, fun i o o' => kindB_ok c8 i o o'⟩
  (dst := none) (fun t' h => by cases h) rfl (fun i _ => ?_) (fun t' h => by cases h) (fun k o hk => ?_) (fun k hk => accBack_mem (by rw [hA]; exact hk)) hp
 ·simp only [Bool.or_eq_true] at c5
  rcases c5 with c5 | c5
  ·exact .inl fun k hk => blt_lt (allB_ok c5 k hk)
  ·exact .inr fun k hk => Nat.le_of_ble_eq_true (allB_ok c5 k hk)
 ·simp only [lkp_prgS]
  cases hx : allN (pbN s.nx B) (phN s.nx B A) (lkp s.sl i)
  ·exact .inl rfl
  ·exact .inr ⟨rfl, rfl⟩
 ·simp only [lkO_append] at hk
  split at hk
  ·rename_i o1 h1
   simp only [Option.some.injEq] at hk
   subst hk
   exact .inl (lkO_renOs h1)
  ·exact .inr (lkO_prgO c9 hk)
theorem entS_ok (D : Den F w0 s h e a w) {ks : List Nat} {h' : Hp} {e' : Nm} (hl : Le h h') (he : ∀ i, i < ks.length → e'.bs (1000 + i) = e.bs (getN ks i)) (t : Nat) : rep h' (lkp (entS s ks) t) e' (a.tmps.getD t undef) := by
 unfold entS
 rw [lkp_renS, rep_ren, lkp_prgS]
 cases hx : allN (fun k => memb k ks) (fun _ => false) (lkp s.sl t)
 ·simp [rep]
 ·simp only [cond_true]
  refine rep_agr (pb := fun k => memb k ks) (ph := fun _ => false) ⟨fun k hk => ?_, fun k hk => by cases hk⟩ _ _ hx (rep_mono hl _ e _ (D.slot t))
  obtain ⟨q1, q2, q3⟩ := get_idx ks k 1000 (memb_iff.1 hk)
  have := he (idxN ks k 1000 - 1000) (by omega)
  rw [q3, show 1000 + (idxN ks k 1000 - 1000) = idxN ks k 1000 by omega] at this
  exact this
theorem Den.drop (D : Den F w0 s h e a w) (k : Nat) : Den F w0 ⟨s.n, s.nx, s.sl, del s.ow k⟩ h e a w := by
 have key : ∀ j o, lkO (del s.ow k) j = some o → lkO s.ow j = some o := fun j o hj => by
  rw [lkO_del] at hj
  by_cases hjk : j = k
  ·simp [hjk] at hj
  ·simpa only [hjk, if_false] using hj
 exact ⟨D.defers, D.size, D.slot, fun j o hj => D.own j o (key j o hj), fun j o b hj hb => D.ownb j o b (key j o hj) hb, fun j j' o o' b hne hj hj' hb => D.apart j j' o o' b hne (key j o hj) (key j' o' hj') hb, D.sub, D.keeps, D.le, D.neww, D.fix⟩
theorem Den.base (D : Den F w0 s h e a w) (mark : List Deferred) (rd : Option Nat) : Den F ⟨w0.b0, rd, mark ++ w0.ds⟩ s h e { a with defers := mark ++ a.defers } w :=
 ⟨by show mark ++ a.defers = mark ++ w0.ds; rw [D.defers], D.size, D.slot, D.own, D.ownb, D.apart, D.sub, D.keeps, D.le, D.neww, D.fix⟩
def rfS (s : St) (r : LR) (K : Nat) : St := ⟨s.n, s.nx + 2, s.sl, upd (upd s.ow s.nx (rawOB (.deferred (some [])) (some K))) (s.nx + 1) (recO r .ready none)⟩
def contK : Option Code → List It → List It
 | none, k => k
 | some c, k => .code c :: k
def stE (pe : Option Code) : LoopState := if pe.isNone then .ready else .done
theorem del_upd {α : Type} : ∀ (l : List (Nat × α)) (k : Nat) (x : α), del (upd l k x) k = del l k
 | [], k, x => by simp [upd, del]
 | (j, d) :: r, k, x => by
  simp only [upd]
  cases hb : Nat.beq j k
  ·simp only [cond_false, del, hb, del_upd r k x]
  ·simp only [cond_true, del, Nat.beq_refl, hb]
theorem getN_append : ∀ (ks l : List Nat) (i : Nat), i < ks.length → getN (ks ++ l) i = getN ks i
 | [], _, i, h => absurd h (Nat.not_lt_zero i)
 | k :: r, l, 0, _ => rfl
 | k :: r, l, i + 1, h => by simp only [List.cons_append, getN]; exact getN_append r l i (by simpa using h)
end
end Go.Sx
namespace Go.Sx
open Go.RowKit
open Go.ChangeMaps (setBlock)
def finX (P : Program) (fn : Func) (R : Ending → World → Prop) : Exit → Act → World → Prop := bodyPostM Fence.wide 0 P fn R
section
variable {P : Program} {b0 : Base0} {s : St}
theorem run_results {F : List Nat} {w0 : Base} {h : Hp} {e : Nm} {a : Act} {w : World} (D : Den F w0 s h e a w) {fn : Func} {l : List ResultVar} {ds : List SD} (hr : fn.results = l.toArray) (hq : resL P s l = some ds) : ∃ v, (results fn a.tmps).run P w = .ok v w ∧ rep h (retD ds) e v := by
 obtain ⟨vs, g1, g2⟩ := run_res (P := P) D hq
 refine ⟨if hz : vs.toArray.size = 1 then vs.toArray[0] else .tuple vs.toArray, ?_, ?_⟩
 ·rw [results_resF, hr]
  simp only [List.mapM_toArray, Sem.run_bind]
  rw [map_eq_pure_bind]
  simp only [Sem.run_bind, g2, Result.andThen_ok, Sem.run_pure]
 ·match ds, vs, g1 with
  | [], vs, g1 =>
   simp only [repT] at g1
   subst g1
   simp [retD, rep, repT]
  | [d1], vs, g1 =>
   simp only [repT] at g1
   obtain ⟨v, vs', rfl, g3, rfl⟩ := g1
   simpa [retD] using g3
  | d1 :: d2 :: r, vs, g1 =>
   have : vs.toArray.size ≠ 1 := by
    simp only [repT] at g1
    obtain ⟨v, vs', rfl, _, v2, vs2, rfl, _⟩ := g1
    simp
   rw [dif_neg this]
   simp only [retD, rep]
   exact ⟨vs, rfl, g1⟩
theorem run_retX1 (nK K : Nat) {k : List It} {fn : Func} {l : List ResultVar} {ds : List SD} {d : SD} (hk : lkO s.ow nK = some (rawOB (.deferred (some [])) (some K))) (hr : fn.results = l.toArray) (hq : resL P s l = some ds) (hd : SLe0 (retD ds) d) :
  Run P [] ⟨b0, none, [{ target := .collected K, args := #[] }]⟩ (finX P fn (retPost b0 d)) (.code .ret :: k) s := fun h e a w D => by
 refine wpIn_ret (post_ret ?_)
 show LeavesInM Fence.wide 0 P fn a.tmps (retPost b0 d) a.defers .returning w
 rw [show a.defers = [{ target := .collected K, args := #[] }] from D.defers]
 obtain ⟨k1, k2⟩ := rawOk (D.own _ _ hk)
 have k2 := k2 K rfl
 have D' := D.setMp (m' := ⟨none, 0, fun _ => false, fun _ => .any, some (.raw (.deferred none) none)⟩) (o' := .deferred none) hk k1 ⟨rfl, fun b hb => by cases hb⟩
 rw [k2] at D' k1
 refine ⟨by simp, .inl ⟨K, _, rfl, run_takeDeferred k1, ?_⟩⟩
 have hq' : resL P { s with ow := upd s.ow nK (.mp ⟨none, 0, fun _ => false, fun _ => .any, some (.raw (.deferred none) none)⟩ []) } l = some ds := by
  have hat : ∀ x l, atD s x = some l → atD { s with ow := upd s.ow nK (.mp ⟨none, 0, fun _ => false, fun _ => .any, some (.raw (.deferred none) none)⟩ []) } x = some l := fun x l hx => by
   cases x <;> simp only [atD] at hx ⊢ <;> try exact hx
   ·rename_i j off
    simp only [lkO_upd]
    by_cases hj : j = nK
    ·subst hj; rw [hk] at hx; simp [rawOB, lvE] at hx
    ·simp only [hj, if_false]; exact hx
   ·rename_i j es i off
    simp only [lkO_upd]
    by_cases hj : j = nK
    ·subst hj; rw [hk] at hx; simp [rawOB, lvE] at hx
    ·simp only [hj, if_false]; exact hx
  clear hr hd
  induction l generalizing ds with
  | nil => exact hq
  | cons x r ih =>
   simp only [resL] at hq ⊢
   split at hq
   ·rename_i d1 ds1 h1 h2
    simp only [Option.some.injEq] at hq
    subst hq
    have hx : resD P { s with ow := upd s.ow nK (.mp ⟨none, 0, fun _ => false, fun _ => .any, some (.raw (.deferred none) none)⟩ []) } x = some d1 := by
     cases x <;> simp only [resD] at h1 ⊢
     ·exact h1
     ·split at h1
      ·rename_i l0 hl0
       rw [hat _ _ hl0]
       exact h1
      ·cases h1
    rw [hx, ih h2]
   ·cases hq
 obtain ⟨v, g1, g2⟩ := run_results D' hr hq'
 exact ⟨v, g1, v, h, rfl, D'.le, D'.sub, D'.keeps.below, D'.neww, hd h e _ g2⟩
theorem fn_introX {f : Nat} {fn : Func} {c : Code} {n : Nat} {R : List SD → SD → Prop} (hcall : ∀ args w, (callFunc f args).run P w = .ok (.enter f args) w) (hf : P.funcs[f]? = some fn) (hb : fn.body = some c) (hn : fn.ntmps = n)
  (hrun : ∀ ds d, R ds d → ds.length ≤ n ∧ ∀ w0 : Base0, Run P [] w0.std (finX P fn (retPost w0 d)) [.code c] ⟨n, 0, enum 0 ds, []⟩) : FnOK P f R := by
 refine ⟨hcall, fun ds d hR h e w vs gh hs hr => ?_⟩
 obtain ⟨hlen, hrun⟩ := hrun ds d hR
 have hvl : vs.length = ds.length := by
  clear hR hrun hlen
  induction ds generalizing vs with
  | nil => simp only [repT] at hr; simp [hr]
  | cons d r ih => simp only [repT] at hr; obtain ⟨v, vs', rfl, _, h2⟩ := hr; simp [ih vs' h2]
 refine (callsIn_wide (n := 0)).1 (callsIn_of_wp_marks hf hb trivial ?_)
 refine hrun ⟨w, h, [], gh⟩ h e _ w ⟨rfl, ?_, fun t => ?_, fun k o hk => by simp [lkO] at hk, fun k o b hk => by simp [lkO] at hk, fun k k' o o' b _ hk => by simp [lkO] at hk, hs, Keeps.refl _ _, Le.refl h, fun _ _ => rfl, fun i b hb => by simp [Base.fix, Base0.std] at hb⟩
 ·simp; omega
 ·have := lkp_enum (e := e) 0 t hr
  simp only [Nat.zero_le, if_true, Nat.sub_zero] at this
  have e1 : (vs.toArray ++ Array.replicate (fn.ntmps - vs.toArray.size) undef).getD t undef = vs.getD t undef := by
   simp only [Array.getD_eq_getD_getElem?, Array.getElem?_append, List.getD_eq_getElem?_getD]
   by_cases ht : t < vs.length
   ·simp [ht]
   ·simp only [List.size_toArray, ht, if_false, Array.getElem?_replicate]
    rw [List.getElem?_eq_none (by omega)]
    split <;> simp
  rw [e1]
  exact this
end
end Go.Sx
namespace Go.Sx
theorem OLe.snoc {α : Type} [Inhabited α] (enc : α → SD) (t : List α) (a : α) {T es : Nat} {d : SD} (h : SLe d (enc a)) :
  OLe (.acc T es (t.length + 1) (joinF t.length (fun i => enc (t.getD i default)) (nthSD [d]))) (.acc T es (t ++ [a]).length fun i => enc ((t ++ [a]).getD i default)) := by
 refine ⟨rfl, rfl, by simp, fun i hi hp u hu e => ?_⟩
 have hu' := hu e
 show rep hp (enc ((t ++ [a]).getD i default)) e u
 simp only [joinF] at hu'
 by_cases hlt : i < t.length
 ·rw [if_pos hlt] at hu'
  rwa [List.getD_eq_getElem?_getD, List.getElem?_append_left hlt, ← List.getD_eq_getElem?_getD]
 ·have : i = t.length := by omega
  subst this
  rw [if_neg hlt, Nat.sub_self] at hu'
  have e1 : (t ++ [a]).getD t.length default = a := by simp [List.getD_eq_getElem?_getD]
  rw [e1]
  exact h _ _ _ hu'
theorem SLe.nil0 {α : Type} {es : Nat} {f : Nat → SD} : SLe .nils (.list es ([] : List α).length f) := SLe.nils
theorem SLe.lit1 (x : Int) : SLe (.list 1 1 fun i => .int .i64 ([x].getD i 0)) (.list 1 [x].length fun i => .int .i64 ([x].getD i default)) := SLe.refl _
theorem OLe.snocF {α : Type} [Inhabited α] (enc : α → SD) (t : List α) (a : α) {T es : Nat} {g : Nat → SD} (h : SLe (g 0) (enc a)) :
  OLe (.acc T es (t.length + 1) (joinF t.length (fun i => enc (t.getD i default)) g)) (.acc T es (t ++ [a]).length fun i => enc ((t ++ [a]).getD i default)) := by
 refine ⟨rfl, rfl, by simp, fun i hi hp u hu e => ?_⟩
 have hu' := hu e
 show rep hp (enc ((t ++ [a]).getD i default)) e u
 simp only [joinF] at hu'
 by_cases hlt : i < t.length
 ·rw [if_pos hlt] at hu'
  rwa [List.getD_eq_getElem?_getD, List.getElem?_append_left hlt, ← List.getD_eq_getElem?_getD]
 ·have : i = t.length := by omega
  subst this
  rw [if_neg hlt, Nat.sub_self] at hu'
  have e1 : (t ++ [a]).getD t.length default = a := by simp [List.getD_eq_getElem?_getD]
  rw [e1]
  exact h _ _ _ hu'
theorem OLe.snoc1 (t : List Int) (a : Int) {T es : Nat} : OLe (.acc T es (t.length + 1) (joinF t.length (fun i => .int .i64 (t.getD i default)) (fun i => .int .i64 ([a].getD i 0)))) (.acc T es (t ++ [a]).length fun i => .int .i64 ((t ++ [a]).getD i default)) :=
 OLe.snocF (fun x : Int => SD.int .i64 x) t a (SLe.refl _)
theorem OLe.snoc2 (t : List ByteArray) (a : ByteArray) {T es : Nat} : OLe (.acc T es (t.length + 1) (joinF t.length (fun i => .str (t.getD i default)) (fun i => .str ([a].getD i ByteArray.empty)))) (.acc T es (t ++ [a]).length fun i => .str ((t ++ [a]).getD i default)) :=
 OLe.snocF (fun x : ByteArray => SD.str x) t a (SLe.refl _)
end Go.Sx
namespace Go.Sx
open Go.RowKit
def cpF (a b n : Nat) (f : Nat → SD) (i : Nat) : SD := if a ≤ i ∧ i < a + Nat.min (n - b) (n - a) then f (i - a + b) else f i
def slA (P : Program) (s : St) (T : Nat) (x lo : SD) : Option (List Prop × SD) :=
 match x, lo with
 | .acc k, .int _ l => match lkO s.ow k with
  | some (.acc _ es n _) => match elT P T with
   | some te => bif Nat.beq (kdT P T) 1 && Nat.beq (szT P te) es && Nat.ble 1 es then some ([0 ≤ l, l ≤ (n : Int), 0 < n], .accp k es l.toNat) else none
   | none => none
  | _ => none
 | _, _ => none
def cpA (P : Program) (s : St) (T : Nat) (x y : SD) : Option (SD × Nat × OB) :=
 match x, y with
 | .accp k es a, .accp k' es2 b => match lkO s.ow k with
  | some (.acc te es' n f) => match elT P T with
   | some te' => bif Nat.beq k k' && Nat.beq es es2 && Nat.beq es es' && Nat.beq (kdT P T) 1 && Nat.beq (szT P te') es && Nat.ble 1 es then some (.int .i64 (Nat.min (n - b) (n - a) : Nat), k, .acc te es' n (cpF a b n f)) else none
   | none => none
  | _ => none
 | _, _ => none
section
variable {P : Program} {F : List Nat} {w0 : Base} {s : St} {h : Hp} {e : Nm} {a : Act} {w : World}
theorem wp_slA (D : Den F w0 s h e a w) {t T : Nat} (ht : t < s.n) {x y : Operand} {ty : Nat} {pos : String} {af : Array Edge} {g : Option (Nat × Bool)} {p : List Prop} {d : SD}
  (hq : slA P s T (ev s x) (ev s y) = some (p, d)) (hp : allP p) (K : Act → World → Prop) (Q : Exit → Act → World → Prop) (hK : ∀ h' e' a' w', Den F w0 (s.put t d) h' e' a' w' → K a' w') :
  (⟨some t, .slice T x (some y) none none, ty, pos, af, g⟩ : Oper).wp P a w K Q := by
 unfold slA at hq
 split at hq
 ·rename_i k kk l hx hy
  split at hq
  ·rename_i te es n f ho
   split at hq
   ·rename_i te' hte
    cases hb : (Nat.beq (kdT P T) 1 && Nat.beq (szT P te') es && Nat.ble 1 es)
    ·rw [hb] at hq; cases hq
    ·rw [hb] at hq
     simp only [cond_true, Option.some.injEq, Prod.mk.injEq] at hq
     obtain ⟨rfl, rfl⟩ := hq
     simp only [Bool.and_eq_true] at hb
     obtain ⟨⟨b1, b2⟩, b3⟩ := hb
     have b2 := Nat.eq_of_beq_eq_true b2
     have b3 := Nat.le_of_ble_eq_true b3
     obtain ⟨te2, hu⟩ := und1 b1
     have := elT_slice hu hte
     subst this
     obtain ⟨m0, hm0⟩ : ∃ m, szT P te' = m + 1 := ⟨szT P te' - 1, by omega⟩
     obtain ⟨i, hi, hs⟩ := info_of_szT hm0
     have hes : es = i.size := by omega
     simp only [allP] at hp
     obtain ⟨p1, p2, p3, _⟩ := hp
     have hxv := D.ev x
     rw [hx] at hxv
     have hyv := D.ev y
     rw [hy] at hyv
     simp only [rep] at hxv hyv
     obtain ⟨xs, o1, _, _⟩ := D.own k _ ho
     rcases o1.2 with ⟨_, hv⟩ | ⟨b, c, cur, hv, _, hg, hnc, hcm, hcs, htake⟩
     ·omega
     ·have hln : l.toNat ≤ n := by omega
      have hbd : (Instr.sliceBounds true n c (some (.int kk l)) none none).run P w = .ok (l.toNat, n, c) w := by
       have : 0 ≤ l ∧ l ≤ (n : Int) := ⟨p1, p2⟩
       simp [Instr.sliceBounds, Instr.sliceBound, asIntOf, this]
      have hr : (execOp a.eval ⟨some t, .slice T x (some y) none none, ty, pos, af, g⟩).run P w = .ok (.value (.slice (some (if c = l.toNat then ⟨b, 0, none⟩ else ⟨b, l.toNat * es, none⟩)) (n - l.toNat) (c - l.toNat))) w := by
       have e1 : (if c = l.toNat then some (⟨b, 0, none⟩ : Addr) else Option.map (fun x : Addr => x.add (l.toNat * i.size)) (some ⟨b, 0, none⟩)) = some (if c = l.toNat then ⟨b, 0, none⟩ else ⟨b, l.toNat * es, none⟩) := by
        by_cases hc : c = l.toNat
        ·simp [hc]
        ·simp [hc, Addr.add_mid, hes]
       have e2 : (Instr.sliceAt T (.slice (some ⟨b, 0, none⟩) n c) (some (.int kk l)) none none).run P w = .ok (.slice (some (if c = l.toNat then ⟨b, 0, none⟩ else ⟨b, l.toNat * es, none⟩)) (n - l.toNat) (c - l.toNat)) w := by
        simp [Instr.sliceAt, Instr.slice, run_underlying hu, hbd, sizeOf, typeInfo, hi]
        simpa using e1
       have hxe : a.eval x = .slice (some ⟨b, 0, none⟩) n c := hxv.1.trans hv
       simp [execOp, hxe, hyv, e2]
      unfold Oper.wp
      rw [hr]
      refine hK h e _ _ (D.put ht ?_)
      simp only [rep]
      exact ⟨b, n, c, hv, hln, hnc, rfl⟩
   ·cases hq
  ·cases hq
 ·cases hq
theorem cp_cut {xs : List Value} {es a b n m i : Nat} (hx : xs.length = n * es) (hma : a + m ≤ n) (hmb : b + m ≤ n) (hi : i < n) :
  (xs.take (a * es) ++ cut xs (b * es) (m * es) ++ xs.drop (a * es + m * es)).length = n * es ∧
  cut (xs.take (a * es) ++ cut xs (b * es) (m * es) ++ xs.drop (a * es + m * es)) (i * es) es = if a ≤ i ∧ i < a + m then cut xs ((i - a + b) * es) es else cut xs (i * es) es := by
 have ha : (a + m) * es ≤ n * es := Nat.mul_le_mul_right _ hma
 have hb : (b + m) * es ≤ n * es := Nat.mul_le_mul_right _ hmb
 have hii : (i + 1) * es ≤ n * es := Nat.mul_le_mul_right _ hi
 rw [Nat.add_mul] at ha hb hii
 have hl0 : (xs.take (a * es)).length = a * es := by rw [List.length_take]; omega
 have hlc : (cut xs (b * es) (m * es)).length = m * es := by simp only [cut, List.length_take, List.length_drop]; omega
 have hl : (xs.take (a * es) ++ cut xs (b * es) (m * es)).length = a * es + m * es := by rw [List.length_append]; omega
 refine ⟨by rw [List.length_append, hl, List.length_drop]; omega, ?_⟩
 apply List.ext_getElem?
 intro k
 have lhs : ∀ (ys : List Value) (o : Nat), (cut ys o es)[k]? = if k < es then ys[o + k]? else none := fun ys o => by
  simp only [cut, List.getElem?_take, List.getElem?_drop]
 rw [lhs]
 by_cases hk : k < es
 ·rw [if_pos hk]
  by_cases hc : a ≤ i ∧ i < a + m
  ·rw [if_pos hc, lhs, if_pos hk]
   have h1 : a * es ≤ i * es := Nat.mul_le_mul_right _ hc.1
   have h2 : (i + 1) * es ≤ (a + m) * es := Nat.mul_le_mul_right _ hc.2
   rw [Nat.add_mul, Nat.add_mul] at h2
   rw [List.getElem?_append_left (by omega), List.getElem?_append_right (by omega), hl0]
   simp only [cut, List.getElem?_take, List.getElem?_drop]
   rw [if_pos (by omega), Nat.add_mul, Nat.sub_mul]
   congr 1
   omega
  ·rw [if_neg hc, lhs, if_pos hk]
   by_cases h1 : i < a
   ·have h2 : (i + 1) * es ≤ a * es := Nat.mul_le_mul_right _ h1
    rw [Nat.add_mul] at h2
    rw [List.getElem?_append_left (by omega), List.getElem?_append_left (by omega), List.getElem?_take, if_pos (by omega)]
   ·have h2 : (a + m) * es ≤ i * es := Nat.mul_le_mul_right _ (by omega)
    rw [Nat.add_mul] at h2
    rw [List.getElem?_append_right (by omega), hl, List.getElem?_drop]
    congr 1
    omega
 ·rw [if_neg hk]
  split <;> rw [lhs, if_neg hk]
theorem wp_cpA (D : Den F w0 s h e a w) {t T : Nat} (ht : t < s.n) {x y : Operand} {ty : Nat} {pos : String} {af : Array Edge} {g : Option (Nat × Bool)} {d : SD} {k : Nat} {ob : OB}
  (hq : cpA P s T (ev s x) (ev s y) = some (d, k, ob)) (K : Act → World → Prop) (Q : Exit → Act → World → Prop) (hK : ∀ h' e' a' w', Den F w0 ⟨s.n, s.nx, upd s.sl t d, upd s.ow k ob⟩ h' e' a' w' → K a' w') :
  (⟨some t, .call ⟨.builtin .copy, #[x, y], #[T, T]⟩, ty, pos, af, g⟩ : Oper).wp P a w K Q := by
 unfold cpA at hq
 split at hq
 ·rename_i k1 es a0 k2 es2 b0 hx hy
  split at hq
  ·rename_i te es' n f ho
   split at hq
   ·rename_i te' hte
    cases hb : (Nat.beq k1 k2 && Nat.beq es es2 && Nat.beq es es' && Nat.beq (kdT P T) 1 && Nat.beq (szT P te') es && Nat.ble 1 es)
    ·rw [hb] at hq; cases hq
    ·rw [hb] at hq
     simp only [cond_true, Option.some.injEq, Prod.mk.injEq] at hq
     obtain ⟨rfl, rfl, rfl⟩ := hq
     simp only [Bool.and_eq_true] at hb
     obtain ⟨⟨⟨⟨⟨c1, c6⟩, c2⟩, c3⟩, c4⟩, c5⟩ := hb
     have c6 := Nat.eq_of_beq_eq_true c6
     subst c6
     have c1 := Nat.eq_of_beq_eq_true c1
     have c2 := Nat.eq_of_beq_eq_true c2
     subst c1 c2
     have c4 := Nat.eq_of_beq_eq_true c4
     have c5 := Nat.le_of_ble_eq_true c5
     obtain ⟨te2, hu⟩ := und1 c3
     have := elT_slice hu hte
     subst this
     obtain ⟨m0, hm0⟩ : ∃ m, szT P te' = m + 1 := ⟨szT P te' - 1, by omega⟩
     obtain ⟨i, hi, hs⟩ := info_of_szT hm0
     have hes : es = i.size := by omega
     have hxv := D.ev x
     rw [hx] at hxv
     have hyv := D.ev y
     rw [hy] at hyv
     simp only [rep] at hxv hyv
     obtain ⟨b, n1, c, x1, x2, x3, x4⟩ := hxv
     obtain ⟨b', n2, c', y1, y2, y3, y4⟩ := hyv
     rw [x1] at y1
     simp only [Value.slice.injEq, Option.some.injEq, Addr.mk.injEq, and_true] at y1
     obtain ⟨rfl, rfl, rfl⟩ := y1
     obtain ⟨xs, o1, o2, o3⟩ := D.own _ _ ho
     rcases o1.2 with ⟨hv, _⟩ | ⟨g', cap, cur, hv, _, hg, hnc, hcm, hcs, htake⟩
     ·rw [x1] at hv; cases hv
     ·rw [x1] at hv
      simp only [Value.slice.injEq, Option.some.injEq, Addr.mk.injEq, and_true] at hv
      obtain ⟨rfl, rfl, rfl⟩ := hv
      have hxl := o1.1
      generalize hm : Nat.min (n1 - b0) (n1 - a0) = m
      rw [hm] at hK
      have hm1 : m ≤ n1 - b0 := hm ▸ Nat.min_le_left _ _
      have hm2 : m ≤ n1 - a0 := hm ▸ Nat.min_le_right _ _
      have hmc : n1 * es ≤ c * es := Nat.mul_le_mul_right _ hnc
      unfold Oper.wp
      have hblk : (OB.acc te es n1 f).blk e k1 = some b := by simp [OB.blk, x1, Value.ownBlock]
      by_cases hmz : m = 0
      ·subst hmz
       have hr : (execOp a.eval ⟨some t, .call ⟨.builtin .copy, #[x, y], #[T, T]⟩, ty, pos, af, g⟩).run P w = .ok (.value (goInt 0)) w := by
        have e1 : ∀ ad ad', (Builtin.copy_ #[T, T] ty #[.slice (some ad) (n1 - a0) (c - a0), .slice (some ad') (n1 - b0) (c - b0)]).run P w = .ok (goInt 0) w := fun ad ad' => by
         simp [Builtin.copy_, run_underlying hu, sizeOf, typeInfo, hi, Builtin.lenOf, Builtin.firstCells, hm, loadCells, loadCellsFrom, storeCells]
        simp only [execOp, resolve, invoke, builtin, Sem.run_bind, Sem.run_pure, Result.andThen_ok, List.map_toArray, List.map_cons, List.map_nil, x4, y4, e1]
       rw [hr]
       refine hK h e _ _ ?_
       have D1 := D.setOwn (o' := .acc te es n1 (cpF a0 b0 n1 f)) ho rfl ⟨xs, o1, o2, fun j hj => by
        have : cpF a0 b0 n1 f j = f j := by unfold cpF; rw [hm, if_neg (by omega)]
        rw [this]; exact o3 j hj⟩ (fun _ _ => rfl) rfl rfl rfl rfl
       exact D1.put (i := t) (d := .int .i64 ((0 : Nat) : Int)) (v := goInt 0) ht (by simp [rep, goInt])
      ·have ea : (if c = a0 then (⟨b, 0, none⟩ : Addr) else ⟨b, a0 * es, none⟩) = ⟨b, a0 * es, none⟩ := if_neg (by omega)
       have eb : (if c = b0 then (⟨b, 0, none⟩ : Addr) else ⟨b, b0 * es, none⟩) = ⟨b, b0 * es, none⟩ := if_neg (by omega)
       rw [ea] at x4
       rw [eb] at y4
       have hma : a0 + m ≤ n1 := by omega
       have hmb : b0 + m ≤ n1 := by omega
       have qa : (a0 + m) * es ≤ n1 * es := Nat.mul_le_mul_right _ hma
       have qb : (b0 + m) * es ≤ n1 * es := Nat.mul_le_mul_right _ hmb
       rw [Nat.add_mul] at qa qb
       generalize hcs' : cut xs (b0 * es) (m * es) = cs
       have hcl : cs.length = m * es := by rw [← hcs']; simp only [cut, List.length_take, List.length_drop]; omega
       have hload := run_loadCells_list (P := P) w ⟨b, b0 * es, none⟩ cs fun j v hv => by
        rw [Addr.add_mid]
        rw [x1] at o1
        have hj : j < m * es := by rw [← hcl]; exact (List.getElem?_eq_some_iff.1 hv).1
        rw [World.ownsRow.cellAt o1 _ (by omega)]
        rw [← hcs'] at hv
        simp only [cut, List.getElem?_take, List.getElem?_drop] at hv
        rw [if_pos hj] at hv
        exact hv
       have hone : ∀ v ∈ cs, v.oneCell' = true := fun v hv => by
        obtain ⟨j, h3⟩ := List.mem_iff_getElem?.1 hv
        have hj' : j < m * es := by rw [← hcl]; exact (List.getElem?_eq_some_iff.1 h3).1
        have hd : j / es < m := (Nat.div_lt_iff_lt_mul (by omega)).2 hj'
        obtain ⟨u, _, u2, _, u4⟩ := o3 (b0 + j / es) (by omega)
        refine u4 _ ?_
        have hmod : j % es < es := Nat.mod_lt _ (by omega)
        have hjj : es * (j / es) + j % es = j := Nat.div_add_mod j es
        rw [← hcs'] at h3
        simp only [cut, List.getElem?_take, List.getElem?_drop] at h3
        rw [if_pos hj'] at h3
        have e1 : u.cells.toList[j % es]? = some v := by
         rw [u2]
         simp only [cut, List.getElem?_take, List.getElem?_drop]
         rw [if_pos hmod, Nat.add_mul, Nat.mul_comm (j / es) es, Nat.add_assoc, hjj, h3]
        have := List.mem_of_getElem? e1
        simpa using this
       have hst := run_storeCells_at P b (a0 * es) te cs 0 cur w hg (by rw [hcl, hcs]; omega) hone
       simp only [Nat.add_zero] at hst
       have hr : (execOp a.eval ⟨some t, .call ⟨.builtin .copy, #[x, y], #[T, T]⟩, ty, pos, af, g⟩).run P w = .ok (.value (goInt m)) (w.setRow b (cur.toList.take (a0 * es) ++ cs ++ cur.toList.drop (a0 * es + cs.length)).toArray) := by
        have hload' : (loadCells ⟨b, b0 * es, none⟩ (m * i.size)).run P w = .ok cs.toArray w := by rw [← hes, ← hcl]; exact hload
        simp only [execOp, resolve, invoke, builtin, Sem.run_bind, Sem.run_pure, Result.andThen_ok, List.map_toArray, List.map_cons, List.map_nil, x4, y4]
        simp [Builtin.copy_, run_underlying hu, sizeOf, typeInfo, hi, Builtin.lenOf, Builtin.firstCells, hm, hload', hst]
       rw [hr]
       refine hK h e _ _ ?_
       obtain ⟨q0, _⟩ := cp_cut (xs := xs) (es := es) (a := a0) (b := b0) (n := n1) (m := m) (i := n1 - 1) hxl hma hmb (by omega)
       have D1 := D.setOwn (w' := w.setRow b (cur.toList.take (a0 * es) ++ cs ++ cur.toList.drop (a0 * es + cs.length)).toArray) (o' := .acc te es n1 (cpF a0 b0 n1 f)) ho rfl ?_ ?_ rfl rfl rfl (by simp)
       ·exact D1.put (i := t) (d := .int .i64 ((m : Nat) : Int)) (v := goInt m) ht (by simp [rep, goInt])
       ·refine ⟨xs.take (a0 * es) ++ cs ++ xs.drop (a0 * es + m * es), ⟨by rw [← hcs']; exact q0, .inr ⟨b, c, _, x1, Nat.zero_le _, setRow_heap w b cur _ te _ hg, hnc, hcm, ?_, ?_⟩⟩, o2, fun j hj => ?_⟩
        ·simp only [List.size_toArray, List.length_append, List.length_take, List.length_drop, Array.length_toList, hcl, hcs]
         omega
        ·rw [hcl, ← htake]
         have hA : (cur.toList.take (a0 * es) ++ cs).length = a0 * es + m * es := by
          rw [List.length_append, List.length_take, hcl, Array.length_toList]
          omega
         show List.take (n1 * es) (cur.toList.take (a0 * es) ++ cs ++ cur.toList.drop (a0 * es + m * es)) = _
         rw [List.take_append, List.take_of_length_le (by omega), hA, List.take_take, Nat.min_eq_left (by omega), List.drop_take]
        ·obtain ⟨_, q2⟩ := cp_cut (xs := xs) (es := es) (a := a0) (b := b0) (n := n1) (m := m) (i := j) hxl hma hmb hj
         rw [hcs'] at q2
         unfold cpF
         rw [hm]
         by_cases hc : a0 ≤ j ∧ j < a0 + m
         ·rw [if_pos hc] at q2 ⊢
          obtain ⟨w1, w2, w3, w4⟩ := o3 (j - a0 + b0) (by omega)
          exact ⟨w1, w2, by rw [q2]; exact w3, w4⟩
         ·rw [if_neg hc] at q2 ⊢
          obtain ⟨w1, w2, w3, w4⟩ := o3 j hj
          exact ⟨w1, w2, by rw [q2]; exact w3, w4⟩
       ·intro b' hbk
        exact setRow_other w _ b' _ (fun hc => hbk (by rw [hblk, hc]))
   ·cases hq
  ·cases hq
 ·cases hq
variable {Q : Exit → Act → World → Prop} {l : List Oper} {s0 : St} {rs : List Rec} {id : Nat} {rest : List Oper}
def recSl (s : St) (t : Nat) (x y : Operand) (d : SD) (u : List (Nat × Option OB)) : Rec :=
 ⟨readS s (tmpsOf [x, y]), keysA s [x, y] s.ow, some t, d, u, []⟩
def slS (s : St) (t : Nat) (d : SD) : Option St := bif Nat.blt t s.n then some (s.put t d) else none
def cpS (s : St) (t : Nat) (d : SD) (k : Nat) (ob : OB) : Option St := bif Nat.blt t s.n then some ⟨s.n, s.nx, upd s.sl t d, upd s.ow k ob⟩ else none
theorem slA_agree {σ : St} {T : Nat} {x y : SD} {r : List Prop × SD} (hm : OwM s σ x) (hq : slA P s T x y = some r) : slA P σ T x y = some r := by
 unfold slA at hq ⊢
 split at hq
 ·rename_i k kk l
  cases ho : lkO s.ow k with
  | none => rw [ho] at hq; cases hq
  | some o => rw [hm k o (by simp [men]) ho]; rw [ho] at hq; exact hq
 ·cases hq
theorem cpA_agree {σ : St} {T : Nat} {x y : SD} {r : SD × Nat × OB} (hm : OwM s σ x) (hq : cpA P s T x y = some r) : cpA P σ T x y = some r := by
 unfold cpA at hq ⊢
 split at hq
 ·rename_i k es a k' es2 b
  cases ho : lkO s.ow k with
  | none => rw [ho] at hq; cases hq
  | some o => rw [hm k o (by simp [men]) ho]; rw [ho] at hq; exact hq
 ·cases hq
theorem runDsl {t T : Nat} {x y : Operand} {ty : Nat} {pos : String} {af : Array Edge} {p : List Prop} {d : SD} {s' : St} (hq : slA P s T (ev s x) (ev s y) = some (p, d)) (hp : allP p) (hs : slS s t d = some s')
  (hn : RunD P F w0 Q id l s0 (rs ++ [recSl s t x y d []]) rest s') : RunD P F w0 Q id l s0 rs (⟨some t, .slice T x (some y) none none, ty, pos, af, none⟩ :: rest) s := fun K => by
 unfold slS at hs
 cases hb : Nat.blt t s.n
 ·rw [hb] at hs; cases hs
 rw [hb] at hs
 simp only [cond_true, Option.some.injEq] at hs
 subst hs
 have g1 : ∀ p ∈ (recSl s t x y d []).slots, lkp s.sl p.1 = p.2 := readS_ok
 have g2 : ∀ p ∈ (recSl s t x y d []).keys, lkO s.ow p.1 = some p.2 := keysA_ok
 refine hn (K.snoc g1 g2 (fun σ hn h1 h2 h3 h e a w D K Q hK => ?_) ⟨rfl, fun _ => rfl, fun _ => rfl⟩)
 rw [if_pos (by simp [Region.wanted])]
 have hev := ev_agree (s := s) (s' := σ) (l := [x, y]) h1
 have e1 := hev x (by simp)
 have e2 := hev y (by simp)
 have hm : OwM s σ (ev s x) := fun k o hm ho => h2 (k, o) (keysA_mem (by simp [menA, hm]) ho)
 refine wp_slA D (by rw [hn]; exact blt_lt hb) (by rw [e1, e2]; exact slA_agree hm hq) hp K Q fun h' e' a' w' D' => hK h' e' a' w' D'
theorem runDcp {t T : Nat} {x y : Operand} {ty : Nat} {pos : String} {af : Array Edge} {d : SD} {k : Nat} {ob : OB} {s' : St} (hq : cpA P s T (ev s x) (ev s y) = some (d, k, ob)) (hs : cpS s t d k ob = some s')
  (hn : RunD P F w0 Q id l s0 (rs ++ [recSl s t x y d [(k, some ob)]]) rest s') : RunD P F w0 Q id l s0 rs (⟨some t, .call ⟨.builtin .copy, #[x, y], #[T, T]⟩, ty, pos, af, none⟩ :: rest) s := fun K => by
 unfold cpS at hs
 cases hb : Nat.blt t s.n
 ·rw [hb] at hs; cases hs
 rw [hb] at hs
 simp only [cond_true, Option.some.injEq] at hs
 subst hs
 have g1 : ∀ p ∈ (recSl s t x y d [(k, some ob)]).slots, lkp s.sl p.1 = p.2 := readS_ok
 have g2 : ∀ p ∈ (recSl s t x y d [(k, some ob)]).keys, lkO s.ow p.1 = some p.2 := keysA_ok
 refine hn (K.snoc g1 g2 (fun σ hn h1 h2 h3 h e a w D K Q hK => ?_) ⟨rfl, fun _ => rfl, fun _ => rfl⟩)
 rw [if_pos (by simp [Region.wanted])]
 have hev := ev_agree (s := s) (s' := σ) (l := [x, y]) h1
 have e1 := hev x (by simp)
 have e2 := hev y (by simp)
 have hm : OwM s σ (ev s x) := fun k o hm ho => h2 (k, o) (keysA_mem (by simp [menA, hm]) ho)
 refine wp_cpA D (by rw [hn]; exact blt_lt hb) (by rw [e1, e2]; exact cpA_agree hm hq) K Q fun h' e' a' w' D' => hK h' e' a' w' D'
end
section
variable {P : Program} {F : List Nat} {w0 : Base} {s : St} {k : List It}
theorem repC_set {h : Hp} {e : Nm} {d0 d : SD} : ∀ {l : List SD} {vs : List Value} {i : Nat}, repC h l e vs → l[i]? = some d0 → (∀ v, rep h d0 e v → rep h d e v) → repC h (l.set i d) e vs
 | [], _, _, _, hi, _ => by simp at hi
 | x :: r, vs, i, hx, hi, hd => by
  simp only [repC] at hx
  obtain ⟨v, vs', rfl, h1, h2, h3⟩ := hx
  cases i with
  | zero =>
   simp only [List.getElem?_cons_zero, Option.some.injEq] at hi
   subst hi
   simp only [List.set, repC]
   exact ⟨v, vs', rfl, h1, hd v h2, h3⟩
  | succ i =>
   simp only [List.set, repC]
   exact ⟨v, vs', rfl, h1, h2, repC_set h3 (by simpa using hi) hd⟩
theorem run_nilaccV (j i T es : Nat) (f : Nat → SD) {fin : Exit → Act → World → Prop} {l l' : List SD} (ho : lkO s.ow j = some (.var l)) (hi : l[i]? = some .nils) (hl' : l.set i (.acc s.nx) = l') (hf : s.free s.nx = true)
  (hn : Run P F w0 fin k ⟨s.n, s.nx + 1, s.sl, upd (upd s.ow j (.var l')) s.nx (.acc T es 0 f)⟩) : Run P F w0 fin k s := fun h e a w D => by
 subst hl'
 have hF := Free.of hf
 have D1 := D.rename (e.but_setH s.nx (.slice none 0 0)) hF
 have D0 := D1.setOwn (o' := .var (l.set i (.acc s.nx))) (w' := w) ho rfl ?_ (fun _ _ => rfl) rfl rfl rfl rfl
 ·have hne : s.nx ≠ j := fun hc => by rw [← hc, free_lkO hF] at ho; cases ho
  have hnone : lkO (upd s.ow j (.var (l.set i (.acc s.nx)))) s.nx = none := by rw [lkO_upd]; simp only [hne, if_false]; exact free_lkO hF
  have D2 := D0.addOwn (k := s.nx) (o := .acc T es 0 f) hnone ⟨[], by simp only [Nm.setH, if_true]; exact ⟨by simp, .inl ⟨rfl, rfl⟩⟩, Nat.zero_le _, fun i hi => absurd hi (Nat.not_lt_zero i)⟩ (fun b hb => ?_) (fun j o' b hj hb hc => ?_) (s.nx + 1)
  ·exact hn h _ a w (D2.congr rfl (fun _ => rfl) fun _ => rfl)
  ·simp only [OB.blk, Nm.setH, if_true, Value.ownBlock] at hb; cases hb
  ·simp only [OB.blk, Nm.setH, if_true, Value.ownBlock] at hc; cases hc
 ·obtain ⟨cs, T', g1, g2⟩ := D1.own j _ ho
  refine ⟨cs, T', g1, repC_set g2 hi fun v hv => ?_⟩
  simp only [rep] at hv ⊢
  subst hv
  simp only [Nm.setH, if_true]
  exact ⟨trivial, _, _, _, rfl⟩
end
theorem getD_ins {α : Type} [Inhabited α] (t : List α) (a : α) {i : Nat} (hi : i ≤ t.length) (j : Nat) :
  (t.take i ++ a :: t.drop i).getD j default = if j < i then t.getD j default else if j = i then a else t.getD (j - 1) default := by
 have hl : (t.take i).length = i := by rw [List.length_take]; omega
 simp only [List.getD_eq_getElem?_getD]
 by_cases h1 : j < i
 ·rw [if_pos h1, List.getElem?_append_left (by omega), List.getElem?_take, if_pos h1]
 ·rw [if_neg h1, List.getElem?_append_right (by omega), hl]
  by_cases h2 : j = i
  ·subst h2; simp
  ·rw [if_neg h2, show j - i = (j - i - 1) + 1 by omega, List.getElem?_cons_succ, List.getElem?_drop]
   congr 2
   omega
theorem OLe.ins {α : Type} [Inhabited α] (enc : α → SD) (t : List α) (a : α) {T es i : Nat} (hi : i ≤ t.length) {d z : SD} (h : SLe d (enc a)) :
  OLe (.acc T es (t.length + 1) (setF i d (cpF (i + 1) i (t.length + 1) (joinF t.length (fun j => enc (t.getD j default)) (nthSD [z]))))) (.acc T es (t.take i ++ a :: t.drop i).length fun j => enc ((t.take i ++ a :: t.drop i).getD j default)) := by
 refine ⟨rfl, rfl, by simp; omega, fun j hj hp u hu e => ?_⟩
 have hu' := hu e
 show rep hp (enc ((t.take i ++ a :: t.drop i).getD j default)) e u
 rw [getD_ins t a hi]
 simp only [setF, cpF, joinF] at hu'
 by_cases h1 : j < i
 ·rw [if_neg (by omega), if_neg (by omega), if_pos (by omega)] at hu'
  rwa [if_pos h1]
 ·rw [if_neg h1]
  by_cases h2 : j = i
  ·rw [if_pos h2] at hu' ⊢
   exact h _ _ _ hu'
  ·have hm : Nat.min (t.length + 1 - i) (t.length + 1 - (i + 1)) = t.length - i := by
    show min (t.length + 1 - i) (t.length + 1 - (i + 1)) = t.length - i
    omega
   rw [if_neg h2, hm, if_pos (by omega), if_pos (by omega)] at hu'
   rw [if_neg h2]
   rwa [show j - (i + 1) + i = j - 1 by omega] at hu'
end Go.Sx
namespace Go.Sx
open Go.RowKit
section
variable {P : Program} {F : List Nat} {w0 : Base} {s : St} {h : Hp} {e : Nm} {a : Act} {w : World}
variable {Q : Exit → Act → World → Prop} {l : List Oper} {s0 : St} {rs : List Rec} {id : Nat} {rest : List Oper}
def bsS (s : St) (t : Nat) (ob : OB) : Option St := some ⟨s.n, s.nx + 1, upd s.sl t (.acc s.nx), appO [(s.nx, some ob)] s.ow⟩
end
theorem zR {P : Program} {F : List Nat} {w0 : Base} {s : St} {kk : List It} (k : Nat) {o o' : OB} {fin : Exit → Act → World → Prop} (ho : lkO s.ow k = some o) (hl : OLe o o') (hn : Run P F w0 fin kk ⟨s.n, s.nx, s.sl, upd s.ow k o'⟩) : Run P F w0 fin kk s := fun h e a w D =>
 hn h e a w (by
  have h2 : ∀ j x, lkO (upd s.ow k o') j = some x → ∃ o0, lkO s.ow j = some o0 ∧ OLe o0 x := fun j x hj => by
   simp only [lkO_upd] at hj
   by_cases hjk : j = k
   ·subst hjk; simp only [if_true, Option.some.injEq] at hj; subst hj; exact ⟨o, ho, hl⟩
   ·simp only [hjk, if_false] at hj; exact ⟨x, hj, OLe.refl _⟩
  refine ⟨D.defers, D.size, D.slot, fun j o hj => ?_, fun j o b hj hb => ?_, fun j j' o o' b hne hj hj' hb => ?_, D.sub, D.keeps, D.le, D.neww, D.fix⟩
  ·obtain ⟨o0, g1, g2⟩ := h2 j o hj
   exact g2.ok (D.own j o0 g1)
  ·obtain ⟨o0, g1, g2⟩ := h2 j o hj
   rw [g2.blk] at hb
   exact D.ownb j o0 b g1 hb
  ·obtain ⟨o0, g1, g2⟩ := h2 j o hj
   obtain ⟨o1, g3, g4⟩ := h2 j' _ hj'
   rw [g2.blk] at hb
   rw [g4.blk]
   exact D.apart j j' o0 o1 b hne g1 g3 hb)
end Go.Sx
namespace Go.Sx
open Go.RowKit
def asA (P : Program) (s : St) (T : Nat) (p x : SD) : Option (Nat × OB) :=
 match p with
 | .aptr k es i off => match lkO s.ow k with
  | some (.acc te es' n f) => match cellsD x with
   | some c => bif Nat.beq es es' && Nat.beq c.length (szT P T) && Nat.ble 1 c.length && pureD x then
     match elD es off c x (f i) with
     | some d => some (k, .acc te es' n (setF i d f))
     | none => none
    else none
   | none => none
  | _ => none
 | _ => none
section
variable {P : Program} {F : List Nat} {w0 : Base} {s : St}
theorem asA_asD {T : Nat} {p x : SD} {k : Nat} {o : OB} (h : asA P s T p x = some (k, o)) : asD P s T p x = some { s with ow := upd s.ow k o } := by
 unfold asA at h
 unfold asD
 split at h
 ·rename_i k' es i off
  simp only
  split at h
  ·rename_i te es' n f ho
   rw [ho]
   simp only
   split at h
   ·rename_i c hc
    rw [hc]
    simp only
    revert h
    cases (Nat.beq es es' && Nat.beq c.length (szT P T) && Nat.ble 1 c.length && pureD x)
    ·intro h; cases h
    ·simp only [cond_true]
     cases elD es off c x (f i) with
     | none => intro h; cases h
     | some d =>
      intro h
      simp only [Option.some.injEq, Prod.mk.injEq] at h
      obtain ⟨rfl, rfl⟩ := h
      rfl
   ·cases h
  ·cases h
 ·cases h
theorem asA_agree {σ : St} {T : Nat} {p x : SD} {r : Nat × OB} (hm : OwM s σ p) (hq : asA P s T p x = some r) : asA P σ T p x = some r := by
 unfold asA at hq ⊢
 split at hq
 ·rename_i k es i off
  cases ho : lkO s.ow k with
  | none => rw [ho] at hq; cases hq
  | some o => rw [hm k o (by simp [men]) ho]; rw [ho] at hq; exact hq
 ·cases hq
variable {Q : Exit → Act → World → Prop} {l : List Oper} {s0 : St} {rs : List Rec} {id : Nat} {rest : List Oper}
def recAs (s : St) (x y : Operand) (k : Nat) (o : OB) : Rec := ⟨readS s (tmpsOf [x, y]), keysA s [x] s.ow, none, .any, [(k, some o)], []⟩
def asS (s : St) (k : Nat) (o : OB) : Option St := some { s with ow := upd s.ow k o }
theorem runDas {T : Nat} {x y : Operand} {ty : Nat} {pos : String} {af : Array Edge} {k : Nat} {o : OB} {s' : St} (hq : asA P s T (ev s x) (ev s y) = some (k, o)) (hs : asS s k o = some s')
  (hn : RunD P F w0 Q id l s0 (rs ++ [recAs s x y k o]) rest s') : RunD P F w0 Q id l s0 rs (⟨none, .store T x y, ty, pos, af, none⟩ :: rest) s := fun K => by
 simp only [asS, Option.some.injEq] at hs
 subst hs
 have g1 : ∀ p ∈ (recAs s x y k o).slots, lkp s.sl p.1 = p.2 := readS_ok
 have g2 : ∀ p ∈ (recAs s x y k o).keys, lkO s.ow p.1 = some p.2 := keysA_ok
 refine hn (K.snoc g1 g2 (fun σ hn h1 h2 h3 h e a w D K Q hK => ?_) ⟨rfl, fun _ => rfl, fun _ => rfl⟩)
 rw [if_pos (by simp [Region.wanted])]
 have hev := ev_agree (s := s) (s' := σ) (l := [x, y]) h1
 have e1 := hev x (by simp)
 have e2 := hev y (by simp)
 have hm : OwM s σ (ev s x) := fun k o hm ho => h2 (k, o) (keysA_mem (by simp [menA, hm]) ho)
 refine wp_astore D (by rw [e1, e2]; exact asA_asD (asA_agree hm hq)) K Q fun h' e' a' w' D' => hK h' e' a' w' D'
end
end Go.Sx
namespace Go.Sx
open Go.RowKit
def byF (l : List UInt8) : Nat → SD := fun i => .int .u8 ((l.getD i 0).toNat : Int)
section
variable {P : Program} {F : List Nat} {w0 : Base} {s : St} {ops : Array Oper} {Q : Exit → Act → World → Prop} {rest : List Oper}
theorem stepcvB {t S T te : Nat} {x : Operand} {b : ByteArray} {ty : Nat} {pos : String} {af : Array Edge} {s' : St} (hx : unG s x = .str b) (hg : allP (gCs s [x] [])) (hS : Nat.beq (kdT P S) 2 = true) (hT : P.underlying T = some (.slice te)) (he : P.underlying te = some (.int .u8))
  (hsz : b.size ≤ maxN) (hs : cstep s t (.list 1 b.size (byF b.data.toList)) = some s') (hn : RunL P F w0 ops Q rest s') : RunL P F w0 ops Q (⟨some t, .convert S T x, ty, pos, af, none⟩ :: rest) s := fun h e a w D => by
 obtain ⟨ht, rfl⟩ := cstep_ok hs
 have hv : rep h (unG s x) e (a.eval x) := D.unG hg (List.mem_singleton_self x)
 rw [hx] at hv
 simp only [rep] at hv
 have hu := und2 hS
 refine wpS_plain rfl fun K hK => ?_
 unfold Oper.wp
 have hrun := run_bytes_of_string (P := P) w S T te b hu hT he
 have hex : (execOp a.eval ⟨some t, .convert S T x, ty, pos, af, none⟩).run P w = .ok (.value (.slice (some ⟨w.heap.size, 0, none⟩) b.size (grownCap w b.size 0 te))) (w.drew.alloc (.cells (bytesRow b (grownCap w b.size 0 te)) te ((bytesRow b (grownCap w b.size 0 te)).size, (bytesRow b (grownCap w b.size 0 te)).size + 1))) := by
  simp only [execOp, hv, Sem.run_bind, hrun, Result.andThen_ok]
  rfl
 rw [hex]
 have D1 := D.drew
 obtain ⟨D2, hl⟩ := D1.stay (.cells (bytesRow b (grownCap w b.size 0 te)) te ((bytesRow b (grownCap w b.size 0 te)).size, (bytesRow b (grownCap w b.size 0 te)).size + 1))
 refine hK _ _ (hn _ _ _ _ (D2.put ht ?_))
 have hcap : b.size ≤ grownCap w b.size 0 te := grownCap_ge w _ _ _
 have hcapM : grownCap w b.size 0 te ≤ maxLen := grownCap_le_maxLen w _ _ _ (Nat.le_trans hsz (by simp [maxN, maxLen]))
 simp only [rep]
 refine ⟨_, _, rfl, hcap, ⟨hcapM, maxNL hsz⟩, fun _ => ⟨⟨w.heap.size, 0, none⟩, bytesRow b (grownCap w b.size 0 te), te, ((bytesRow b (grownCap w b.size 0 te)).size, (bytesRow b (grownCap w b.size 0 te)).size + 1), rfl, rfl, (by show (if w.drew.heap.size = w.drew.heap.size then _ else _) = _; rw [if_pos rfl]), fun j hj => ?_⟩⟩
 have hjl : j < b.data.toList.length := by simpa using hj
 refine ⟨.int .u8 ((b.data.toList.getD j 0).toNat : Int), fun e' => by simp only [byF, rep], ?_, rfl, fun c hc => by simp [Value.cells] at hc; subst hc; rfl⟩
 simp only [Nat.zero_add, Nat.mul_one, cut, bytesRow, Array.toList_append, Array.toList_map]
 rw [List.drop_append_of_le_length (by simp; omega), List.take_append_of_le_length (by simp; omega)]
 rw [← List.map_drop, ← List.map_take, List.drop_eq_getElem_cons hjl]
 have hja : j < b.data.size := by simpa using hjl
 simp [Value.cells, List.getD_eq_getElem?_getD, Array.getElem?_eq_getElem hja]
theorem add_plain {b o : Nat} (j : Nat) : (⟨b, o, none⟩ : Addr).add j = ⟨b, o + j, none⟩ := by unfold Addr.add; split <;> simp_all
theorem conv_back {w : World} {S T te : Nat} {ao : Option Addr} {cap : Nat} {l : List UInt8} (hS : P.underlying S = some (.slice te)) (he : P.underlying te = some (.int .u8)) (hT : P.underlying T = some .string)
  (hc : 0 < l.length → ∃ b o, ao = some ⟨b, o, none⟩ ∧ ∀ j, j < l.length → w.cell? ⟨b, o + j, none⟩ = some (.int .u8 ((l.getD j 0).toNat : Int))) : (convert S T (.slice ao l.length cap)).run P w = .ok (.string ⟨l.toArray⟩) w := by
 cases l with
 | nil =>
  cases ao with
  | none => exact run_convert_bytes_nil w S te hS he 0 cap T hT
  | some a => exact run_convert_bytes_back w S T te a cap [] hS he hT (fun j hj => absurd hj (by simp))
 | cons x r =>
  obtain ⟨b, o, rfl, h1⟩ := hc (by simp)
  refine run_convert_bytes_back w S T te _ cap (x :: r) hS he hT (fun j hj => ?_)
  rw [add_plain, h1 j hj]
  simp [List.getD_eq_getElem?_getD, List.getElem?_eq_getElem hj]
end
end Go.Sx
namespace Go.Sx
open Go.RowKit
section
variable {P : Program} {F : List Nat} {w0 : Base} {fin : Exit → Act → World → Prop} {k : List It} {s : St}
def rdsI (P : Program) (rd : Option Nat) (fin : Exit → Act → World → Prop) (k : List It) (body : Code) (m : Nat) : Act → World → Prop := body.roundsIn (fe rd) 0 P (post P rd fin k) m
theorem run_rounds (m : Nat) {body : Code} (h : Run P F w0 fin (.code body :: .lp (rdsI P w0.rd fin k body m) :: k) s) : Run P F w0 fin (.code (.loop body) :: k) s := fun h' e a w D =>
 wpIn_loop_rounds (m + 1) (wpIn_mono (h h' e a w D) fun e a w hq => by cases e <;> exact hq)
theorem run_round {m : Nat} {body : Code} {fin' : Exit → Act → World → Prop} {k' : List It} (h : Run P F w0 fin (.code body :: .lp (rdsI P w0.rd fin k body m) :: k) s) : Run P F w0 fin' (.lp (rdsI P w0.rd fin k body (m + 1)) :: k') s := fun h' e a w D =>
 wpIn_mono (h h' e a w D) fun e a w hq => by cases e <;> exact hq
variable {Q : Exit → Act → World → Prop} {ops : Array Oper} {rest : List Oper}
theorem stepnif {t T : Nat} {x : Operand} {U ty : Nat} {pos : String} {af : Array Edge} {s' : St} (hx : ev s x = .nilif) (hk : Nat.beq (kdT P T) 8 = true) (hs : cstep s t (.bool false) = some s')
  (hn : RunL P F w0 ops Q rest s') : RunL P F w0 ops Q (⟨some t, .binOp .neq T x (.const .nilIface) U, ty, pos, af, none⟩ :: rest) s := fun h e a w D => by
 obtain ⟨ht, rfl⟩ := cstep_ok hs
 have hv := D.ev x
 rw [hx] at hv
 simp only [rep] at hv
 have hu : ∃ m, P.underlying T = some (.interface m) := by
  have := Nat.eq_of_beq_eq_true hk
  unfold kdT at this
  split at this <;> first | exact ⟨_, by assumption⟩ | (simp at this)
 obtain ⟨m, hu⟩ := hu
 refine wpS_plain rfl fun K hK => ?_
 unfold Oper.wp
 have hex : (execOp a.eval ⟨some t, .binOp .neq T x (.const .nilIface) U, ty, pos, af, none⟩).run P w = .ok (.value (.bool false)) w := by
  have hc : a.eval (.const .nilIface) = .nilIface := rfl
  have h1 : (Op.equalIn (9999 + 1) T .nilIface .nilIface).run P w = .ok true w := by
   unfold Op.equalIn
   rw [Sem.run_bind, run_underlying hu, Result.andThen_ok]
   rfl
  have h2 : (Op.equal T .nilIface .nilIface).run P w = .ok true w := h1
  have h3 : (binOp .neq T .nilIface .nilIface).run P w = .ok (.bool false) w := by
   show (do pure (.bool (!(← Op.equal T .nilIface .nilIface))) : Sem Value).run P w = _
   simp only [Sem.run_bind, h2, Result.andThen_ok, Sem.run_pure, Bool.not_true]
  simp only [execOp, hv, hc, eqGuard_nil_constR, Sem.run_bind, Sem.run_pure, Result.andThen_ok, h3]
 rw [hex]
 exact hK _ _ (hn _ _ _ _ (D.put ht (by simp only [rep])))
end
end Go.Sx
namespace Go.Sx
open Go.RowKit
section
variable {P : Program} {F : List Nat} {w0 : Base} {s : St} {ops : Array Oper} {Q : Exit → Act → World → Prop} {rest : List Oper}
end
end Go.Sx
namespace Go.Sx
open Go.RowKit
section
variable {P : Program} {F : List Nat} {w0 : Base} {s : St}
variable {Q : Exit → Act → World → Prop} {l : List Oper} {s0 : St} {rs : List Rec} {id : Nat} {rest : List Oper}
end
end Go.Sx
namespace Go.Sx
open Go.RowKit
section
variable {P : Program} {F : List Nat} {w0 : Base} {s : St} {ops : Array Oper} {Q : Exit → Act → World → Prop} {rest : List Oper}
theorem run_roundsB {fin : Exit → Act → World → Prop} {k : List It} (id m : Nat) {body : Code} (h : Run P F w0 fin (.code body :: .lp (rdsI P w0.rd fin (.blk id :: k) body m) :: .blk id :: k) s) : Run P F w0 fin (.code (.loop body) :: .blk id :: k) s := run_rounds m h
end
end Go.Sx
