/- Part of the proof that the laws of the judge return true for every input: SxZ, SxMp, SxMq, SxMr, SxSt, SxAp, SxRe, SxRj, SxCp, SxBs, SxAs, SxKa, SxKb, SxKc, SxKd, SxKe, SxKf, SxBr, SxKg, SxRf. -/
import Derived.Test.YtmbocmonhcplhaaGreatS2
import Derived.Maps.RangeRun
import Derived.Laws.RangeString
import Derived.LoopN
import Derived.Laws.IdiomStrings
import Derived.Laws.BytesArg
import Derived.LoopNIn
import Derived.Lib.AppendStr
import Derived.RangeFuncLeaves
import Derived.RangeFuncNested
set_option linter.all false
namespace Go.Sx
open Go.RowKit
def yFt (m : Nat) : Nat → List Nat
 | 0 => []
 | n + 1 => (m + n) :: yFt m n
def yC7 : List (Nat × OB) → List (Nat × Option OB)
 | [] => []
 | (k, o) :: r => (k, some o) :: yC7 r
def zKm (os' : List (Nat × OB)) : Nat → List Nat → List (Nat × Option OB)
 | _, [] => []
 | i, k :: r => match lkO os' i with
  | some _ => zKm os' (i + 1) r
  | none => (k, none) :: zKm os' (i + 1) r
def zMx (s : St) : List Nat → List (Nat × OB)
 | [] => []
 | k :: r => match lkO s.ow k with
  | some o => (k, o) :: zMx s r
  | none => zMx s r
def zS1 (s : St) (t : Nat) (args : List Operand) (ks : List Nat) (d : SD) (os' : List (Nat × OB)) : Rec :=
 ⟨zBf s (tmpsOf args), zMx s ks, some t, ren (sgm ks s.nx) d, yC7 (zF2 (sgm ks s.nx) os') ++ zKm os' 1000 ks, yFt s.nx (zFr os')⟩
def isNil : List Nat → Bool
 | [] => true
 | _ => false
def zSe (s : St) (t : Nat) (ks : List Nat) (os : List OB) (d : SD) (os' : List (Nat × OB)) : Option St :=
 bif Nat.blt t s.n && nodupB ks && Nat.ble (s.nx + zFr os') 700 && allB (fun k => !zCk s.nx (zFr os') k) ks && isNil (zBt s os' 1000 ks) &&
  zDn (okb ks (zFr os')) (okh ks (zFr os') []) d && zVn ks (zFr os') [] os' && zLa os' 1000 os then
  some ⟨s.n, s.nx + zFr os', upd s.sl t (ren (sgm ks s.nx) d), zNg (yC7 (zF2 (sgm ks s.nx) os') ++ zKm os' 1000 ks) s.ow⟩
 else none
theorem zLv : ∀ (a b : List (Nat × Option OB)) (k : Nat), lkU (a ++ b) k = match lkU a k with
  | some o => some o
  | none => lkU b k
 | [], b, k => rfl
 | (j, o) :: r, b, k => by
  simp only [List.cons_append, lkU];cases Nat.beq j k
  ·exact zLv r b k
  ·rfl
theorem zVz : ∀ (l : List (Nat × OB)) (k : Nat), lkU (yC7 l) k = (lkO l k).map some
 | [], _ => rfl
 | (j, o) :: r, k => by
  simp only [yC7, lkU, lkO];cases Nat.beq j k
  ·exact zVz r k
  ·rfl
theorem zRo {os' : List (Nat × OB)} : ∀ (ks : List Nat) (n i : Nat), i < ks.length → lkO os' (n + i) = none → ks.Nodup → lkU (zKm os' n ks) (zC3 ks i) = some none
 | [], _, _, h, _, _ => absurd h (Nat.not_lt_zero _)
 | k :: r, n, 0, _, h, _ => by
  rw [Nat.add_zero] at h;simp only [zKm, h, zC3, lkU, Nat.beq_refl, cond_true]
 | k :: r, n, i + 1, hi, h, hn => by
  have hi' : i < r.length := by simpa using hi
  have ih := zRo r (n + 1) i hi' (by rw [show n + 1 + i = n + (i + 1) by omega]; exact h) (List.nodup_cons.1 hn).2;simp only [zKm, zC3];split
  ·exact ih
  ·have : Nat.beq k (zC3 r i) = false := zGu fun hc => (List.nodup_cons.1 hn).1 (hc ▸ zEg hi')
   simp only [lkU, this, cond_false, ih]
theorem zFc {os' : List (Nat × OB)} : ∀ (ks : List Nat) (n k : Nat) (x : Option OB), lkU (zKm os' n ks) k = some x → x = none
 | [], _, _, _, h => by cases h
 | j :: r, n, k, x, h => by
  simp only [zKm] at h;split at h
  ·exact zFc r _ k x h
  ·simp only [lkU] at h
   cases hb : Nat.beq j k
   ·rw [hb] at h; exact zFc r _ k x h
   ·rw [hb] at h; simp only [cond_true, zz1] at h; exact h.symm
theorem zRi {m : Nat} : ∀ {B k : Nat}, zCk m B k = true → k ∈ yFt m B
 | 0, k, h => by
  simp only [zCk, zz3] at h;have h1 := Nat.le_of_ble_eq_true h.1;have h2 := zAm h.2;omega
 | B + 1, k, h => by
  simp only [zCk, zz3] at h;have h1 := Nat.le_of_ble_eq_true h.1;have h2 := zAm h.2;by_cases hk : k = m + B
  ·subst hk; exact List.mem_cons_self
  ·refine List.mem_cons_of_mem _ (zRi ?_)
   simp only [zCk, zz3];exact ⟨h.1, Nat.ble_eq_true_of_le (by omega)⟩
theorem zKn {s : St} : ∀ {l : List Nat} {k : Nat} {o : OB}, k ∈ l → lkO s.ow k = some o → (k, o) ∈ zMx s l
 | [], _, _, h, _ => by cases h
 | j :: r, k, o, h, ho => by
  rcases List.mem_cons.1 h with rfl | h
  ·simp only [zMx, ho]; exact List.mem_cons_self
  ·simp only [zMx]
   split
   ·exact List.mem_cons_of_mem _ (zKn h ho)
   ·exact zKn h ho
theorem zMw {s : St} : ∀ {l : List Nat}, ∀ p ∈ zMx s l, lkO s.ow p.1 = some p.2
 | [], _, h => by cases h
 | j :: r, p, h => by
  simp only [zMx] at h;split at h
  ·rename_i o ho
   rcases List.mem_cons.1 h with rfl | h
   ·exact ho
   ·exact zMw p h
  ·exact zMw p h
section
variable {P : Program} {F : List Nat} {w0 : Base} {s : St} {Q : Exit → Act → World → Prop} {l : List Oper} {s0 : St} {rs : List Rec} {id : Nat}
theorem zUl {f t : Nat} {args : Array Operand} {tys : Array Nat} {ty : Nat} {pos : String} {af : Array Edge} {R : List SD → List OB → SD → List (Nat × OB) → Prop} {ks : List Nat} {ds : List SD} {os : List OB} {d : SD} {os' : List (Nat × OB)} {s' : St} {ops : Array Oper} (hf : FnM P f R)
  (ha : zI7 (tau ks) (args.toList.map (unG s)) = ds) (hal : zC6 (fun x => zCq x ks) (fun x => zCq x ks) (args.toList.map (unG s)) = true) (ho : zPd s ks ks = some os) (hg : zAn (gCs s args.toList [])) (hR : R ds os d os')
  (hs : zSe s t ks os d os' = some s') : zHi P F w0 ops s.n ⟨some t, .call ⟨.value (.func f), args, tys⟩, ty, pos, af, none⟩ (zS1 s t args.toList ks d os') ∧ Leq s' ((zS1 s t args.toList ks d os').app s) := by
 unfold zSe at hs
 generalize hB : zFr os' = B at hs
 generalize hcb : (Nat.blt t s.n && nodupB ks && Nat.ble (s.nx + B) 700 && allB (fun k => !zCk s.nx B k) ks && isNil (zBt s os' 1000 ks) &&
  zDn (okb ks B) (okh ks B []) d && zVn ks B [] os' && zLa os' 1000 os) = cb at hs
 cases cb
 ·cases hs
 simp only [cond_true, zz1] at hs
 simp only [zz3] at hcb
 obtain ⟨⟨⟨⟨⟨⟨⟨c1, c2⟩, c3⟩, c4⟩, c5⟩, c6⟩, c7⟩, c8⟩ := hcb
 subst hs
 refine ⟨fun σ hn h1 h2 h3 h e a w D K Q hK => ?_, ⟨rfl, fun _ => rfl, fun _ => rfl⟩⟩
 rw [if_pos (by simp [Region.wanted])]
 have hev := zBb (s := s) (s' := σ) (l := args.toList) h1
 have ha' : args.toList.map (unG σ) = args.toList.map (unG s) := List.map_congr_left fun x hx => by simp only [unG, hev x hx]
 have hg' : zAn (gCs σ args.toList []) := by rw [zAs hev]; exact hg
 obtain ⟨o1, o2⟩ := zFb ho
 have hi : ∀ {i : Nat} {o : OB}, os[i]? = some o → i < ks.length := fun {i o} ho => by have := (List.getElem?_eq_some_iff.1 ho).1; rw [o1] at this; exact this
 have o2' : ∀ (i : Nat) (o : OB), os[i]? = some o → ∃ o0, lkO σ.ow (zC3 ks i) = some o0 ∧ o = zJo (tau ks) o0 ∧ zGa (fun x => zCq x ks) (fun x => zCq x ks) o0 = true := fun i o hio => by
  obtain ⟨o0, k1, k2, k3⟩ := o2 i o hio;exact ⟨o0, h2 (zC3 ks i, o0) (zKn (zEg (hi hio)) k1), k2, k3⟩
 have hnd := zE0 c2
 unfold Oper.wp
 rw [zI3 hf.call]
 refine (D.pass ⟨hnd, by rw [ha']; exact hal, by rw [ha']; exact ha.symm, o1, o2'⟩ hf hR (zA1 D (zAt hg').1 fun _ hx => hx)).mono fun en w' hq => ?_
 have hfree : ∀ k, zCk s.nx B k = true → Free σ k := fun k hk => h3 k (by simp only [zS1, hB]; exact zRi hk)
 have hbad : ∀ k, (pbN s.nx B k && phN s.nx B [] k) = false → zCk s.nx B k = true := fun k hk => by
  cases hx : zCk s.nx B k
  ·simp [pbN, phN, hx, zCq] at hk
  ·rfl
 have key0 : ∃ v h' e'', en = .returned v ∧ Den F w0 ((zS1 s t args.toList ks d os').app σ) h' e'' (a.put (some t) v) w' := ?_
 ·obtain ⟨v, h', e', rfl, D'⟩ := key0
  exact hK _ _ _ _ D'
 refine D.backM (s' := (zS1 s t args.toList ks d os').app σ) (ks := ks) (m := s.nx) (B := B) (A := []) (os := os) (d := d) (os' := os')
  ⟨hnd, Nat.le_of_ble_eq_true c3, fun k hk => by have := zGb c4 k hk; simpa only [Bool.not_eq_true'] using this, o1, o2', .inr (fun k hk => by cases hk), c6, c7, fun i o o' => zJv c8 i o o'⟩
  (dst := some t) (fun t' h => by cases h; rw [hn]; exact zAm c1) rfl (fun i hi => ?_) (fun t' h => ?_) (fun k o hk => ?_) (fun k hk => by cases hk) hq
 ·have hi : ¬ i = t := fun hc => hi (by rw [hc])
  simp only [zS1, Rec.app, zCg, hi, if_false];exact .inr ⟨trivial, zEc _ fun k hk => (hfree k (hbad k hk)).sl i⟩
 ·cases h; simp only [zS1, Rec.app, zCg, if_true]
 ·simp only [zS1, Rec.app, zFd, zLv, zVz] at hk
  cases hx : lkO (zF2 (sgm ks s.nx) os') k with
  | some o' =>
   rw [hx] at hk;simp only [Option.map_some, zz1] at hk;subst hk;exact .inl (zE1 hx)
  | none =>
   rw [hx] at hk;simp only [Option.map_none] at hk;refine .inr ?_;cases hy : lkU (zKm os' 1000 ks) k with
   | some x =>
    rw [hy] at hk;have := zFc ks 1000 k x hy;subst this;cases hk
   | none =>
    rw [hy] at hk;simp only at hk
    have hkn : k ∉ ks := fun hc => by
     obtain ⟨q1, q2, q3⟩ := zM0 ks k 1000 hc;have hlt : zK2 ks k 1000 - 1000 < ks.length := by omega
     cases hz : lkO os' (1000 + (zK2 ks k 1000 - 1000)) with
     | none =>
      have := zRo ks 1000 _ hlt hz hnd;rw [q3, hy] at this;cases this
     | some o' =>
      have hsg : sgm ks s.nx (1000 + (zK2 ks k 1000 - 1000)) = k := by
       have : Nat.blt (1000 + (zK2 ks k 1000 - 1000)) 1000 = false := by
        cases hb : Nat.blt (1000 + (zK2 ks k 1000 - 1000)) 1000
        ·rfl
        ·have := zAm hb; omega
       simp only [sgm, this, cond_false, Nat.add_sub_cancel_left, q3]
      have key : ∀ (l : List (Nat × OB)), lkO l (1000 + (zK2 ks k 1000 - 1000)) = some o' → lkO (zF2 (sgm ks s.nx) l) k ≠ none := fun l => by
       induction l with
       | nil => intro h; cases h
       | cons p r ih =>
        obtain ⟨j, oj⟩ := p;intro h;simp only [lkO, zF2] at h ⊢;cases hb : Nat.beq j (1000 + (zK2 ks k 1000 - 1000))
        ·rw [hb] at h
         cases hb2 : Nat.beq (sgm ks s.nx j) k
         ·exact ih h
         ·simp
        ·have hj := zz4 hb
         rw [hj, hsg, Nat.beq_refl];exact fun hc => by cases hc
      exact key os' hz hx
    refine ⟨hkn, ?_, o, hk, OLe.refl o, ?_⟩
    ·cases hx : zCk s.nx B k
     ·rfl
     ·have := zCl (hfree k hx)
      rw [this] at hk;cases hk
    ·cases o with
     | var lv => exact zCt lv fun j hj => ((hfree j (hbad j hj)).ow k _ hk).2.1 lv rfl
     | acc T es n f => rfl
     | mp kd lv => exact zJd lv fun j hj => ((hfree j (hbad j hj)).ow k _ hk).2.2 kd lv rfl
theorem zB4 {f t : Nat} {args : Array Operand} {tys : Array Nat} {ty : Nat} {pos : String} {af : Array Edge} {R : List SD → List OB → SD → List (Nat × OB) → Prop} (ks : List Nat) {ds : List SD} {os : List OB} {d : SD} {os' : List (Nat × OB)} {s' : St} {rest : List Oper} (hf : FnM P f R)
  (_hnd : nodupB ks = true) (ha : zI7 (tau ks) (args.toList.map (unG s)) = ds) (hal : zC6 (fun x => zCq x ks) (fun x => zCq x ks) (args.toList.map (unG s)) = true) (ho : zPd s ks ks = some os) (hg : zAn (gCs s args.toList [])) (hR : R ds os d os')
  (hs : zSe s t ks os d os' = some s') (hn : zAy P F w0 Q id l s0 (rs ++ [zS1 s t args.toList ks d os']) rest s') : zAy P F w0 Q id l s0 rs (⟨some t, .call ⟨.value (.func f), args, tys⟩, ty, pos, af, none⟩ :: rest) s := fun K => by
 obtain ⟨h1, h2⟩ := zUl (F := F) (w0 := w0) (ops := l.toArray) (tys := tys) (ty := ty) (pos := pos) (af := af) hf ha hal ho hg hR hs
 have g1 : ∀ p ∈ (zS1 s t args.toList ks d os').slots, lkp s.sl p.1 = p.2 := zBe
 have g2 : ∀ p ∈ (zS1 s t args.toList ks d os').keys, lkO s.ow p.1 = some p.2 := zMw
 generalize zS1 s t args.toList ks d os' = r at *
 exact hn (K.snoc g1 g2 h1 h2)
end
end Go.Sx
namespace Go.Sx
open Go.RowKit
open Go.ChangeMaps (setBlock)
instance : DecidableEq MK := fun a b => match a, b with
 | .i x, .i y => if h : x = y then isTrue (by rw [h]) else isFalse fun e => h (by cases e; rfl)
 | .s x, .s y => if h : x = y then isTrue (by rw [h]) else isFalse fun e => h (by cases e; rfl)
 | .i _, .s _ => isFalse fun e => by cases e
 | .s _, .i _ => isFalse fun e => by cases e
def kkT (P : Program) (T : Nat) : Option (Option IntKind) :=
 match P.underlying T with
 | some (.map k _) => match P.underlying k with
  | some (.int q) => some (some q)
  | some .string => some none
  | _ => none
 | _ => none
def mzT (P : Program) (T : Nat) : Option Value :=
 match P.underlying T with
 | some (.map _ e) => (P.info? e).bind (·.zero)
 | _ => none
def zTd : Option IntKind → SD → Option MK
 | some k, .int j n => bif decide (k = j) then some (.i n) else none
 | none, .str b => some (.s b)
 | _, _ => none
def zNn (q : MK) (d : SD) (f : MK → SD) (r : MK) : SD := if r = q then d else f r
def zFl (q : MK) (dom : MK → Bool) (r : MK) : Bool := decide (r = q) || dom r
def zYj (b : Bool) : SD → SD → Option SD
 | .bool x, .bool z => some (.bool (bif b then x else z))
 | .int k x, .int j z => bif decide (k = j) then some (.int k (bif b then x else z)) else none
 | .str x, .str z => some (.str (bif b then x else z))
 | _, _ => none
def mapD (s : St) : SD → Option MD
 | .omap k => match lkO s.ow k with
  | some (.mp m _) => match m.it with
   | none => some m
   | some _ => none
  | _ => none
 | .fmap kk n dom f => some ⟨kk, n, dom, f, none⟩
 | _ => none
def mlD (P : Program) (s : St) (T : Nat) (x y : SD) (ok : Bool) : Option SD :=
 match mapD s x, kkT P T, mzT P T with
 | some m, some kk, some z => bif decide (m.kk = kk) then
   match zTd kk y with
   | some q => match zYj (m.dom q) (m.f q) (ofV z) with
    | some d => some (bif ok then .tup [d, .bool (m.dom q)] else d)
    | none => none
   | none => none
  else none
 | _, _, _ => none
theorem zMy {h : Hp} {e : Nm} {kk : Option IntKind} {y : SD} {q : MK} {v : Value} (hq : zTd kk y = some q) (hy : rep h y e v) : v = q.val kk ∧ q.ok kk = true := by
 unfold zTd at hq
 split at hq
 ·rename_i k j n
  by_cases hkj : k = j
  ·simp only [hkj, decide_true, cond_true, zz1] at hq
   subst hq;simp only [rep] at hy;exact ⟨by rw [hy]; simp only [MK.val, hkj], rfl⟩
  ·simp [hkj] at hq
 ·simp only [zz1] at hq
  subst hq;simp only [rep] at hy;exact ⟨hy, rfl⟩
 ·cases hq
def yC5 (P : Program) (kt : Nat) (kk : Option IntKind) : Prop := match kk with
 | some q => P.underlying kt = some (.int q)
 | none => P.underlying kt = some .string
theorem zRq {P : Program} {T : Nat} {kk : Option IntKind} (h : kkT P T = some kk) : ∃ kt et, P.underlying T = some (.map kt et) ∧ yC5 P kt kk := by
 unfold kkT at h
 split at h
 ·rename_i k e hu
  split at h
  ·rename_i q hk
   simp only [zz1] at h;subst h;exact ⟨k, e, hu, hk⟩
  ·rename_i hk
   simp only [zz1] at h;subst h;exact ⟨k, e, hu, hk⟩
  ·cases h
 ·cases h
section
variable {P : Program}
theorem run_checkKey {kt : Nat} {kk : Option IntKind} (hk : yC5 P kt kk) (b : Bool) (v : Value) (w : World) : (Instr.checkKey b 10000 kt v).run P w = .ok () w := by
 have key : ∀ n, (Instr.checkKey b (n + 1) kt v).run P w = .ok () w := fun n => by
  cases kk with
  | some q => simp only [yC5] at hk; simp [Instr.checkKey, run_underlying hk]
  | none => simp only [yC5] at hk; simp [Instr.checkKey, run_underlying hk]
 exact key 9999
def kdD : Option IntKind → TypeDesc
 | some q => .int q
 | none => .string
theorem zZs {kt : Nat} {kk : Option IntKind} (hk : yC5 P kt kk) (w : World) : (underlying kt).run P w = .ok (kdD kk) w := by
 cases kk with
 | some q => exact run_underlying hk w
 | none => exact run_underlying hk w
theorem zLj {kk : Option IntKind} {p q : MK} (hp : p.ok kk = true) (hq : q.ok kk = true) : Instr.sameNow (kdD kk) (p.val kk) (q.val kk) = some (decide (p = q)) := by
 cases kk <;> cases p <;> cases q <;> simp only [MK.ok, Bool.false_eq_true] at hp hq
 ·rename_i a b
  simp only [kdD, MK.val, Instr.sameNow];by_cases h : a = b
  ·subst h
   have : (a == a) = true := by obtain ⟨x⟩ := a; show (x == x) = true; simp
   simp [this]
  ·have h1 : ¬ (MK.s a = MK.s b) := fun e => h (by cases e; rfl)
   have h2 : (a == b) = false := by
    cases hb : a == b
    ·rfl
    ·exfalso
     apply h;obtain ⟨x⟩ := a;obtain ⟨y⟩ := b;have h' : (x == y) = true := hb;rw [eq_of_beq h']
   simp [h1, h2]
 ·rename_i k a b
  simp only [kdD, MK.val, Instr.sameNow, if_true];by_cases h : a = b
  ·subst h; simp
  ·have h1 : ¬ (MK.i a = MK.i b) := fun e => h (by cases e; rfl)
   simp [h, h1]
theorem zLy {kk : Option IntKind} {q : MK} (hq : q.ok kk = true) : ∀ (l : List MapEntry) (i : Nat), (∀ x ∈ l, ∃ p : MK, p.ok kk = true ∧ x.key = p.val kk) →
  (Instr.findNow (kdD kk) (q.val kk) l i = some none ∧ ∀ x ∈ l, x.key ≠ q.val kk) ∨ ∃ j x, l[j]? = some x ∧ x.key = q.val kk ∧ Instr.findNow (kdD kk) (q.val kk) l i = some (some (i + j, x.val))
 | [], i, _ => .inl ⟨rfl, by simp⟩
 | y :: r, i, h => by
  obtain ⟨p, hp, hy⟩ := h y (by simp);by_cases hpq : q = p
  ·subst hpq
   exact .inr ⟨0, y, rfl, hy, by simp [Instr.findNow, hy, zLj hq hq]⟩
  ·have hne : y.key ≠ q.val kk := fun e => hpq (MK.val_inj hq hp (e.symm.trans hy))
   have hs : Instr.sameNow (kdD kk) (q.val kk) y.key = some false := by rw [hy, zLj hq hp]; simp [hpq]
   rcases zLy hq r (i + 1) (fun x hx => h x (by simp [hx])) with ⟨h1, h2⟩ | ⟨j, x, h1, h2, h3⟩
   ·refine .inl ⟨by simp only [Instr.findNow, hs]; exact h1, fun x hx => ?_⟩
    rcases List.mem_cons.1 hx with rfl | hx
    ·exact hne
    ·exact h2 x hx
   ·refine .inr ⟨j + 1, x, by simpa using h1, h2, ?_⟩
    simp only [Instr.findNow, hs, h3];simp only [zz1, Prod.mk.injEq, and_true];omega
theorem zTa {h : Hp} {m : MD} {es : Array MapEntry} {clock : Nat} (x : zG8 h m es clock) : ∀ y ∈ es.toList, ∃ p : MK, p.ok m.kk = true ∧ y.key = p.val m.kk := fun y hy => by
 obtain ⟨q, h1, h2, _⟩ := x.2.2.1.key y (by simpa using hy)
 exact ⟨q, h1, h2⟩
theorem run_findKey {kt : Nat} {h : Hp} {m : MD} {es : Array MapEntry} {clock : Nat} (x : zG8 h m es clock) (hk : yC5 P kt m.kk) {q : MK} (hq : q.ok m.kk = true) (w : World) :
  (m.dom q = false ∧ (Instr.findKey kt (q.val m.kk) es.toList).run P w = .ok none w ∧ ∀ y ∈ es.toList, y.key ≠ q.val m.kk) ∨
  ∃ (j : Nat) (y : MapEntry), m.dom q = true ∧ es.toList[j]? = some y ∧ y.key = q.val m.kk ∧ (Instr.findKey kt (q.val m.kk) es.toList).run P w = .ok (some (j, y.val)) w := by
 rcases zLy hq es.toList 0 (zTa x) with ⟨h1, h2⟩ | ⟨j, y, h1, h2, h3⟩
 ·refine .inl ⟨?_, by simp [Instr.findKey, zZs hk, h1], h2⟩
  cases hd : m.dom q
  ·rfl
  ·obtain ⟨_, y, hy, hyk⟩ := x.2.2.1.all q hd
   exact absurd hyk (h2 y (by simpa using hy))
 ·refine .inr ⟨j, y, ?_, h1, h2, by simp [Instr.findKey, zZs hk, h3]⟩
  obtain ⟨p, p1, p2, p3⟩ := x.2.2.1.key y (by have := List.mem_of_getElem? h1; simpa using this);rw [MK.val_inj hq p1 (h2.symm.trans p2)];exact p3
theorem zVx {F : List Nat} {w0 : Base} {s : St} {h : Hp} {e : Nm} {a : Act} {w : World} (D : Den F w0 s h e a w) {x : SD} {m : MD} {v : Value} (hm : mapD s x = some m) (hx : rep h x e v) :
  ∃ b es clock, v = .map (some b) ∧ w.heap[b]? = some (.map es clock) ∧ zG8 h m es clock := by
 cases x <;> simp only [mapD, reduceCtorEq] at hm
 case omap k =>
  split at hm
  ·rename_i m' l ho
   split at hm
   ·rename_i hit
    simp only [zz1] at hm;subst hm;obtain ⟨o, h1, h2⟩ := D.ownM ho (by rw [hit]; intros; simp);unfold zIa at h2;rw [hit] at h2;obtain ⟨es, clock, rfl, h3⟩ := h2;simp only [rep] at hx;exact ⟨_, es, clock, hx, h1, h3⟩
   ·cases hm
  ·cases hm
 case fmap kk n dom f =>
  simp only [zz1] at hm;subst hm;simp only [rep] at hx;obtain ⟨b, es, clock, h1, h2, h3, h4, h5, h6⟩ := hx;exact ⟨b, es, clock, h1, D.sub _ _ h2, h3, h4, h5, h6⟩
theorem zUr {F : List Nat} {w0 : Base} {s : St} {h : Hp} {e : Nm} {a : Act} {w : World} (D : Den F w0 s h e a w) {T : Nat} {x y d : SD} {ok : Bool} {v u : Value} (hq : mlD P s T x y ok = some d) (hx : rep h x e v) (hy : rep h y e u) :
  ∃ r, rep h d e r ∧ (Instr.lookup T v u ok).run P w = .ok r w := by
 unfold mlD at hq
 split at hq
 ·rename_i m kk z hm hkk hz
  by_cases hmk : m.kk = kk
  ·simp only [hmk, decide_true, cond_true] at hq
   split at hq
   ·rename_i q hqk
    split at hq
    ·rename_i d0 hl
     simp only [zz1] at hq;obtain ⟨b, es, clock, rfl, hb, hok⟩ := zVx D hm hx;obtain ⟨rfl, hqok⟩ := zMy hqk hy;obtain ⟨kt, et, hT, hkt⟩ := zRq hkk;subst hmk
     have hzr : (zeroValue et).run P w = .ok z w := by
      unfold mzT at hz;rw [hT] at hz;simp only at hz;cases hi : P.info? et with
      | none => rw [hi] at hz; cases hz
      | some i =>
       rw [hi] at hz;simp only [Option.bind_some] at hz;simp [zeroValue, typeInfo, hi, hz]
     have hval : ∃ r, rep h d0 e r ∧ (Instr.lookup T (.map (some b)) (q.val m.kk) ok).run P w = .ok (if ok then .tuple #[r, .bool (m.dom q)] else r) w := by
      rcases run_findKey (P := P) hok hkt hqok w with ⟨h1, h2, _⟩ | ⟨j, y', h1, h2, h3, h4⟩
      ·refine ⟨z, ?_, ?_⟩
       ·rw [h1] at hl
        unfold zYj at hl;have hzz := zG4 h e z;split at hl
        ·rename_i hz1; rw [hz1] at hzz; simp only [cond_false, zz1] at hl; subst hl; exact hzz
        ·rename_i k _ j _ _ hz1
         rw [hz1] at hzz;by_cases hkj : k = j
         ·subst hkj; simp only [decide_true, cond_true, cond_false, zz1] at hl; subst hl; exact hzz
         ·simp [hkj] at hl
        ·rename_i hz1; rw [hz1] at hzz; simp only [cond_false, zz1] at hl; subst hl; exact hzz
        ·cases hl
       ·simp [Instr.lookup, run_underlying hT, MapKept.run_getObj_map hb, run_checkKey hkt, h2, hzr, h1]
      ·refine ⟨y'.val, ?_, ?_⟩
       ·have hr := hok.2.2.2 y' (by have := List.mem_of_getElem? h2; simpa using this) q h3 hqok e
        rw [h1] at hl;unfold zYj at hl;split at hl
        ·rename_i hz1 _; rw [hz1] at hr; simp only [cond_true, zz1] at hl; subst hl; exact hr
        ·rename_i k _ j _ hz1 _
         rw [hz1] at hr;by_cases hkj : k = j
         ·subst hkj; simp only [decide_true, cond_true, zz1] at hl; subst hl; exact hr
         ·simp [hkj] at hl
        ·rename_i hz1 _; rw [hz1] at hr; simp only [cond_true, zz1] at hl; subst hl; exact hr
        ·cases hl
       ·simp [Instr.lookup, run_underlying hT, MapKept.run_getObj_map hb, run_checkKey hkt, h4, h1]
     obtain ⟨r, r1, r2⟩ := hval;refine ⟨_, ?_, r2⟩;subst hq;cases ok
     ·simpa using r1
     ·simp only [cond_true, if_true, rep, repT]
      exact ⟨[r, .bool (m.dom q)], rfl, r, _, rfl, r1, _, _, rfl, rfl, rfl⟩
    ·cases hq
   ·cases hq
  ·simp [hmk] at hq
 ·cases hq
end
end Go.Sx
namespace Go.Sx
open Go.RowKit
open Go.ChangeMaps (setBlock)
theorem zPx {es : Array MapEntry} {j : Nat} {y : MapEntry} {k v : Value} (hj : es.toList[j]? = some y) (hk : y.key = k) :
  ((es.modify j fun e => { e with key := k, val := v }).toList.map (·.born) = es.toList.map (·.born)) ∧ ((es.modify j fun e => { e with key := k, val := v }).toList.map (·.key) = es.toList.map (·.key)) ∧
  (∀ x, x ∈ es.modify j (fun e => { e with key := k, val := v }) → (x ∈ es ∧ x ≠ y) ∨ x = { y with key := k, val := v } ∨ x ∈ es) ∧
  ∀ i, (es.modify j fun e => { e with key := k, val := v }).toList[i]? = if i = j then some { y with key := k, val := v } else es.toList[i]? := by
 have hjl : j < es.size := by have := (List.getElem?_eq_some_iff.1 hj).1; simpa using this
 have hget : ∀ i, (es.modify j fun e => { e with key := k, val := v }).toList[i]? = if i = j then some { y with key := k, val := v } else es.toList[i]? := fun i => by
  simp only [Array.getElem?_toList, Array.getElem?_modify];by_cases hij : j = i
  ·subst hij
   simp only [if_true];have : es[j]? = some y := by simpa using hj
   rw [this]; rfl
  ·have : ¬ i = j := fun h => hij h.symm
   simp [hij, this]
 refine ⟨?_, ?_, fun x hx => ?_, hget⟩
 ·apply List.ext_getElem?
  intro i;simp only [List.getElem?_map, hget];by_cases hij : i = j
  ·subst hij; simp [hj]
  ·simp [hij]
 ·apply List.ext_getElem?
  intro i;simp only [List.getElem?_map, hget];by_cases hij : i = j
  ·subst hij; simp [hj, hk]
  ·simp [hij]
 ·obtain ⟨i, hi⟩ := List.getElem?_of_mem (show x ∈ (es.modify j fun e => { e with key := k, val := v }).toList from Array.mem_toList_iff.2 hx)
  rw [hget] at hi;by_cases hij : i = j
  ·simp only [hij, if_true, zz1] at hi; exact .inr (.inl hi.symm)
  ·simp only [hij, if_false] at hi; exact .inr (.inr (by have := List.mem_of_getElem? hi; simpa using this))
theorem zOe {α : Type} {l : List α} (hn : l.Nodup) {i j : Nat} {a : α} (hi : l[i]? = some a) (hj : l[j]? = some a) : i = j := by
 obtain ⟨h1, h2⟩ := List.getElem?_eq_some_iff.1 hi
 obtain ⟨h3, h4⟩ := List.getElem?_eq_some_iff.1 hj
 have hp := List.pairwise_iff_getElem.1 hn
 rcases Nat.lt_trichotomy i j with h | h | h
 ·exact absurd (h2.trans h4.symm) (hp i j h1 h3 h)
 ·exact h
 ·exact absurd (h4.trans h2.symm) (hp j i h3 h1 h)
theorem zOd {es : Array MapEntry} (h : es.toList.Pairwise fun x y => x.key ≠ y.key) : (es.toList.map (·.key)).Nodup := List.pairwise_map.2 h
theorem zVw {h : Hp} {m : MD} {es : Array MapEntry} {clock : Nat} (x : zG8 h m es clock) {q : MK} (hq : q.ok m.kk = true) {j : Nat} {y : MapEntry} (hd : m.dom q = true) (hj : es.toList[j]? = some y) (hk : y.key = q.val m.kk) {d : SD} {v : Value} (hv : ∀ e, rep h d e v) :
  zG8 h ⟨m.kk, m.n, zFl q m.dom, zNn q d m.f, none⟩ (es.modify j fun e => { e with key := q.val m.kk, val := v }) clock := by
 obtain ⟨x1, x2, x3, x4⟩ := x
 obtain ⟨m1, m2, m3, m4⟩ := zPx (v := v) hj hk
 have hadd : zFl q m.dom = m.dom := by
  funext r
  simp only [zFl];by_cases hr : r = q
  ·subst hr; simp [hd]
  ·simp [hr]
 have old : ∀ z, z ∈ es.modify j (fun e => { e with key := q.val m.kk, val := v }) → ∃ z0 ∈ es, z.born = z0.born ∧ z.key = z0.key := fun z hz => by
  rcases m3 z hz with h1 | h1 | h1
  ·exact ⟨z, h1.1, rfl, rfl⟩
  ·refine ⟨y, by have := List.mem_of_getElem? hj; simpa using this, ?_, ?_⟩
   ·rw [h1]
   ·rw [h1, hk]
  ·exact ⟨z, h1, rfl, rfl⟩
 refine ⟨by simpa using x1, x2, ⟨fun z hz => ?_, by rw [m1]; exact x3.nodup, fun z hz => ?_, fun r hr => ?_, ?_⟩, fun z hz r hr hok e => ?_⟩
 ·obtain ⟨z0, h1, h2, _⟩ := old z hz; rw [h2]; exact x3.born z0 h1
 ·obtain ⟨z0, h1, _, h2⟩ := old z hz; rw [h2, hadd]; exact x3.key z0 h1
 ·rw [hadd] at hr
  obtain ⟨r1, z0, h1, h2⟩ := x3.all r hr;refine ⟨r1, ?_⟩
  have hm : r.val m.kk ∈ (es.modify j fun e => { e with key := q.val m.kk, val := v }).toList.map (·.key) := by
   rw [m2]; exact List.mem_map.2 ⟨z0, by simpa using h1, h2⟩
  obtain ⟨z, hz, hzk⟩ := List.mem_map.1 hm;exact ⟨z, Array.mem_toList_iff.1 hz, hzk⟩
 ·exact List.pairwise_map.1 (by rw [m2]; exact zOd x3.apart)
 ·simp only [zNn]
  obtain ⟨i, hi⟩ := List.getElem?_of_mem (show z ∈ (es.modify j fun e => { e with key := q.val m.kk, val := v }).toList from Array.mem_toList_iff.2 hz);rw [m4] at hi;by_cases hij : i = j
  ·simp only [hij, if_true, zz1] at hi
   subst hi;simp only at hr;rw [if_pos (MK.val_inj hok hq hr.symm)];exact hv e
  ·simp only [hij, if_false] at hi
   have hzm : z ∈ es := by have := List.mem_of_getElem? hi; simpa using this
   by_cases hrq : r = q
   ·exfalso
    subst hrq;have hnd := zOd x3.apart;have h1 : (es.toList.map (·.key))[i]? = some (r.val m.kk) := by simp only [List.getElem?_map, hi, Option.map_some, hr]
    have h2 : (es.toList.map (·.key))[j]? = some (r.val m.kk) := by simp only [List.getElem?_map, hj, Option.map_some, hk]
    exact hij (zOe hnd h1 h2)
   ·rw [if_neg hrq]
    exact x4 z hzm r hr hok e
theorem zS9 {h : Hp} {m : MD} {es : Array MapEntry} {clock : Nat} (x : zG8 h m es clock) {q : MK} (hq : q.ok m.kk = true) (hd : m.dom q = false) (hnew : ∀ y ∈ es.toList, y.key ≠ q.val m.kk) {d : SD} {v : Value} (hv : ∀ e, rep h d e v) (hn : m.n < maxN) :
  zG8 h ⟨m.kk, m.n + 1, zFl q m.dom, zNn q d m.f, none⟩ (es.push { key := q.val m.kk, val := v, born := clock }) (clock + 1) := by
 obtain ⟨x1, x2, x3, x4⟩ := x
 refine ⟨by simpa using x1, hn, ⟨fun z hz => ?_, ?_, fun z hz => ?_, fun r hr => ?_, ?_⟩, fun z hz r hr hok e => ?_⟩
 ·rcases Array.mem_push.1 hz with h1 | rfl
  ·exact Nat.lt_succ_of_lt (x3.born z h1)
  ·exact Nat.lt_succ_self _
 ·simp only [Array.toList_push, List.map_append, List.map_cons, List.map_nil]
  refine List.nodup_append.2 ⟨x3.nodup, by simp, fun a ha b hb => ?_⟩;simp only [List.mem_singleton] at hb;subst hb;obtain ⟨z, hz, rfl⟩ := List.mem_map.1 ha;have := x3.born z (by simpa using hz);omega
 ·rcases Array.mem_push.1 hz with h1 | rfl
  ·obtain ⟨p, p1, p2, p3⟩ := x3.key z h1
   exact ⟨p, p1, p2, by simp [zFl, p3]⟩
  ·exact ⟨q, hq, rfl, by simp [zFl]⟩
 ·simp only [zFl, Bool.or_eq_true, decide_eq_true_eq] at hr
  rcases hr with rfl | hr
  ·exact ⟨hq, _, Array.mem_push_self, rfl⟩
  ·obtain ⟨r1, z, h1, h2⟩ := x3.all r hr
   exact ⟨r1, z, Array.mem_push.2 (.inl h1), h2⟩
 ·simp only [Array.toList_push]
  refine List.pairwise_append.2 ⟨x3.apart, by simp, fun a ha b hb => ?_⟩;simp only [List.mem_singleton] at hb;subst hb;exact hnew a ha
 ·simp only [zNn]
  rcases Array.mem_push.1 hz with h1 | rfl
  ·have hne : r ≠ q := fun hc => hnew z (by simpa using h1) (by rw [hr, hc])
   rw [if_neg hne];exact x4 z h1 r hr hok e
  ·rw [if_pos (MK.val_inj hok hq hr.symm)]
   exact hv e
section
variable {P : Program}
theorem zN3 (q : MK) (kk : Option IntKind) (hq : q.ok kk = true) (n : Nat) : Instr.sameBits n (q.val kk) (q.val kk) = true := by
 cases kk <;> cases q <;> simp only [MK.ok, Bool.false_eq_true] at hq
 ·rename_i b
  simp only [MK.val];have : (b == b) = true := by obtain ⟨x⟩ := b; show (x == x) = true; simp
  cases n <;> simp [Instr.sameBits, this]
 ·simp only [MK.val]
  cases n <;> simp [Instr.sameBits]
theorem zSt {T kt et : Nat} {h : Hp} {m : MD} {es : Array MapEntry} {clock b : Nat} {w : World} (hb : w.heap[b]? = some (.map es clock)) (x : zG8 h m es clock) (hT : P.underlying T = some (.map kt et)) (hkt : yC5 P kt m.kk) {q : MK} (hq : q.ok m.kk = true) {d : SD} {v : Value} (hv : ∀ e, rep h d e v) (hn : m.n < maxN) :
  ∃ es' clock', (Instr.mapUpdate T (.map (some b)) (q.val m.kk) v).run P w = .ok () (setBlock w b (.map es' clock')) ∧ zG8 h ⟨m.kk, bif m.dom q then m.n else m.n + 1, zFl q m.dom, zNn q d m.f, none⟩ es' clock' := by
 rcases run_findKey (P := P) x hkt hq w with ⟨h1, h2, h3⟩ | ⟨j, y, h1, h2, h3, h4⟩
 ·refine ⟨_, _, ?_, by rw [h1]; exact zS9 x hq h1 h3 hv hn⟩
  simp [Instr.mapUpdate, run_underlying hT, MapKept.run_getObj_map hb, run_checkKey hkt, h2, MapKept.run_setObj_map _ hb, setBlock]
 ·refine ⟨_, _, ?_, by rw [h1]; exact zVw x hq h1 h2 h3 hv⟩
  have hjj : es[j]? = some y := by simpa using h2
  have hks : (Instr.keyThatStays (q.val m.kk) (q.val m.kk)).run P w = .ok (q.val m.kk) w := by
   simp [Instr.keyThatStays, zN3 q m.kk hq]
  simp [Instr.mapUpdate, run_underlying hT, MapKept.run_getObj_map hb, run_checkKey hkt, h4, hjj, h3, hks, MapKept.run_setObj_map _ hb, setBlock]
end
end Go.Sx
namespace Go.Sx
open Go.RowKit
open Go.ChangeMaps (setBlock)
section
variable {P : Program} {F : List Nat} {w0 : Base} {Q : Exit → Act → World → Prop} {s : St} {ops : Array Oper} {rest : List Oper}
theorem Den.newObj {h : Hp} {e : Nm} {a : Act} {w : World} (D : Den F w0 s h e a w) {k : Nat} {m : MD} {o : Obj} (hf : Free s k) (ho : zIa h m w.heap.size o) (nx : Nat) (hl : m.lv = false := by rfl) :
  Den F w0 { s with nx := nx, ow := upd s.ow k (.mp m []) } h (e.setB k w.heap.size) a (w.alloc o) := by
 have hb := Below.alloc (Below.refl w.heap.size w) (Nat.le_refl _) o
 have D1 := (D.below hb).rename (e.but_setB k w.heap.size) hf
 have hnone : h w.heap.size = none := by
  cases hx : h w.heap.size with
  | none => rfl
  | some o => have := (Array.getElem?_eq_some_iff.1 (D.sub _ _ hx)).1; omega
 refine D1.addOwn (o := .mp m []) (zCl hf) ((zVp hl).2 ⟨o, ?_, by simpa only [Nm.setB, if_true] using ho⟩) (fun b hb => ?_) (fun j o' b hj hb' hc' => ?_) nx
 ·simp only [Nm.setB, if_true]; exact heap_alloc_new w _
 ·rw [zO3 hl] at hb
  simp only [Nm.setB, if_true, zz1] at hb;subst hb;exact ⟨.inl D.keeps.size, hnone⟩
 ·rw [zO3 hl] at hc'
  simp only [Nm.setB, if_true, zz1] at hc';subst hc';have hjk : j ≠ k := fun x => by subst x; rw [zCl hf] at hj; cases hj
  rw [zBv (e.but_setB k _) hjk] at hb';have := zD9 (D.own j o' hj) hb';omega
theorem Den.setMp {h : Hp} {e : Nm} {a : Act} {w : World} (D : Den F w0 s h e a w) {k : Nat} {m m' : MD} {l : List (SD × SD)} {o o' : Obj} (ho : lkO s.ow k = some (.mp m l)) (hb : w.heap[e.bs k]? = some o) (h' : zIa h m' (e.bs k) o') (hl : m.lv = false := by rfl) (hl' : m'.lv = false := by rfl) :
  Den F w0 { s with ow := upd s.ow k (.mp m' []) } h e a (setBlock w (e.bs k) o') := by
 have hs := MapKept.heap_set (o' := o') hb
 refine D.setOwn (o' := .mp m' []) ho (by rw [zO3 hl, zO3 hl']) ((zVp hl').2 ⟨o', hs.1, h'⟩) (fun b hbk => ?_) rfl rfl rfl (by simp [setBlock])
 exact hs.2 b fun hc => hbk (by simp [zO3 hl, hc])
def yDd (s : St) (t : Nat) (d : SD) (o : OB) : Option St :=
 bif Nat.blt t s.n && s.free s.nx then some ⟨s.n, s.nx + 1, upd s.sl t d, upd s.ow s.nx o⟩ else none
theorem zPw {t : Nat} {d : SD} {o : OB} {s' : St} (h : yDd s t d o = some s') : t < s.n ∧ Free s s.nx ∧ s' = ⟨s.n, s.nx + 1, upd s.sl t d, upd s.ow s.nx o⟩ := by
 unfold yDd at h
 cases hb : (Nat.blt t s.n && s.free s.nx)
 ·rw [hb] at h; cases h
 ·rw [hb] at h
  simp only [cond_true, zz1] at h;simp only [zz3] at hb;exact ⟨zAm hb.1, Free.of hb.2, h.symm⟩
theorem zNu {o : Oper} {a : Act} {w w' : World} {v : Value} {K : Act → World → Prop} {Q : Exit → Act → World → Prop} (h : (execOp a.eval o).run P w = .ok (.value v) w') (hk : K (a.put o.dst v) w') : o.wp P a w K Q := by
 unfold Oper.wp
 rw [h]
 exact hk
theorem zHp {t T : Nat} {ty : Nat} {pos : String} {af : Array Edge} {kk : Option IntKind} {s' : St} (f : MK → SD) (_hk : kkT P T = some kk) (hs : yDd s t (.omap s.nx) (.mp ⟨kk, 0, fun _ => false, f, none⟩ []) = some s')
  (hn : zAi P F w0 ops Q rest s') : zAi P F w0 ops Q (⟨some t, .makeMap T none, ty, pos, af, none⟩ :: rest) s := fun h e a w D => by
 obtain ⟨ht, hf, rfl⟩ := zPw hs
 refine zAf rfl fun K hK => ?_
 have hr : (execOp a.eval ⟨some t, .makeMap T none, ty, pos, af, none⟩).run P w = .ok (.value (.map (some w.heap.size))) (w.alloc (.map #[] 0)) := by
  simp only [execOp, Instr.makeMap, newObj]; rfl
 have D1 := D.newObj (k := s.nx) (m := ⟨kk, 0, fun _ => false, f, none⟩) (o := .map #[] 0) hf ⟨#[], 0, rfl, rfl, Nat.zero_le _, ⟨by simp, by simp, by simp, fun q hq => (by cases hq), by simp⟩, by simp⟩ (s.nx + 1)
 have D2 := D1.put (i := t) (d := .omap s.nx) (v := .map (some w.heap.size)) ht (by simp [rep, Nm.setB])
 exact zNu hr (hK _ _ (hn _ _ _ _ D2))
def muD (P : Program) (s : St) (T : Nat) (x y z : SD) : Option (List Prop × St) :=
 match x with
 | .omap j => match lkO s.ow j, kkT P T with
  | some (.mp m _), some kk => match m.it, zTd kk y with
   | none, some q => bif decide (m.kk = kk) && zCy z then some ([m.n < maxN], { s with ow := upd s.ow j (.mp ⟨m.kk, bif m.dom q then m.n else m.n + 1, zFl q m.dom, zNn q z m.f, none⟩ []) }) else none
   | _, _ => none
  | _, _ => none
 | _ => none
theorem yDo {T : Nat} {x y z : Operand} {o : Oper} (ho : o.op = .mapUpdate T x y z ∨ o.op = .insert T x y z) (hd : o.dst = none) {p : List Prop} {s' : St} {h : Hp} {e : Nm} {a : Act} {w : World} (D : Den F w0 s h e a w)
  (hq : muD P s T (unG s x) (unG s y) (unG s z) = some (p, s')) (hp : zAn p) (hg : zAn (gCs s [x, y, z] [])) (K : Act → World → Prop) (Q : Exit → Act → World → Prop) (hK : ∀ h' e' a' w', Den F w0 s' h' e' a' w' → K a' w') : o.wp P a w K Q := by
 have hgg := (zAt hg).1
 have vx := zD4 (D.ev x) fun c d hc => hgg x (by simp) c d hc
 have vy := zD4 (D.ev y) fun c d hc => hgg y (by simp) c d hc
 have vz := zD4 (D.ev z) fun c d hc => hgg z (by simp) c d hc
 change rep h (unG s x) e _ at vx
 change rep h (unG s y) e _ at vy
 change rep h (unG s z) e _ at vz
 unfold muD at hq
 split at hq
 ·rename_i j hxj
  rw [hxj] at vx;split at hq
  ·rename_i m l kk hm hkk
   split at hq
   ·rename_i q hit hqk
    by_cases hmk : m.kk = kk
    ·cases hpz : zCy (unG s z)
     ·simp [hpz] at hq
     ·simp only [hmk, hpz, decide_true, Bool.and_self, cond_true, zz1, Prod.mk.injEq] at hq
      obtain ⟨rfl, rfl⟩ := hq;have hlv : m.lv = false := by simp only [MD.lv, hit]
      obtain ⟨ho1, ho2, ho3⟩ := D.ownM hm (MD.nlv hlv);unfold zIa at ho3;rw [hit] at ho3;obtain ⟨es, clock, rfl, hok⟩ := ho3;obtain ⟨hyv, hqok⟩ := zMy hqk vy;obtain ⟨kt, et, hT, hkt⟩ := zRq hkk;subst hmk;simp only [rep] at vx;obtain ⟨es', clock', hr, hok'⟩ := zSt (P := P) ho2 hok hT hkt hqok (fun e' => zDc (e' := e') _ _ hpz vz) hp.1
      have hrun : (execOp a.eval o).run P w = .ok .skip (setBlock w (e.bs j) (.map es' clock')) := by
       rcases ho with ho | ho <;> simp [execOp, ho, vx, hyv, hr]
      have D' := D.setMp (m' := ⟨m.kk, bif m.dom q then m.n else m.n + 1, zFl q m.dom, zNn q (unG s z) m.f, none⟩) (o' := .map es' clock') hm ho2 ⟨es', clock', rfl, hok'⟩ hlv;unfold Oper.wp;rw [hrun];refine hK h e _ _ ?_;show Den F w0 _ h e (a.put o.dst undef) _;rw [hd];exact D'.put_none _
    ·simp [hmk] at hq
   ·cases hq
  ·cases hq
 ·cases hq
theorem zJ4 {T : Nat} {x y z : Operand} {ty : Nat} {pos : String} {af : Array Edge} {p : List Prop} {s' : St} (hq : muD P s T (unG s x) (unG s y) (unG s z) = some (p, s')) (hp : zAn p) (hg : zAn (gCs s [x, y, z] []))
  (hn : zAi P F w0 ops Q rest s') : zAi P F w0 ops Q (⟨none, .mapUpdate T x y z, ty, pos, af, none⟩ :: rest) s := fun h e a w D =>
 zAf rfl fun K hK => yDo (.inl rfl) rfl D hq hp hg K _ fun h' e' a' w' D' => hK _ _ (hn _ _ _ _ D')
theorem zZp {T : Nat} {x y z : Operand} {ty : Nat} {pos : String} {af : Array Edge} {p : List Prop} {s' : St} (hq : muD P s T (unG s x) (unG s y) (unG s z) = some (p, s')) (hp : zAn p) (hg : zAn (gCs s [x, y, z] []))
  (hn : zAi P F w0 ops Q rest s') : zAi P F w0 ops Q (⟨none, .insert T x y z, ty, pos, af, none⟩ :: rest) s := fun h e a w D =>
 zAf rfl fun K hK => yDo (.inr rfl) rfl D hq hp hg K _ fun h' e' a' w' D' => hK _ _ (hn _ _ _ _ D')
theorem zZq {t T : Nat} {x y : Operand} {ok : Bool} {ty : Nat} {pos : String} {af : Array Edge} {d : SD} {s' : St} (hq : mlD P s T (unG s x) (unG s y) ok = some d) (hg : zAn (gCs s [x, y] [])) (hs : zC0 s t d = some s')
  (hn : zAi P F w0 ops Q rest s') : zAi P F w0 ops Q (⟨some t, .lookup T x y ok, ty, pos, af, none⟩ :: rest) s := fun h e a w D => by
 obtain ⟨ht, rfl⟩ := zA0 hs
 refine zAf rfl fun K hK => ?_
 obtain ⟨r, r1, r2⟩ := zUr D hq (D.unG (l := [x, y]) (r := []) hg (by simp)) (D.unG (l := [x, y]) (r := []) hg (by simp))
 refine zD3 (v := r) (by simp [execOp, r2]) (hK _ _ (hn _ _ _ _ (D.put ht r1)))
theorem zUa {t T : Nat} {x y : Operand} {ok : Bool} {ty : Nat} {pos : String} {af : Array Edge} {j : Nat} {b g : Bool} {d : SD} {s' : St} (tj : Nat) (hj : (ops[j]?).bind (·.dst) = some tj) (hc : gV (lkp s.sl tj) b = some g)
  (hq : mlD P s T (unG s x) (unG s y) ok = some d) (hg : g = true → zAn (gCs s [x, y] [])) (hs : zC0 s t (mkG g d) = some s')
  (hn : zAi P F w0 ops Q rest s') : zAi P F w0 ops Q (⟨some t, .lookup T x y ok, ty, pos, af, some (j, b)⟩ :: rest) s := fun h e a w D => by
 obtain ⟨ht, rfl⟩ := zA0 hs
 have hv := D.slot tj
 refine zHk fun K hK => ?_
 rw [zCh (o := ⟨some t, .lookup T x y ok, ty, pos, af, some (j, b)⟩) rfl hj hv hc]
 cases hgb : g
 ·rw [if_neg (by simp)]
  refine hK _ _ (hn _ _ _ _ (D.put ht ?_));exact zLr (fun h => by rw [hgb] at h; cases h) fun _ => rfl
 ·rw [if_pos rfl]
  obtain ⟨r, r1, r2⟩ := zUr D hq (D.unG (l := [x, y]) (r := []) (hg hgb) (by simp)) (D.unG (l := [x, y]) (r := []) (hg hgb) (by simp));refine zD3 (v := r) (by simp [execOp, r2]) (hK _ _ (hn _ _ _ _ (D.put ht ?_)));exact zLr (fun _ => r1) fun h => by rw [hgb] at h; cases h
theorem zIm {t T : Nat} {x : Operand} {ty : Nat} {pos : String} {af : Array Edge} {kk : Option IntKind} {n : Nat} {dom : MK → Bool} {f : MK → SD} {s' : St} (hx : ev s x = .fmap kk n dom f) (hk : (kkT P T).isSome = true)
  (hs : yDd s t (.loc s.nx 0) (.mp ⟨kk, n, dom, f, some (.iter n (fun _ => false) none)⟩ []) = some s')
  (hn : zAi P F w0 ops Q rest s') : zAi P F w0 ops Q (⟨some t, .range T x, ty, pos, af, none⟩ :: rest) s := fun h e a w D => by
 obtain ⟨ht, hf, rfl⟩ := zPw hs
 have hv := D.ev x
 rw [hx] at hv
 simp only [rep] at hv
 obtain ⟨b, es, clock, h1, h2, h3, h4, h5, h6⟩ := hv
 obtain ⟨kk', hkk⟩ := Option.isSome_iff_exists.1 hk
 obtain ⟨kt, et, hT, _⟩ := zRq hkk
 refine zAf rfl fun K hK => ?_
 have hr := run_range_map w T kt et b es clock hT (D.sub _ _ h2)
 have D1 := D.newObj (k := s.nx) (m := ⟨kk, n, dom, f, some (.iter n (fun _ => false) none)⟩) (o := .mapIter (some b) clock #[] clock) hf
  ⟨b, es, clock, #[], rfl, h2, ⟨h3, h4, h5, h6⟩, by rw [show (es.filter fun e => !(#[] : Array Nat).contains e.born) = es from Array.filter_eq_self.2 (by simp)]; exact h3, by simp, fun q hq => by cases hq⟩ (s.nx + 1)
 have D2 := D1.put (i := t) (d := .loc s.nx 0) (v := .pointer (some ⟨w.heap.size, 0, none⟩)) ht (by simp [rep, Nm.setB])
 exact zNu (v := .pointer (some ⟨w.heap.size, 0, none⟩)) (by simp [execOp, h1, hr]) (hK _ _ (hn _ _ _ _ D2))
theorem zIn {t j : Nat} {x : Operand} {ty : Nat} {pos : String} {af : Array Edge} {k : IntKind} {n c : Nat} {dom V : MK → Bool} {cur : Option MK} {f : MK → SD} {l : List (SD × SD)} (hx : ev s x = .loc j 0) (ho : lkO s.ow j = some (.mp ⟨some k, n, dom, f, some (.iter c V cur)⟩ l)) (ht : Nat.blt t s.n = true)
  (h1 : (∀ q, dom q = true → V q = true) → zAi P F w0 ops Q rest (s.put t (.tup [.bool false])))
  (h2 : ∀ (y : Int) (c' : Nat), c' < c → dom (.i y) = true → V (.i y) = false → zAi P F w0 ops Q rest ⟨s.n, s.nx, upd s.sl t (.tup [.bool true, .int k y, f (.i y)]), upd s.ow j (.mp ⟨some k, n, dom, f, some (.iter c' (zFl (.i y) V) (some (.i y)))⟩ [])⟩) :
  zAi P F w0 ops Q (⟨some t, .next x false, ty, pos, af, none⟩ :: rest) s := fun h e a w D => by
 have hv := D.ev x
 rw [hx] at hv
 simp only [rep] at hv
 obtain ⟨o, o1, o2⟩ := D.own j _ ho
 obtain ⟨b, es, clock, seen, rfl, g2, g3, g4, g5, g6⟩ := (show zLx h _ c V cur o from o2)
 have hb := D.sub _ _ g2
 refine zAf rfl fun K hK => ?_
 rcases run_next_at (P := P) w ty (e.bs j) b clock clock seen es clock o1 hb (fun x hx => g3.2.2.1.born x (Array.mem_toList_iff.1 hx)) (Nat.le_refl _) with ⟨r1, r2⟩ | ⟨en, r1, w1, r2, r3⟩
 ·refine zD3 (v := .tuple #[.bool false]) (by simp [execOp, hv, r2]) (hK _ _ (h1 (fun q hq => ?_) _ _ _ _ (D.put (zAm ht) (by simp [rep, repT]))))
  obtain ⟨q1, z, q2, q3⟩ := g3.2.2.1.all q hq;rw [g5 z q2 q q3 q1];exact all_seen es seen r1 z (Array.mem_toList_iff.2 q2)
 ·obtain ⟨r4, r5⟩ := mem_left r1
  have r4' := Array.mem_toList_iff.1 r4;obtain ⟨q, q1, q2, q3⟩ := g3.2.2.1.key en r4';cases q with
  | s bb => cases q1
  | i y =>
   have D1 : Den F w0 s h e a w1 := by
    rcases r2 with rfl | rfl
    ·exact D
    ·exact D.drew
   have o1' : w1.heap[e.bs j]? = some (.mapIter (some b) clock seen clock) := by
    rcases r2 with rfl | rfl <;> exact o1
   have hVf : V (.i y) = false := by rw [g5 en r4' _ q2 q1]; exact r5
   have hshr := left_shrinks es seen en r1;unfold leftOf at hshr;rw [g4] at hshr;obtain ⟨c', hc'⟩ : ∃ c', (es.filter fun e => !(seen.push en.born).contains e.born).size = c' := ⟨_, rfl⟩;rw [hc'] at hshr
   have hiter : zLx h ⟨some k, n, dom, f, some (.iter c' (zFl (.i y) V) (some (.i y)))⟩ c' (zFl (.i y) V) (some (.i y)) (.mapIter (some b) clock (seen.push en.born) clock) := by
    refine ⟨b, es, clock, seen.push en.born, rfl, g2, g3, hc', fun z hz p hp hpk => ?_, fun p hp => ?_⟩
    ·rw [contains_push]
     have e0 := g5 z hz p hp hpk;simp only [zFl, e0];by_cases hpq : p = .i y
     ·have hze : z.key = en.key := by rw [hp, q2, hpq]
      have : z = en := entry_eq g3.2.2.1.apart (Array.mem_toList_iff.2 hz) r4 hze;simp [hpq, this]
     ·have hne : z.born ≠ en.born := fun hc => by
       have hnd := g3.2.2.1.nodup;obtain ⟨i1, h1⟩ := List.getElem?_of_mem (Array.mem_toList_iff.2 hz);obtain ⟨i2, h2⟩ := List.getElem?_of_mem r4;have := zOe hnd (i := i1) (j := i2) (a := z.born) (by simp [List.getElem?_map, h1]) (by simp [List.getElem?_map, h2, hc]);subst this;rw [h1] at h2;cases h2;exact hpq (MK.val_inj hpk q1 (hp.symm.trans q2))
      have : (z.born == en.born) = false := by simp [hne]
      simp [hpq, this]
    ·cases hp
     exact ⟨q1, en, r4', q2, by simp⟩
   have D2 := D1.setMp (m' := ⟨some k, n, dom, f, some (.iter c' (zFl (.i y) V) (some (.i y)))⟩) (o' := .mapIter (some b) clock (seen.push en.born) clock) ho o1' hiter;have hval := fun e => g3.2.2.2 en r4' (.i y) q2 q1 e
   have D3 := D2.put (i := t) (d := .tup [.bool true, .int k y, f (.i y)]) (v := .tuple #[.bool true, en.key, en.val]) (zAm ht) (by
    simp only [rep, repT];exact ⟨[.bool true, en.key, en.val], rfl, _, _, rfl, rfl, _, _, rfl, q2, _, _, rfl, hval e, rfl⟩)
   refine zNu (v := .tuple #[.bool true, en.key, en.val]) (by simp [execOp, hv, r3]) (hK _ _ (h2 y c' hshr q3 hVf _ _ _ _ D3))
where
 entry_eq : ∀ {l : List MapEntry}, l.Pairwise (fun x y => x.key ≠ y.key) → ∀ {x y : MapEntry}, x ∈ l → y ∈ l → x.key = y.key → x = y
  | [], _, _, _, hx, _, _ => by simp at hx
  | a :: r, hp, x, y, hx, hy, h => by
   obtain ⟨h1, h2⟩ := List.pairwise_cons.1 hp
   rcases List.mem_cons.1 hx with ex | hx'
   ·rcases List.mem_cons.1 hy with ey | hy'
    ·rw [ex, ey]
    ·exact absurd (ex ▸ h) (h1 y hy')
   ·rcases List.mem_cons.1 hy with ey | hy'
    ·exact absurd (ey ▸ h).symm (h1 x hx')
    ·exact entry_eq h2 hx' hy' h
theorem zIo {t j : Nat} {x : Operand} {ty : Nat} {pos : String} {af : Array Edge} {k : IntKind} {n c : Nat} {dom V : MK → Bool} {y : Int} {f : MK → SD} {l : List (SD × SD)} {s' : St} (hx : ev s x = .loc j 0) (ho : lkO s.ow j = some (.mp ⟨some k, n, dom, f, some (.iter c V (some (.i y)))⟩ l))
  (hs : zC0 s t (.tup [.int k y, f (.i y)]) = some s')
  (hn : zAi P F w0 ops Q rest s') : zAi P F w0 ops Q (⟨some t, .entry x, ty, pos, af, none⟩ :: rest) s := fun h e a w D => by
 obtain ⟨ht, rfl⟩ := zA0 hs
 have hv := D.ev x
 rw [hx] at hv
 simp only [rep] at hv
 obtain ⟨o, o1, o2⟩ := D.own j _ ho
 obtain ⟨b, es, clock, seen, rfl, g2, g3, g4, g5, g6⟩ := (show zLx h _ c V (some (.i y)) o from o2)
 have hb := D.sub _ _ g2
 obtain ⟨q1, en, q2, q3, q4⟩ := g6 _ rfl
 refine zAf rfl fun K hK => ?_
 obtain ⟨seen', hsn⟩ : ∃ seen' : Array Nat, seen = seen'.push en.born := ⟨seen.pop, by
  have hpos : 0 < seen.size := by
   cases hs0 : seen.size with
   | zero => have : seen = #[] := Array.eq_empty_of_size_eq_zero hs0; subst this; simp at q4
   | succ n => omega
  apply Array.ext';have h1 : seen.toList.getLast? = some en.born := by rw [Array.getLast?_toList]; exact q4
  have hne : seen.toList ≠ [] := fun hc => by rw [hc] at h1; cases h1
  simp only [Array.toList_push, Array.toList_pop]
  have h2 : seen.toList.getLast hne = en.born := by
   rw [List.getLast?_eq_some_getLast hne] at h1;simpa using h1
  rw [← h2];exact (List.dropLast_concat_getLast hne).symm⟩
 subst hsn
 have hr := run_entry_at (P := P) w (e.bs j) b clock seen' es clock en o1 hb (Array.mem_toList_iff.2 q2) g3.2.2.1.nodup
 have hval := g3.2.2.2 en q2 (.i y) q3 q1 e
 refine zD3 (v := .tuple #[en.key, en.val]) (by simp [execOp, hv, hr]) (hK _ _ (hn _ _ _ _ (D.put ht ?_)))
 simp only [rep, repT]
 exact ⟨[en.key, en.val], rfl, _, _, rfl, q3, _, _, rfl, hval, rfl⟩
end
end Go.Sx
namespace Go.Sx
open Go.RowKit
open Go.ChangeMaps (setBlock)
def zXh (s : ByteArray) (pos : Nat) : OB := .mp ⟨none, 0, fun _ => false, fun _ => .any, some (.raw (.stringIter s pos) none)⟩ []
section
variable {P : Program}
theorem zJf (w : World) (b : Nat) (s : ByteArray) (pos : Nat) (ty : TypeId) (hb : w.heap[b]? = some (.stringIter s pos)) (h : pos < s.size) (ha : (s[pos]'h).toNat < 128) :
  (Instr.next (.pointer (some ⟨b, 0, none⟩)) true ty).run P w = .ok (.tuple #[.bool true, .int .i64 pos, .int .i32 (s[pos]'h).toNat]) (setBlock w b (.stringIter s (pos + 1))) := by
 simp [Instr.next, getObj, setObj, Sem.run, hb, h, decode_ascii s pos h ha, goInt, setBlock]
theorem zK7 (w : World) (b : Nat) (s : ByteArray) (pos : Nat) (ty : TypeId) (hb : w.heap[b]? = some (.stringIter s pos)) (h : ¬ pos < s.size) :
  (Instr.next (.pointer (some ⟨b, 0, none⟩)) true ty).run P w = .ok (.tuple #[.bool false]) w := by
 simp [Instr.next, getObj, Sem.run, hb, h]
variable {F : List Nat} {w0 : Base} {s : St} {ops : Array Oper} {rest : List Oper} {Q : Exit → Act → World → Prop}
theorem zXj {t T : Nat} {x : Operand} {ty : Nat} {pos : String} {af : Array Edge} {σ : ByteArray} {s' : St} (hx : ev s x = .str σ) (hk : P.underlying T = some .string)
  (hs : yDd s t (.loc s.nx 0) (zXh σ 0) = some s')
  (hn : zAi P F w0 ops Q rest s') : zAi P F w0 ops Q (⟨some t, .range T x, ty, pos, af, none⟩ :: rest) s := fun h e a w D => by
 obtain ⟨ht, hf, rfl⟩ := zPw hs
 have hv := D.ev x
 rw [hx] at hv
 simp only [rep] at hv
 refine zAf rfl fun K hK => ?_
 have hr := run_range_string w T σ hk
 have D1 := D.newObj (k := s.nx) (m := ⟨none, 0, fun _ => false, fun _ => .any, some (.raw (.stringIter σ 0) none)⟩) (o := .stringIter σ 0) hf ⟨rfl, fun b' hb' => by cases hb'⟩ (s.nx + 1)
 have D2 := D1.put (i := t) (d := .loc s.nx 0) (v := .pointer (some ⟨w.heap.size, 0, none⟩)) ht (by simp [rep, Nm.setB])
 exact zNu (v := .pointer (some ⟨w.heap.size, 0, none⟩)) (w' := w.alloc (.stringIter σ 0)) (by simp [execOp, hv, hr, World.iter]) (hK _ _ (hn _ _ _ _ D2))
theorem zXk {t j : Nat} {x : Operand} {ty : Nat} {pos : String} {af : Array Edge} {σ : ByteArray} {p : Nat} (hx : ev s x = .loc j 0) (ho : lkO s.ow j = some (zXh σ p)) (ht : Nat.blt t s.n = true)
  (ha : ∀ i (h : i < σ.size), (σ[i]'h).toNat < 128)
  (h1 : ¬ p < σ.size → zAi P F w0 ops Q rest (s.put t (.tup [.bool false])))
  (h2 : ∀ h : p < σ.size, zAi P F w0 ops Q rest ⟨s.n, s.nx, upd s.sl t (.tup [.bool true, .int .i64 (p : Int), .int .i32 ((σ[p]'h).toNat : Int)]), upd s.ow j (zXh σ (p + 1))⟩) :
  zAi P F w0 ops Q (⟨some t, .next x true, ty, pos, af, none⟩ :: rest) s := fun h e a w D => by
 have hv := D.ev x
 rw [hx] at hv
 simp only [rep] at hv
 obtain ⟨o, o1, o2⟩ := D.own j _ ho
 obtain ⟨rfl, -⟩ := (show o = .stringIter σ p ∧ _ from o2)
 refine zAf rfl fun K hK => ?_
 by_cases hp : p < σ.size
 ·have r := zJf (P := P) w (e.bs j) σ p ty o1 hp (ha p hp)
  have D2 := D.setMp (m' := ⟨none, 0, fun _ => false, fun _ => .any, some (.raw (.stringIter σ (p + 1)) none)⟩) (o' := .stringIter σ (p + 1)) ho o1 ⟨rfl, fun b' hb' => by cases hb'⟩
  have D3 := D2.put (i := t) (d := .tup [.bool true, .int .i64 (p : Int), .int .i32 ((σ[p]'hp).toNat : Int)]) (v := .tuple #[.bool true, .int .i64 p, .int .i32 (σ[p]'hp).toNat]) (zAm ht) (by
   simp only [rep, repT];exact ⟨[.bool true, .int .i64 p, .int .i32 (σ[p]'hp).toNat], rfl, _, _, rfl, rfl, _, _, rfl, rfl, _, _, rfl, rfl, rfl⟩)
  exact zNu (by simp [execOp, hv, r]) (hK _ _ (h2 hp _ _ _ _ D3))
 ·have r := zK7 (P := P) w (e.bs j) σ p ty o1 hp
  exact zD3 (v := .tuple #[.bool false]) (by simp [execOp, hv, r]) (hK _ _ (h1 hp _ _ _ _ (D.put (zAm ht) (by simp [rep, repT]))))
end
end Go.Sx
namespace Go.Sx
open Go.RowKit
def apN (P : Program) (s : St) (T : Nat) (x y : SD) : Option (List Prop × List (Nat × Option OB) × OB) :=
 bif Nat.beq (kdT P T) 1 then
  match elT P T with
  | some te => bif Nat.ble 1 (szT P te) && Nat.ble 1 (byT P te) && Nat.ble (byT P te) 2048 && zBi P te then
    match yA2 (szT P te) y with
    | some (m, g) => match x with
     | .nils => some ([m ≤ 68719476736], [], .acc te (szT P te) m g)
     | .acc k => match lkO s.ow k with
      | some (.acc te' es' n f) => bif Nat.beq te te' && Nat.beq (szT P te) es' then
        some ([n + m ≤ 68719476736], [(k, none)], .acc te (szT P te) (n + m) (zA3 n f g)) else none
      | _ => none
     | _ => none
    | none => none
   else none
  | none => none
 else none
def zLb (kill : Option Nat) (l : List (Nat × OB)) : List (Nat × OB) :=
 match kill with
 | some k => del l k
 | none => l
theorem zOi (kill : Option Nat) (l : List (Nat × OB)) (j : Nat) : lkO (zLb kill l) j = if kill = some j then none else lkO l j := by
 cases kill with
 | none => simp [zLb]
 | some k =>
  simp only [zLb, zP2, zz1];by_cases h : j = k
  ·subst h; simp
  ·have : ¬ k = j := fun e => h e.symm
   simp [h, this]
section
variable {P : Program} {F : List Nat} {w0 : Base} {s : St} {h : Hp} {e : Nm} {a : Act} {w : World}
theorem Den.accN (D : Den F w0 s h e a w) {k : Nat} {kill : Option Nat} (hf : Free s k) {T es n : Nat} {f : Nat → SD} {v' : Value} {w' : World} {row : Option Nat} (h1 : zDp h (e.setH k v') w' k (.acc T es n f))
  (hrow : ∀ b, row = some b → (w0.w.heap.size ≤ b ∨ (b ∈ F ∧ 700 ≤ k)) ∧ h b = none ∧ ∀ j o', kill ≠ some j → lkO s.ow j = some o' → o'.blk e j ≠ some b)
  (hblk : ∀ b, v'.ownBlock = some b → row = some b ∨ b = w.heap.size) (hg : Grw w w' row) :
  Den F w0 { s with ow := upd (zLb kill s.ow) k (.acc T es n f) } h (e.setH k v') a w' := by
 have he := e.but_setH k v'
 have hfresh : h w.heap.size = none := by
  cases hx : h w.heap.size with
  | none => rfl
  | some o => have := (Array.getElem?_eq_some_iff.1 (D.sub _ _ hx)).1; omega
 have keep : ∀ b, b < w.heap.size → row ≠ some b → w'.heap[b]? = w.heap[b]? := fun b hb hne => hg.block b hb (fun hc => hne hc.symm)
 have hlk : ∀ j o, j ≠ k → lkO (upd (zLb kill s.ow) k (.acc T es n f)) j = some o → kill ≠ some j ∧ lkO s.ow j = some o := fun j o hj ho => by
  rw [zA2] at ho;simp only [hj, if_false, zOi] at ho;by_cases hk : kill = some j
  ·simp [hk] at ho
  ·simp only [hk, if_false] at ho; exact ⟨hk, ho⟩
 have other : ∀ j o, kill ≠ some j → lkO s.ow j = some o → ∀ b, o.blk e j = some b → b < w.heap.size ∧ row ≠ some b := fun j o hj ho b hb => ⟨zD9 (D.own j o ho) hb, fun hc => (hrow b hc).2.2 j o hj ho hb⟩
 have hmine : ∀ b, v'.ownBlock = some b → (w0.w.heap.size ≤ b ∨ (b ∈ F ∧ 700 ≤ k)) ∧ h b = none ∧ ∀ j o', kill ≠ some j → lkO s.ow j = some o' → o'.blk e j ≠ some b := fun b hb => by
  rcases hblk b hb with hr | hr
  ·exact hrow b hr
  ·subst hr
   exact ⟨.inl D.keeps.size, hfresh, fun j o' hj ho hc => by have := (other j o' hj ho _ hc).1; omega⟩
 have hkk : ∀ o, lkO (upd (zLb kill s.ow) k (.acc T es n f)) k = some o → o = .acc T es n f := fun o ho => by
  rw [zA2] at ho;simp only [if_true, zz1] at ho;exact ho.symm
 refine ⟨D.defers, D.size, fun t => zDo he _ _ (hf.sl t) (D.slot t), fun j x hj => ?_, fun j x b hj hb => ?_, fun j j' o1 o2 b hne hj hj' hb => ?_, fun b x hx => ?_, ?_, D.le, D.neww, D.fix⟩
 ·by_cases hjk : j = k
  ·subst hjk; rw [hkk x hj]; exact h1
  ·obtain ⟨q1, q2⟩ := hlk j x hjk hj
   obtain ⟨_, m1, m2⟩ := hf.ow j x q2;exact zJp he hjk m1 m2 (zDi (Le.refl h) (fun b hb => keep b (other j x q1 q2 b hb).1 (other j x q1 q2 b hb).2) (D.own j x q2))
 ·by_cases hjk : j = k
  ·subst hjk
   rw [hkk x hj] at hb;simp only [OB.blk, Nm.setH, if_true] at hb;exact ⟨(hmine b hb).1, (hmine b hb).2.1⟩
  ·obtain ⟨q1, q2⟩ := hlk j x hjk hj
   rw [zBv he hjk] at hb;exact D.ownb j x b q2 hb
 ·by_cases hjk : j = k
  ·subst hjk
   have hjk' : j' ≠ j := fun x => hne x.symm;obtain ⟨q1, q2⟩ := hlk j' o2 hjk' hj';rw [hkk o1 hj] at hb;simp only [OB.blk, Nm.setH, if_true] at hb;rw [zBv he hjk'];exact (hmine b hb).2.2 j' o2 q1 q2
  ·obtain ⟨q1, q2⟩ := hlk j o1 hjk hj
   rw [zBv he hjk] at hb;by_cases hjk' : j' = k
   ·subst hjk'
    rw [hkk o2 hj'];simp only [OB.blk, Nm.setH, if_true];exact fun hc => (hmine b hc).2.2 j o1 q1 q2 hb
   ·obtain ⟨q3, q4⟩ := hlk j' o2 hjk' hj'
    rw [zBv he hjk'];exact D.apart j j' o1 o2 b hne q2 q4 hb
 ·have hlt := (Array.getElem?_eq_some_iff.1 (D.sub _ _ hx)).1
  rw [keep b hlt (fun hc => by have := (hrow b hc).2.1; rw [this] at hx; cases hx)];exact D.sub b x hx
 ·refine ⟨hg.os.trans D.keeps.os, hg.tape.trans D.keeps.tape, hg.output.trans D.keeps.output, Nat.le_trans D.keeps.size hg.size, Nat.le_trans D.keeps.dr hg.dr, fun b hb hF => ?_⟩
  rw [keep b (Nat.lt_of_lt_of_le hb D.keeps.size) (fun hc => ?_)]
  ·exact D.keeps.block b hb hF
  ·rcases (hrow b hc).1 with hx | hx
   ·omega
   ·exact hF hx.1
theorem zZl (D : Den F w0 s h e a w) {t T nx : Nat} (ht : t < s.n) (hF : Free s nx) {x y : Operand} {tys : Array Nat} {ty : Nat} {pos : String} {af : Array Edge} {g : Option (Nat × Bool)} {p : List Prop} {u : List (Nat × Option OB)} {ob : OB} (htys : tys = #[T, T]) {dx : SD} (hdx : rep h dx e (a.eval x))
  (hq : apN P s T dx (ev s y) = some (p, u, ob)) (hp : zAn p) (hsd : ∀ k ob', u = [(k, ob')] → k < 700 ∨ 700 ≤ nx) (K : Act → World → Prop) (Q : Exit → Act → World → Prop) (hK : ∀ h' e' a' w', Den F w0 ⟨s.n, s.nx, upd s.sl t (.acc nx), zNg ((nx, some ob) :: u) s.ow⟩ h' e' a' w' → K a' w') :
  (⟨some t, .call ⟨.builtin .append, #[x, y], tys⟩, ty, pos, af, g⟩ : Oper).wp P a w K Q := by
 subst htys
 unfold apN at hq
 cases hk : Nat.beq (kdT P T) 1
 ·rw [hk] at hq; cases hq
 ·rw [hk] at hq
  simp only [cond_true] at hq;obtain ⟨te, hu⟩ := zPb hk;split at hq
  ·rename_i te' hte
   have := zBr hu hte;subst this;cases hb : (Nat.ble 1 (szT P te') && Nat.ble 1 (byT P te') && Nat.ble (byT P te') 2048 && zBi P te')
   ·rw [hb] at hq; cases hq
   ·rw [hb] at hq
    simp only [cond_true] at hq;simp only [zz3] at hb;obtain ⟨⟨⟨b1, b2⟩, b4⟩, b3⟩ := hb;have b4 := Nat.le_of_ble_eq_true b4;have b1 := Nat.le_of_ble_eq_true b1;have b2 := Nat.le_of_ble_eq_true b2;obtain ⟨m0, hm0⟩ : ∃ m, szT P te' = m + 1 := ⟨szT P te' - 1, by omega⟩;obtain ⟨i, hi, hs⟩ := zAl hm0;have hes : szT P te' = i.size := by omega
    have hby : byT P te' = i.bytes := by simp [byT, Program.bytesOf, hi]
    split at hq
    ·rename_i m gf hsrc
     obtain ⟨ao, c, hyv, hao, hml, news, hnl, hnc, hn1, hng⟩ := zPl D.sub (D.ev y) hsrc;cases hz : i.zero with
     | none => simp [zBi, hi, hz] at b3
     | some z =>
      have hzs : z.cells.size = i.size := by
       simp only [zBi, hi, Option.bind_some, hz, zz3] at b3;rw [← hes];exact zz4 b3.1
      have run : ∀ (v : Value) (n : Nat) (xs : List Value), w.ownsRow 0 te' i.size v n xs → n + m ≤ 68719476736 →
        ∃ v' w', (Builtin.append_ #[T, T] ty #[v, .slice ao m c]).run P w = .ok v' w' ∧ w'.ownsRow 0 te' i.size v' (n + m) (xs ++ news) ∧ Grw w w' v.ownBlock ∧ (v'.ownBlock = v.ownBlock ∨ v'.ownBlock = some w.heap.size) := fun v n xs hown hbn => by
       have hbytes : (n + m) * i.bytes ≤ 140737488355328 := by
        have : (n + m) * i.bytes ≤ 68719476736 * 2048 := Nat.mul_le_mul hbn (by rw [← hby]; exact b4);omega
       have h63 : n + m ≤ maxLen := by
        simp only [maxLen]; omega
       cases ao with
       | some ad =>
        obtain ⟨v', w', r1, r2, r3, _, r5⟩ := run_append_own_at (P := P) w 0 T ty te' i z i.size i.bytes hu hi hz rfl rfl hzs (by omega) v n xs hown ad m c news (by rw [← hes]; exact hnl) (hnc ad rfl) hn1 h63 hbytes (Nat.zero_le _);exact ⟨v', w', r1, r2, ⟨r3, zUx _ _ _ _ r1⟩, r5⟩
       | none =>
        have hm := hao rfl;subst hm;have hnn : news = [] := List.eq_nil_of_length_eq_zero (by simpa using hnl);subst hnn;refine ⟨v, w, ?_, by simpa using hown, ⟨⟨rfl, rfl, rfl, Nat.le_refl _, fun _ _ _ => rfl⟩, Nat.le_refl _⟩, .inl rfl⟩
        rcases hown.2 with ⟨rfl, rfl⟩ | ⟨g, cap, cur, rfl, _, _, hnc', _⟩
        ·simp [Builtin.append_, run_underlying hu, sizeOf, typeInfo, hi, Builtin.lenOf, Builtin.firstCells]
        ·simp [Builtin.append_, run_underlying hu, sizeOf, typeInfo, hi, Builtin.lenOf, Builtin.firstCells, hnc', storeCells]
      have hexec : ∀ (v : Value), a.eval x = v → ∀ v' w', (Builtin.append_ #[T, T] ty #[v, .slice ao m c]).run P w = .ok v' w' → (execOp a.eval ⟨some t, .call ⟨.builtin .append, #[x, y], #[T, T]⟩, ty, pos, af, g⟩).run P w = .ok (.value v') w' := fun v hv v' w' hr => by
       simp only [execOp, resolve, invoke, builtin, Sem.run_bind, Sem.run_pure, Result.andThen_ok, List.map_toArray, List.map_cons, List.map_nil, hv, hyv, hr]
      have hxv := hdx;split at hq
      ·simp only [rep] at hxv
       simp only [zz1, Prod.mk.injEq] at hq;obtain ⟨rfl, rfl, rfl⟩ := hq;simp only [zAn] at hp;obtain ⟨v', w', r1, r2, r3, r4⟩ := run (.slice none 0 0) 0 [] (World.ownsRow_nil w 0 te' i.size) (by simpa using hp.1);unfold Oper.wp;rw [hexec _ hxv v' w' r1];have D1 := D.accN (k := nx) (kill := none) (T := te') (es := szT P te') (n := m) (f := gf) (v' := v') (w' := w') (row := none) hF ?_ (fun b hb => by cases hb) (fun b hb => ?_) (by simpa [Value.ownBlock] using r3)
       ·have D2 := D1.put (i := t) (d := .acc nx) (v := v') ht ?_
        ·exact hK _ _ _ _ (D2.congr rfl (fun _ => rfl) fun _ => rfl)
        ·simp only [rep, Nm.setH, if_true]
         refine ⟨trivial, ?_⟩
         rcases r2.2 with ⟨hv, _⟩ | ⟨g, cap, cur, hv, _⟩
         ·exact ⟨none, 0, 0, hv⟩
         ·exact ⟨_, _, _, hv⟩
       ·refine ⟨news, ?_, hp.1, ?_⟩
        ·simp only [Nm.setH, if_true]
         rw [hes];simpa using r2
        ·rw [hes] at hng ⊢; exact hng
       ·rcases r4 with hr | hr
        ·rw [hr] at hb; simp [Value.ownBlock] at hb
        ·rw [hr] at hb; cases hb; exact .inr rfl
      ·rename_i k
       simp only [rep] at hxv;split at hq
       ·rename_i te2 es2 n f ho
        cases hfr : (Nat.beq te' te2 && Nat.beq (szT P te') es2)
        ·rw [hfr] at hq; cases hq
        ·rw [hfr] at hq
         simp only [cond_true, zz1, Prod.mk.injEq] at hq;obtain ⟨rfl, rfl, rfl⟩ := hq;simp only [zz3] at hfr;obtain ⟨f1, f2⟩ := hfr;have f1 := zz4 f1;have f2 := zz4 f2;subst f1 f2;simp only [zAn] at hp;obtain ⟨xs, o1, o2, o3⟩ := D.own k _ ho;have hxl := o1.1;obtain ⟨v', w', r1, r2, r3, r4⟩ := run (e.hd k) n xs (by rw [← hes]; exact o1) hp.1;unfold Oper.wp;rw [hexec _ hxv.1 v' w' r1];have h63 : n + m ≤ maxN := hp.1;have D1 := D.accN (k := nx) (kill := some k) (T := te') (es := szT P te') (n := n + m) (f := zA3 n f gf) (v' := v') (w' := w') (row := (e.hd k).ownBlock) hF ?_ (fun b hb => ?_) (fun b hb => ?_) r3
         ·have D2 := D1.put (i := t) (d := .acc nx) (v := v') ht ?_
          ·exact hK _ _ _ _ (D2.congr rfl (fun _ => rfl) fun _ => rfl)
          ·simp only [rep, Nm.setH, if_true]
           refine ⟨trivial, ?_⟩
           rcases r2.2 with ⟨hv, _⟩ | ⟨g, cap, cur, hv, _⟩
           ·exact ⟨none, 0, 0, hv⟩
           ·exact ⟨_, _, _, hv⟩
         ·refine ⟨xs ++ news, ?_, h63, zV8 (es := szT P te') hxl ?_ ?_⟩
          ·simp only [Nm.setH, if_true]
           rw [hes];exact r2
          ·exact o3
          ·exact hng
         ·have hbk : (OB.acc te' (szT P te') n f).blk e k = some b := by simpa [OB.blk] using hb
          refine ⟨?_, (D.ownb k _ b ho hbk).2, fun j o' hjk hj hc => ?_⟩
          ·rcases (D.ownb k _ b ho hbk).1 with hx | hx
           ·exact .inl hx
           ·rcases hsd k none rfl with hh | hh
            ·have := hx.2; omega
            ·exact .inr ⟨hx.1, hh⟩
          ·exact D.apart j k o' _ b (fun hc => hjk (by rw [hc])) hj ho hc hbk
         ·rcases r4 with hr | hr
          ·rw [hr] at hb; exact .inl hb
          ·rw [hr] at hb; cases hb; exact .inr rfl
       ·cases hq
      ·cases hq
    ·cases hq
  ·cases hq
variable {Q : Exit → Act → World → Prop} {l : List Oper} {s0 : St} {rs : List Rec} {id : Nat} {rest : List Oper}
def apK (s : St) : List (Nat × Option OB) → Nat
 | (k, _) :: _ => bif Nat.blt k 700 then s.nx else s.nx + 700
 | [] => s.nx
theorem zNh {s : St} {u : List (Nat × Option OB)} : ∀ k ob', u = [(k, ob')] → k < 700 ∨ 700 ≤ apK s u := fun k ob' hu => by
 subst hu
 simp only [apK]
 cases hb : Nat.blt k 700
 ·exact .inr (Nat.le_add_left _ _)
 ·exact .inl (zAm hb)
def zS0 (s : St) (t : Nat) (x y : Operand) (u : List (Nat × Option OB)) (ob : OB) : Rec :=
 ⟨zBf s (tmpsOf [x, y]), keysA s [x, y] s.ow, some t, .acc (apK s u), (apK s u, some ob) :: u, [apK s u]⟩
def apS (s : St) (t : Nat) (u : List (Nat × Option OB)) (ob : OB) : Option St :=
 bif Nat.blt t s.n then some ⟨s.n, s.nx + 1, upd s.sl t (.acc (apK s u)), zNg ((apK s u, some ob) :: u) s.ow⟩ else none
theorem zO7 {σ : St} {T : Nat} {x y : SD} {r : List Prop × List (Nat × Option OB) × OB} (hm : OwM s σ x) (hq : apN P s T x y = some r) : apN P σ T x y = some r := by
 unfold apN at hq ⊢
 cases hk : Nat.beq (kdT P T) 1
 ·rw [hk] at hq; exact hq
 ·rw [hk] at hq
  simp only [cond_true] at hq ⊢;split at hq
  ·rename_i te hte
   revert hq
   cases (Nat.ble 1 (szT P te) && Nat.ble 1 (byT P te) && Nat.ble (byT P te) 2048 && zBi P te)
   ·exact id
   ·simp only [cond_true]
    cases yA2 (szT P te) y with
    | none => exact id
    | some p =>
     obtain ⟨m, g⟩ := p;cases x <;> try exact id
     rename_i k;intro hq;simp only at hq ⊢;cases ho : lkO s.ow k with
     | none => rw [ho] at hq; cases hq
     | some o => rw [hm k o (by simp [men]) ho]; rw [ho] at hq; exact hq
  ·cases hq
theorem zF0 {t T : Nat} {x y : Operand} {ty : Nat} {pos : String} {af : Array Edge} {p : List Prop} {u : List (Nat × Option OB)} {ob : OB} {s' : St} (hq : apN P s T (ev s x) (ev s y) = some (p, u, ob)) (hp : zAn p) (hs : apS s t u ob = some s')
  (hn : zAy P F w0 Q id l s0 (rs ++ [zS0 s t x y u ob]) rest s') : zAy P F w0 Q id l s0 rs (⟨some t, .call ⟨.builtin .append, #[x, y], #[T, T]⟩, ty, pos, af, none⟩ :: rest) s := fun K => by
 unfold apS at hs
 cases hb : Nat.blt t s.n
 ·rw [hb] at hs; cases hs
 rw [hb] at hs
 simp only [cond_true, zz1] at hs
 subst hs
 have g1 : ∀ p ∈ (zS0 s t x y u ob).slots, lkp s.sl p.1 = p.2 := zBe
 have g2 : ∀ p ∈ (zS0 s t x y u ob).keys, lkO s.ow p.1 = some p.2 := zDd
 refine hn (K.snoc g1 g2 (fun σ hn h1 h2 h3 h e a w D K Q hK => ?_) ⟨rfl, fun _ => rfl, fun _ => rfl⟩)
 rw [if_pos (by simp [Region.wanted])]
 have hev := zBb (s := s) (s' := σ) (l := [x, y]) h1
 have e1 := hev x (by simp)
 have e2 := hev y (by simp)
 have hm : OwM s σ (ev s x) := fun k o hm ho => h2 (k, o) (zCj (by simp [zRh, hm]) ho)
 refine zZl D (by rw [hn]; exact zAm hb) (h3 (apK s u) (by simp [zS0])) rfl (D.ev x) (by rw [e1, e2]; exact zO7 hm hq) hp zNh K Q fun h' e' a' w' D' => hK h' e' a' w' D'
def zEp (k m : Nat) : Bool := !Nat.beq m k
def swp (j k m : Nat) : Nat := bif Nat.beq m j then k else m
def yBl (σ : Nat → Nat) : List (Nat × SD) → List (Nat × SD)
 | [] => []
 | (i, d) :: r => (i, ren σ d) :: yBl σ r
theorem zJt (σ : Nat → Nat) : ∀ (l : List (Nat × SD)) (t : Nat), lkp (yBl σ l) t = ren σ (lkp l t)
 | [], t => rfl
 | (i, d) :: r, t => by
  simp only [yBl, lkp];cases Nat.beq i t
  ·exact zJt σ r t
  ·rfl
def yD6 (s : St) (j k : Nat) : Option St :=
 bif Nat.blt j 700 && Nat.blt k 700 && !Nat.beq j k && zEa (zEp k) (zEp k) s.ow then
  some ⟨s.n, s.nx, yBl (swp j k) (zPs (zEp k) (zEp k) s.sl), zF2 (swp j k) (zS2 (zEp k) (zEp k) [k] 0 0 s.ow)⟩ else none
def Nm.mov (e : Nm) (j k : Nat) : Nm := ⟨fun m => if m = k then e.bs j else e.bs m, fun m => if m = k then e.hd j else e.hd m⟩
theorem Den.ren (D : Den F w0 s h e a w) {j k : Nat} {s' : St} (hq : yD6 s j k = some s') : Den F w0 s' h (e.mov j k) a w := by
 unfold yD6 at hq
 cases hb : (Nat.blt j 700 && Nat.blt k 700 && !Nat.beq j k && zEa (zEp k) (zEp k) s.ow)
 ·rw [hb] at hq; cases hq
 rw [hb] at hq
 simp only [cond_true, zz1] at hq
 subst hq
 simp only [zz3, Bool.not_eq_true'] at hb
 obtain ⟨⟨⟨b1, b2⟩, b3⟩, b4⟩ := hb
 have b1 := zAm b1
 have b2 := zAm b2
 have b3 := zB2 b3
 have ag : e.agr (zEp k) (zEp k) ((e.mov j k).via (swp j k)) := by
  have key : ∀ m, zEp k m = true → m ≠ k := fun m hm hc => by subst hc; simp [zEp] at hm
  refine ⟨fun m hm => ?_, fun m hm => ?_⟩
  ·have hmk := key m hm
   by_cases hmj : m = j
   ·subst hmj; simp [Nm.via, swp, Nm.mov]
   ·simp [Nm.via, swp, zGu hmj, Nm.mov, hmk]
  ·have hmk := key m hm
   by_cases hmj : m = j
   ·subst hmj; simp [Nm.via, swp, Nm.mov]
   ·simp [Nm.via, swp, zGu hmj, Nm.mov, hmk]
 have slotP : ∀ t, rep h (lkp (zPs (zEp k) (zEp k) s.sl) t) e (a.tmps.getD t undef) ∧ zDn (zEp k) (zEp k) (lkp (zPs (zEp k) (zEp k) s.sl) t) = true := fun t => by
  rw [zGk];cases hx : zDn (zEp k) (zEp k) (lkp s.sl t)
  ·exact ⟨by simp [rep], rfl⟩
  ·exact ⟨D.slot t, hx⟩
 have obj : ∀ m o, lkO (zF2 (swp j k) (zS2 (zEp k) (zEp k) [k] 0 0 s.ow)) m = some o → ∃ m0 o1 o0, swp j k m0 = m ∧ m0 ≠ k ∧ lkO s.ow m0 = some o0 ∧ OLe o0 o1 ∧ zGa (zEp k) (zEp k) o1 = true ∧ o = zJo (swp j k) o1 := fun m o ho => by
  obtain ⟨m0, o1, q1, q2, q3⟩ := zE1 ho;obtain ⟨q4, _, o0, q5, q6, q7⟩ := zGm b4 q2;exact ⟨m0, o1, o0, q1, fun hc => q4 (by rw [hc]; simp), q5, q6, q7, q3⟩
 have self : ∀ m0 (o1 : OB), m0 ≠ k → (bif o1.isAcc then zEp k m0 else zEp k m0) = true := fun m0 o1 hm => by
  have : Nat.beq m0 k = false := zGu hm;cases o1.isAcc <;> simp [zEp, this]
 have blk : ∀ m0 (o1 o0 : OB), m0 ≠ k → OLe o0 o1 → (zJo (swp j k) o1).blk (e.mov j k) (swp j k m0) = o0.blk e m0 := fun m0 o1 o0 hm hle => by
  rw [zQh, zKv ag o1 (self m0 o1 hm), hle.blk]
 refine ⟨D.defers, D.size, fun t => ?_, fun m o ho => ?_, fun m o b ho hbl => ?_, fun m m' o o' b hne ho ho' hbl => ?_, D.sub, D.keeps, D.le, D.neww, fun i b hib => ?_⟩
 ·rw [zJt]
  exact (zCx _ _).2 (zEo ag _ _ (slotP t).2 (slotP t).1)
 ·obtain ⟨m0, o1, o0, q1, q2, q3, q4, q5, q6⟩ := obj m o ho
  subst q1 q6;exact (zH7 o1).2 (zGi ag o1 (self m0 o1 q2) q5 (q4.ok (D.own m0 o0 q3)))
 ·obtain ⟨m0, o1, o0, q1, q2, q3, q4, q5, q6⟩ := obj m o ho
  subst q1 q6;rw [blk m0 o1 o0 q2 q4] at hbl;obtain ⟨r1, r2⟩ := D.ownb m0 o0 b q3 hbl;refine ⟨?_, r2⟩
  rcases r1 with r1 | ⟨r1, r3⟩
  ·exact .inl r1
  ·refine .inr ⟨r1, ?_⟩
   have : m0 ≠ j := fun hc => by omega
   simp only [swp, zGu this, cond_false];exact r3
 ·obtain ⟨m0, o1, o0, q1, q2, q3, q4, q5, q6⟩ := obj m o ho
  obtain ⟨m0', o1', o0', q1', q2', q3', q4', q5', q6'⟩ := obj m' o' ho';subst q1 q6 q1' q6';rw [blk m0 o1 o0 q2 q4] at hbl;rw [blk m0' o1' o0' q2' q4'];exact D.apart m0 m0' o0 o0' b (fun hc => hne (by rw [hc])) q3 q3' hbl
 ·have : ¬ 1000 + i = k := by omega
  simp only [Nm.mov, this, if_false];exact D.fix i b hib
theorem zFa (j k : Nat) {s' : St} {fin : Exit → Act → World → Prop} {kl : List It} (hq : yD6 s j k = some s') (hn : Run P F w0 fin kl s') : Run P F w0 fin kl s := fun _ _ _ _ D => hn _ _ _ _ (D.ren hq)
def zRu : Option OB → Bool
 | some (.acc ..) => true
 | _ => false
def zPc (j k m : Nat) : Bool := !Nat.beq m k && !Nat.beq m j
def zX7 (s : St) (j k : Nat) : Option St :=
 bif Nat.ble 700 k && !Nat.beq j k && zRu (lkO s.ow j) && zEa (zPc j k) (zEp k) s.ow then
  some ⟨s.n, s.nx, yBl (swp j k) (zPs (zPc j k) (zEp k) s.sl), zF2 (swp j k) (zS2 (zPc j k) (zEp k) [k] 0 0 s.ow)⟩ else none
def Nm.movH (e : Nm) (j k : Nat) : Nm := ⟨e.bs, fun m => if m = k then e.hd j else e.hd m⟩
theorem Den.renH (D : Den F w0 s h e a w) {j k : Nat} {s' : St} (hq : zX7 s j k = some s') : Den F w0 s' h (e.movH j k) a w := by
 unfold zX7 at hq
 cases hb : (Nat.ble 700 k && !Nat.beq j k && zRu (lkO s.ow j) && zEa (zPc j k) (zEp k) s.ow)
 ·rw [hb] at hq; cases hq
 rw [hb] at hq
 simp only [cond_true, zz1] at hq
 subst hq
 simp only [zz3, Bool.not_eq_true'] at hb
 obtain ⟨⟨⟨b1, b3⟩, b2⟩, b4⟩ := hb
 have b1 := Nat.le_of_ble_eq_true b1
 have b3 := zB2 b3
 have key : ∀ m, zEp k m = true → m ≠ k := fun m hm hc => by subst hc; simp [zEp] at hm
 have key2 : ∀ m, zPc j k m = true → m ≠ k ∧ m ≠ j := fun m hm => by
  simp only [zPc, zz3, Bool.not_eq_true'] at hm;exact ⟨zB2 hm.1, zB2 hm.2⟩
 have ag : e.agr (zPc j k) (zEp k) ((e.movH j k).via (swp j k)) := by
  refine ⟨fun m hm => ?_, fun m hm => ?_⟩
  ·obtain ⟨h1, h2⟩ := key2 m hm
   simp [Nm.via, swp, zGu h2, Nm.movH]
  ·have hmk := key m hm
   by_cases hmj : m = j
   ·subst hmj; simp [Nm.via, swp, Nm.movH]
   ·simp [Nm.via, swp, zGu hmj, Nm.movH, hmk]
 have slotP : ∀ t, rep h (lkp (zPs (zPc j k) (zEp k) s.sl) t) e (a.tmps.getD t undef) ∧ zDn (zPc j k) (zEp k) (lkp (zPs (zPc j k) (zEp k) s.sl) t) = true := fun t => by
  rw [zGk];cases hx : zDn (zPc j k) (zEp k) (lkp s.sl t)
  ·exact ⟨by simp [rep], rfl⟩
  ·exact ⟨D.slot t, hx⟩
 have obj : ∀ m o, lkO (zF2 (swp j k) (zS2 (zPc j k) (zEp k) [k] 0 0 s.ow)) m = some o → ∃ m0 o1 o0, swp j k m0 = m ∧ m0 ≠ k ∧ lkO s.ow m0 = some o0 ∧ OLe o0 o1 ∧ zGa (zPc j k) (zEp k) o1 = true ∧ o = zJo (swp j k) o1 := fun m o ho => by
  obtain ⟨m0, o1, q1, q2, q3⟩ := zE1 ho;obtain ⟨q4, _, o0, q5, q6, q7⟩ := zGm b4 q2;exact ⟨m0, o1, o0, q1, fun hc => q4 (by rw [hc]; simp), q5, q6, q7, q3⟩
 have self : ∀ m0 (o1 o0 : OB), m0 ≠ k → lkO s.ow m0 = some o0 → OLe o0 o1 → (bif o1.isAcc then zEp k m0 else zPc j k m0) = true := fun m0 o1 o0 hm hl hle => by
  have h1 : Nat.beq m0 k = false := zGu hm;cases hia : o1.isAcc
  ·by_cases hmj : m0 = j
   ·subst hmj
    rw [hl] at b2;exfalso;cases o0 <;> simp only [zRu, Bool.false_eq_true] at b2
    cases o1 <;> simp only [OB.isAcc, Bool.true_eq_false] at hia <;> simp [OLe] at hle
   ·simp [zPc, h1, zGu hmj]
  ·simp [zEp, h1]
 have blk : ∀ m0 (o1 o0 : OB), m0 ≠ k → lkO s.ow m0 = some o0 → OLe o0 o1 → (zJo (swp j k) o1).blk (e.movH j k) (swp j k m0) = o0.blk e m0 := fun m0 o1 o0 hm hl hle => by
  rw [zQh, zKv ag o1 (self m0 o1 o0 hm hl hle), hle.blk]
 refine ⟨D.defers, D.size, fun t => ?_, fun m o ho => ?_, fun m o b ho hbl => ?_, fun m m' o o' b hne ho ho' hbl => ?_, D.sub, D.keeps, D.le, D.neww, D.fix⟩
 ·rw [zJt]
  exact (zCx _ _).2 (zEo ag _ _ (slotP t).2 (slotP t).1)
 ·obtain ⟨m0, o1, o0, q1, q2, q3, q4, q5, q6⟩ := obj m o ho
  subst q1 q6;exact (zH7 o1).2 (zGi ag o1 (self m0 o1 o0 q2 q3 q4) q5 (q4.ok (D.own m0 o0 q3)))
 ·obtain ⟨m0, o1, o0, q1, q2, q3, q4, q5, q6⟩ := obj m o ho
  subst q1 q6;rw [blk m0 o1 o0 q2 q3 q4] at hbl;obtain ⟨r1, r2⟩ := D.ownb m0 o0 b q3 hbl;refine ⟨?_, r2⟩
  rcases r1 with r1 | ⟨r1, r3⟩
  ·exact .inl r1
  ·refine .inr ⟨r1, ?_⟩
   by_cases hmj : m0 = j
   ·subst hmj; simp only [swp, Nat.beq_refl, cond_true]; exact b1
   ·simp only [swp, zGu hmj, cond_false]; exact r3
 ·obtain ⟨m0, o1, o0, q1, q2, q3, q4, q5, q6⟩ := obj m o ho
  obtain ⟨m0', o1', o0', q1', q2', q3', q4', q5', q6'⟩ := obj m' o' ho';subst q1 q6 q1' q6';rw [blk m0 o1 o0 q2 q3 q4] at hbl;rw [blk m0' o1' o0' q2' q3' q4'];exact D.apart m0 m0' o0 o0' b (fun hc => hne (by rw [hc])) q3 q3' hbl
theorem zXz (j k : Nat) {s' : St} {fin : Exit → Act → World → Prop} {kl : List It} (hq : zX7 s j k = some s') (hn : Run P F w0 fin kl s') : Run P F w0 fin kl s := fun _ _ _ _ D => hn _ _ _ _ (D.renH hq)
end
end Go.Sx
namespace Go.Sx
open Go.RowKit
abbrev Fin := Exit → Act → World → Prop
section
variable {P : Program} {β : Type} {fin : β → List Nat → zB0 → Fin} {s : St}
def zK3 (P : Program) {β : Type} (fin : β → List Nat → zB0 → Fin) (K : Fin → List It) (s : St) : Prop := ∃ b, ∀ F w0, Run P F (zB0.std w0) (fin b F w0) (K (fin b F w0)) s
theorem zH {K K' : Fin → List It} {s' : St} (h : ∀ F w0 fn, Run P F (zB0.std w0) fn (K' fn) s' → Run P F (zB0.std w0) fn (K fn) s) (h' : zK3 P fin K' s') : zK3 P fin K s :=
 let ⟨b, hb⟩ := h'
 ⟨b, fun F w0 => h F w0 _ (hb F w0)⟩
theorem zT {K : Fin → List It} {c : Operand} {x y : Code} {t : Bool} (hc : ev s c = .bool t) (h1 : t = true → zK3 P fin (fun fn => .code x :: K fn) s) (h2 : t = false → zK3 P fin (fun fn => .code y :: K fn) s) : zK3 P fin (fun fn => .code (.cond c x y) :: K fn) s := by
 cases ht : t
 ·obtain ⟨b, hb⟩ := h2 ht
  exact ⟨b, fun F w0 => zE (hc.trans (by rw [ht])) (fun h => by cases h) fun _ => hb F w0⟩
 ·obtain ⟨b, hb⟩ := h1 ht
  exact ⟨b, fun F w0 => zE (hc.trans (by rw [ht])) (fun _ => hb F w0) fun h => by cases h⟩
def LpN (P : Program) (body : Code) (K : Fin → List It) (n : Nat) (fn : Fin) : Act → World → Prop := Code.roundsIn Fence.wide 0 P body (post P none fn (K fn)) n
def zW8 (P : Program) {β : Type} (fin : β → List Nat → zB0 → Fin) (K : Fin → List It) (body : Code) (n : Nat) (s : St) : Prop := zK3 P fin (fun fn => .lp (LpN P body K n fn) :: K fn) s
theorem zUz {K : Fin → List It} {s' : St} (hw : Wk s s') (h : zK3 P fin K s') : zK3 P fin K s := zH (fun _ _ _ h => zXx hw h) h
theorem zU4 {body : Code} {K : Fin → List It} {n : Nat} {F : List Nat} {w0 : zB0} {fn : Fin} (h : Run P F w0.std fn (.code body :: .lp (LpN P body K n fn) :: K fn) s) : Run P F w0.std fn (.lp (LpN P body K (n + 1) fn) :: K fn) s := fun h' e a w D => by
 have := h h' e a w D
 show Code.roundsIn Fence.wide 0 P body (post P none fn (K fn)) (n + 1) a w
 refine wpIn_mono this fun e a w hq => ?_
 cases e <;> exact hq
theorem zSw {body : Code} {K : Fin → List It} {n : Nat} (h : zK3 P fin (fun fn => .code body :: .lp (LpN P body K n fn) :: K fn) s) : zW8 P fin K body (n + 1) s :=
 zH (fun _ _ _ h => zU4 h) h
theorem zSv {body : Code} {K : Fin → List It} {n : Nat} (h : zW8 P fin K body n s) : zK3 P fin (fun fn => .code (.loop body) :: K fn) s :=
 zH (K' := fun fn => .lp (LpN P body K n fn) :: K fn) (fun _ _ _ h h' e a w D => wpIn_loop_rounds n (h h' e a w D)) h
theorem zHx {σ : Type} {body : Code} {K : Fin → List It} {S : σ → St} (ns : List Nat) (U : σ → List (Nat × SD)) (UO : σ → List (Nat × OB)) (I : σ → Prop) (μ : σ → Nat) (x0 : σ) (hS : ∀ x, zWc s ns U UO x = S x) (h0 : I x0)
  (hs : zQs s.sl (U x0)) (ho : zC2 s.ow (UO x0)) (hb : ∀ x n, I x → (∀ x', I x' → μ x' < μ x → zW8 P fin K body n (S x')) → zK3 P fin (fun fn => .code body :: .lp (LpN P body K n fn) :: K fn) (S x)) : zK3 P fin (fun fn => .code (.loop body) :: K fn) s := by
 have key : ∀ m x, μ x = m → I x → ∀ n, m < n → zW8 P fin K body n (S x) := by
  intro m
  induction m using Nat.strongRecOn with
  | _ m ih =>
   intro x hx hI n hn;obtain ⟨n', rfl⟩ : ∃ n', n = n' + 1 := ⟨n - 1, by omega⟩;refine zSw (hb x n' hI fun x' hI' hlt => ?_);exact ih (μ x') (by omega) x' rfl hI' n' (by omega)
 have h1 := zSv (key (μ x0) x0 rfl h0 (μ x0 + 1) (Nat.lt_succ_self _))
 refine zH (fun F w0 fn h h' e a w D => ?_) h1
 refine h h' e a w ?_
 rw [← hS x0]
 exact D.weak' rfl (zJ3 hs (zHo ns)) fun k o hk => zMp ho hk
theorem zY {σ : Type} {body : Code} {K : Fin → List It} {n : Nat} {S : σ → St} {I : σ → Prop} {μ : σ → Nat} {x : σ} (ih : ∀ x', I x' → μ x' < μ x → zW8 P fin K body n (S x')) (x' : σ) (h1 : I x') (h2 : μ x' < μ x) (h3 : Wk s (S x')) : zK3 P fin (fun fn => .lp (LpN P body K n fn) :: K fn) s :=
 zUz h3 (ih x' h1 h2)
theorem zIe {α β : Type} [Inhabited β] {f : Nat} {fn : Func} {c : Code} {n : Nat} (hcall : ∀ args w, (callFunc f args).run P w = .ok (.enter f args) w) (hf : P.funcs[f]? = some fn) (hb : fn.body = some c) (hn : fn.ntmps = n)
  (pre : α → Prop) (good : α → β → Prop) (args : α → List SD) (os : α → List OB) (res : α → β → SD) (os' : α → β → List (Nat × OB))
  (hrun : ∀ x, pre x → (args x).length ≤ n ∧ zK3 P (β := {y : β // good x y}) (fun y F w0 => bodyPost P fn (zA8 F w0 (res x y) (os' x y))) (fun _ => [.code c]) ⟨n, 0, zR4 0 (args x), zB6 1000 (os x)⟩) :
  ∃ G : α → β, (∀ x, pre x → good x (G x)) ∧ FnM P f (fun ds o d o' => ∃ x, pre x ∧ ds = args x ∧ o = os x ∧ d = res x (G x) ∧ o' = os' x (G x)) := by
 have hex : ∀ x, ∃ y : β, pre x → good x y ∧ ∀ F w0, Run P F (zB0.std w0) (bodyPost P fn (zA8 F w0 (res x y) (os' x y))) [.code c] ⟨n, 0, zR4 0 (args x), zB6 1000 (os x)⟩ := fun x => by
  by_cases hp : pre x
  ·obtain ⟨_, ⟨y, hy⟩, h⟩ := hrun x hp
   exact ⟨y, fun _ => ⟨hy, h⟩⟩
  ·exact ⟨default, fun h => absurd h hp⟩
 refine ⟨fun x => Classical.choose (hex x), fun x hx => (Classical.choose_spec (hex x) hx).1, zBq hcall hf hb hn ?_⟩
 rintro ds o d o' ⟨x, hx, rfl, rfl, rfl, rfl⟩
 exact ⟨(hrun x hx).1, (Classical.choose_spec (hex x) hx).2⟩
def zZt (F : List Nat) (w0 : zB0) (d : SD) : Ending → World → Prop := fun en w' => F = [] → zD6 w0 d en w'
theorem zXy {F : List Nat} {w0 : zB0} {k : List It} {fn : Func} {l : List ResultVar} {ds : List SD} {d : SD} (hr : fn.results = l.toArray) (hq : zN7 P s l = some ds) (hd : zAc (zLm ds) d) : Run P F w0.std (bodyPost P fn (zZt F w0 d)) (.code .ret :: k) s := by
 by_cases hF : F = []
 ·subst hF
  have h := yA (P := P) (s := s) (b0 := w0) (k := k) hr hq hd;have e1 : zZt [] w0 d = zD6 w0 d := by funext en w'; simp [zZt]
  rw [e1];exact h
 ·intro h e a w D
  refine wpIn_ret (zCc ?_);obtain ⟨vs, g1, g2⟩ := zKa (P := P) D hq
  have hres : (results fn a.tmps).run P w = .ok (if hz : vs.toArray.size = 1 then vs.toArray[0] else .tuple vs.toArray) w := by
   rw [zEe, hr];simp only [List.mapM_toArray, Sem.run_bind];rw [map_eq_pure_bind];simp only [Sem.run_bind, g2, Result.andThen_ok, Sem.run_pure]
  exact bodyPost_ret hres D.defers fun hc => absurd hc hF
theorem zI1 {α β : Type} [Inhabited β] {f : Nat} {fn : Func} {c : Code} {n : Nat} (hcall : ∀ args w, (callFunc f args).run P w = .ok (.enter f args) w) (hf : P.funcs[f]? = some fn) (hb : fn.body = some c) (hn : fn.ntmps = n)
  (pre : α → Prop) (good : α → β → Prop) (args : α → List SD) (res : α → β → SD)
  (hrun : ∀ x, pre x → (args x).length ≤ n ∧ zK3 P (β := {y : β // good x y}) (fun y F w0 => bodyPost P fn (zZt F w0 (res x y))) (fun _ => [.code c]) ⟨n, 0, zR4 0 (args x), []⟩) :
  ∃ G : α → β, (∀ x, pre x → good x (G x)) ∧ FnOK P f (fun ds d => ∃ x, pre x ∧ ds = args x ∧ d = res x (G x)) := by
 have hex : ∀ x, ∃ y : β, pre x → good x y ∧ ∀ F w0, Run P F (zB0.std w0) (bodyPost P fn (zZt F w0 (res x y))) [.code c] ⟨n, 0, zR4 0 (args x), []⟩ := fun x => by
  by_cases hp : pre x
  ·obtain ⟨_, ⟨y, hy⟩, h⟩ := hrun x hp
   exact ⟨y, fun _ => ⟨hy, h⟩⟩
  ·exact ⟨default, fun h => absurd h hp⟩
 refine ⟨fun x => Classical.choose (hex x), fun x hx => (Classical.choose_spec (hex x) hx).1, zAa hcall hf hb hn ?_⟩
 rintro ds d ⟨x, hx, rfl, rfl⟩
 refine ⟨(hrun x hx).1, fun w0 => ?_⟩
 have h := (Classical.choose_spec (hex x) hx).2 [] w0
 have e1 : ∀ d, zZt [] w0 d = zD6 w0 d := fun d => by funext en w'; simp [zZt]
 rw [e1] at h
 exact h
theorem zZ {K : Fin → List It} {fn : Func} {γ : Type} {res : γ → SD} (b : γ) {l : List ResultVar} {ds : List SD} (hr : fn.results = l.toArray) (hq : zN7 P s l = some ds) (hd : zAc (zLm ds) (res b)) :
  zK3 P (fun y F w0 => bodyPost P fn (zZt F w0 (res y))) (fun fn => .code .ret :: K fn) s := ⟨b, fun _ _ => zXy hr hq hd⟩
theorem yB {K : Fin → List It} {fn : Func} {γ : Type} {res : γ → SD} {os' : γ → List (Nat × OB)} (b : γ) {l : List ResultVar} {ds : List SD} (hr : fn.results = l.toArray) (hq : zN7 P s l = some ds) (hd : SLe (zLm ds) (res b)) (ho : zC2 s.ow (os' b)) :
  zK3 P (fun y F w0 => bodyPost P fn (zA8 F w0 (res y) (os' y))) (fun fn => .code .ret :: K fn) s := ⟨b, fun _ _ => yC hr hq hd ho⟩
end
section
variable {P : Program} {F : List Nat} {w0 : zB0} {s : St}
theorem zEd {fn : Func} {d : SD} {os' : List (Nat × OB)} (hr : fn.results = #[]) (hd : SLe (.tup []) d) (ho : zC2 s.ow os') : Run P F w0.std (bodyPost P fn (zA8 F w0 d os')) [] s := fun h e a w D => by
 show bodyPost P fn (zA8 F w0 d os') .ret a w
 have hO : yAi F w0.w os' h e w := by
  have key : ∀ j o, lkO os' j = some o → ∃ o0, lkO s.ow j = some o0 ∧ OLe o0 o := fun j o hj => zFx ho j o hj;refine ⟨fun j o hj => ?_, fun j o b hj hb => ?_, fun j j' o o' b hne hj hj' hb => ?_⟩
  ·obtain ⟨o0, g1, g2⟩ := key j o hj
   exact g2.ok (D.own j o0 g1)
  ·obtain ⟨o0, g1, g2⟩ := key j o hj
   rw [g2.blk] at hb;exact D.ownb j o0 b g1 hb
  ·obtain ⟨o0, g1, g2⟩ := key j o hj
   obtain ⟨o1, g3, g4⟩ := key j' o' hj';rw [g2.blk] at hb;rw [g4.blk];exact D.apart j j' o0 o1 b hne g1 g3 hb
 have hres : (results fn a.tmps).run P w = .ok (.tuple #[]) w := by simp [results, hr]
 refine bodyPost_ret hres D.defers ⟨_, h, e, rfl, D.le, D.sub, D.keeps, D.neww, D.fix, ?_, hO⟩
 exact hd h e _ (by simp [rep, repT])
end
end Go.Sx
namespace Go.Sx
theorem OLe.snoc {α : Type} [Inhabited α] (enc : α → SD) (t : List α) (a : α) {T es : Nat} {d : SD} (h : SLe d (enc a)) :
  OLe (.acc T es (t.length + 1) (zA3 t.length (fun i => enc (t.getD i default)) (zBc [d]))) (.acc T es (t ++ [a]).length fun i => enc ((t ++ [a]).getD i default)) := by
 refine ⟨rfl, rfl, by simp, fun i hi hp u hu e => ?_⟩
 have hu' := hu e
 show rep hp (enc ((t ++ [a]).getD i default)) e u
 simp only [zA3] at hu'
 by_cases hlt : i < t.length
 ·rw [if_pos hlt] at hu'
  rwa [zz2, List.getElem?_append_left hlt, ← zz2]
 ·have : i = t.length := by omega
  subst this;rw [if_neg hlt, Nat.sub_self] at hu';have e1 : (t ++ [a]).getD t.length default = a := by simp [zz2]
  rw [e1];exact h _ _ _ hu'
theorem SLe.nil0 {α : Type} {es : Nat} {f : Nat → SD} : SLe .nils (.list es ([] : List α).length f) := SLe.nils
theorem SLe.lit1 (x : Int) : SLe (.list 1 1 fun i => .int .i64 ([x].getD i 0)) (.list 1 [x].length fun i => .int .i64 ([x].getD i default)) := SLe.refl _
theorem OLe.snocF {α : Type} [Inhabited α] (enc : α → SD) (t : List α) (a : α) {T es : Nat} {g : Nat → SD} (h : SLe (g 0) (enc a)) :
  OLe (.acc T es (t.length + 1) (zA3 t.length (fun i => enc (t.getD i default)) g)) (.acc T es (t ++ [a]).length fun i => enc ((t ++ [a]).getD i default)) := by
 refine ⟨rfl, rfl, by simp, fun i hi hp u hu e => ?_⟩
 have hu' := hu e
 show rep hp (enc ((t ++ [a]).getD i default)) e u
 simp only [zA3] at hu'
 by_cases hlt : i < t.length
 ·rw [if_pos hlt] at hu'
  rwa [zz2, List.getElem?_append_left hlt, ← zz2]
 ·have : i = t.length := by omega
  subst this;rw [if_neg hlt, Nat.sub_self] at hu';have e1 : (t ++ [a]).getD t.length default = a := by simp [zz2]
  rw [e1];exact h _ _ _ hu'
theorem OLe.snoc1 (t : List Int) (a : Int) {T es : Nat} : OLe (.acc T es (t.length + 1) (zA3 t.length (fun i => .int .i64 (t.getD i default)) (fun i => .int .i64 ([a].getD i 0)))) (.acc T es (t ++ [a]).length fun i => .int .i64 ((t ++ [a]).getD i default)) :=
 OLe.snocF (fun x : Int => SD.int .i64 x) t a (SLe.refl _)
theorem OLe.snoc2 (t : List ByteArray) (a : ByteArray) {T es : Nat} : OLe (.acc T es (t.length + 1) (zA3 t.length (fun i => .str (t.getD i default)) (fun i => .str ([a].getD i ByteArray.empty)))) (.acc T es (t ++ [a]).length fun i => .str ((t ++ [a]).getD i default)) :=
 OLe.snocF (fun x : ByteArray => SD.str x) t a (SLe.refl _)
end Go.Sx
namespace Go.Sx
open Go.RowKit
def cpF (a b n : Nat) (f : Nat → SD) (i : Nat) : SD := if a ≤ i ∧ i < a + Nat.min (n - b) (n - a) then f (i - a + b) else f i
def slA (P : Program) (s : St) (T : Nat) (x lo : SD) : Option (List Prop × SD) :=
 match x, lo with
 | .acc k, .int _ l => match lkO s.ow k with
  | some (.acc _ es n _) => match elT P T with
   | some te => bif Nat.beq (kdT P T) 1 && Nat.beq (szT P te) es && Nat.ble 1 es then some ([0 ≤ l, l ≤ (n : Int), 0 < n], .accp k es l.toNat) else none
   | none => none
  | _ => none
 | _, _ => none
def cpA (P : Program) (s : St) (T : Nat) (x y : SD) : Option (SD × Nat × OB) :=
 match x, y with
 | .accp k es a, .accp k' es2 b => match lkO s.ow k with
  | some (.acc te es' n f) => match elT P T with
   | some te' => bif Nat.beq k k' && Nat.beq es es2 && Nat.beq es es' && Nat.beq (kdT P T) 1 && Nat.beq (szT P te') es && Nat.ble 1 es then some (.int .i64 (Nat.min (n - b) (n - a) : Nat), k, .acc te es' n (cpF a b n f)) else none
   | none => none
  | _ => none
 | _, _ => none
section
variable {P : Program} {F : List Nat} {w0 : Base} {s : St} {h : Hp} {e : Nm} {a : Act} {w : World}
theorem zZk (D : Den F w0 s h e a w) {t T : Nat} (ht : t < s.n) {x y : Operand} {ty : Nat} {pos : String} {af : Array Edge} {g : Option (Nat × Bool)} {p : List Prop} {d : SD}
  (hq : slA P s T (ev s x) (ev s y) = some (p, d)) (hp : zAn p) (K : Act → World → Prop) (Q : Exit → Act → World → Prop) (hK : ∀ h' e' a' w', Den F w0 (s.put t d) h' e' a' w' → K a' w') :
  (⟨some t, .slice T x (some y) none none, ty, pos, af, g⟩ : Oper).wp P a w K Q := by
 unfold slA at hq
 split at hq
 ·rename_i k kk l hx hy
  split at hq
  ·rename_i te es n f ho
   split at hq
   ·rename_i te' hte
    cases hb : (Nat.beq (kdT P T) 1 && Nat.beq (szT P te') es && Nat.ble 1 es)
    ·rw [hb] at hq; cases hq
    ·rw [hb] at hq
     simp only [cond_true, zz1, Prod.mk.injEq] at hq;obtain ⟨rfl, rfl⟩ := hq;simp only [zz3] at hb;obtain ⟨⟨b1, b2⟩, b3⟩ := hb;have b2 := zz4 b2;have b3 := Nat.le_of_ble_eq_true b3;obtain ⟨te2, hu⟩ := zPb b1;have := zBr hu hte;subst this;obtain ⟨m0, hm0⟩ : ∃ m, szT P te' = m + 1 := ⟨szT P te' - 1, by omega⟩;obtain ⟨i, hi, hs⟩ := zAl hm0;have hes : es = i.size := by omega
     simp only [zAn] at hp;obtain ⟨p1, p2, p3, _⟩ := hp;have hxv := D.ev x;rw [hx] at hxv;have hyv := D.ev y;rw [hy] at hyv;simp only [rep] at hxv hyv;obtain ⟨xs, o1, _, _⟩ := D.own k _ ho
     rcases o1.2 with ⟨_, hv⟩ | ⟨b, c, cur, hv, _, hg, hnc, hcm, hcs, htake⟩
     ·omega
     ·have hln : l.toNat ≤ n := by omega
      have hbd : (Instr.sliceBounds true n c (some (.int kk l)) none none).run P w = .ok (l.toNat, n, c) w := by
       have : 0 ≤ l ∧ l ≤ (n : Int) := ⟨p1, p2⟩;simp [Instr.sliceBounds, Instr.sliceBound, asIntOf, this]
      have hr : (execOp a.eval ⟨some t, .slice T x (some y) none none, ty, pos, af, g⟩).run P w = .ok (.value (.slice (some (if c = l.toNat then ⟨b, 0, none⟩ else ⟨b, l.toNat * es, none⟩)) (n - l.toNat) (c - l.toNat))) w := by
       have e1 : (if c = l.toNat then some (⟨b, 0, none⟩ : Addr) else Option.map (fun x : Addr => x.add (l.toNat * i.size)) (some ⟨b, 0, none⟩)) = some (if c = l.toNat then ⟨b, 0, none⟩ else ⟨b, l.toNat * es, none⟩) := by
        by_cases hc : c = l.toNat
        ·simp [hc]
        ·simp [hc, Addr.add_mid, hes]
       have e2 : (Instr.sliceAt T (.slice (some ⟨b, 0, none⟩) n c) (some (.int kk l)) none none).run P w = .ok (.slice (some (if c = l.toNat then ⟨b, 0, none⟩ else ⟨b, l.toNat * es, none⟩)) (n - l.toNat) (c - l.toNat)) w := by
        simp [Instr.sliceAt, Instr.slice, run_underlying hu, hbd, sizeOf, typeInfo, hi];simpa using e1
       have hxe : a.eval x = .slice (some ⟨b, 0, none⟩) n c := hxv.1.trans hv;simp [execOp, hxe, hyv, e2]
      unfold Oper.wp;rw [hr];refine hK h e _ _ (D.put ht ?_);simp only [rep];exact ⟨b, n, c, hv, hln, hnc, rfl⟩
   ·cases hq
  ·cases hq
 ·cases hq
theorem zZ8 {xs : List Value} {es a b n m i : Nat} (hx : xs.length = n * es) (hma : a + m ≤ n) (hmb : b + m ≤ n) (hi : i < n) :
  (xs.take (a * es) ++ cut xs (b * es) (m * es) ++ xs.drop (a * es + m * es)).length = n * es ∧
  cut (xs.take (a * es) ++ cut xs (b * es) (m * es) ++ xs.drop (a * es + m * es)) (i * es) es = if a ≤ i ∧ i < a + m then cut xs ((i - a + b) * es) es else cut xs (i * es) es := by
 have ha : (a + m) * es ≤ n * es := Nat.mul_le_mul_right _ hma
 have hb : (b + m) * es ≤ n * es := Nat.mul_le_mul_right _ hmb
 have hii : (i + 1) * es ≤ n * es := Nat.mul_le_mul_right _ hi
 rw [Nat.add_mul] at ha hb hii
 have hl0 : (xs.take (a * es)).length = a * es := by rw [List.length_take]; omega
 have hlc : (cut xs (b * es) (m * es)).length = m * es := by simp only [cut, List.length_take, List.length_drop]; omega
 have hl : (xs.take (a * es) ++ cut xs (b * es) (m * es)).length = a * es + m * es := by rw [List.length_append]; omega
 refine ⟨by rw [List.length_append, hl, List.length_drop]; omega, ?_⟩
 apply List.ext_getElem?
 intro k
 have lhs : ∀ (ys : List Value) (o : Nat), (cut ys o es)[k]? = if k < es then ys[o + k]? else none := fun ys o => by
  simp only [cut, List.getElem?_take, List.getElem?_drop]
 rw [lhs]
 by_cases hk : k < es
 ·rw [if_pos hk]
  by_cases hc : a ≤ i ∧ i < a + m
  ·rw [if_pos hc, lhs, if_pos hk]
   have h1 : a * es ≤ i * es := Nat.mul_le_mul_right _ hc.1;have h2 : (i + 1) * es ≤ (a + m) * es := Nat.mul_le_mul_right _ hc.2;rw [Nat.add_mul, Nat.add_mul] at h2;rw [List.getElem?_append_left (by omega), List.getElem?_append_right (by omega), hl0];simp only [cut, List.getElem?_take, List.getElem?_drop];rw [if_pos (by omega), Nat.add_mul, Nat.sub_mul]
   congr 1
   omega
  ·rw [if_neg hc, lhs, if_pos hk]
   by_cases h1 : i < a
   ·have h2 : (i + 1) * es ≤ a * es := Nat.mul_le_mul_right _ h1
    rw [Nat.add_mul] at h2;rw [List.getElem?_append_left (by omega), List.getElem?_append_left (by omega), List.getElem?_take, if_pos (by omega)]
   ·have h2 : (a + m) * es ≤ i * es := Nat.mul_le_mul_right _ (by omega)
    rw [Nat.add_mul] at h2;rw [List.getElem?_append_right (by omega), hl, List.getElem?_drop]
    congr 1
    omega
 ·rw [if_neg hk]
  split <;> rw [lhs, if_neg hk]
theorem yDp (D : Den F w0 s h e a w) {t T : Nat} (ht : t < s.n) {x y : Operand} {ty : Nat} {pos : String} {af : Array Edge} {g : Option (Nat × Bool)} {d : SD} {k : Nat} {ob : OB}
  (hq : cpA P s T (ev s x) (ev s y) = some (d, k, ob)) (K : Act → World → Prop) (Q : Exit → Act → World → Prop) (hK : ∀ h' e' a' w', Den F w0 ⟨s.n, s.nx, upd s.sl t d, upd s.ow k ob⟩ h' e' a' w' → K a' w') :
  (⟨some t, .call ⟨.builtin .copy, #[x, y], #[T, T]⟩, ty, pos, af, g⟩ : Oper).wp P a w K Q := by
 unfold cpA at hq
 split at hq
 ·rename_i k1 es a0 k2 es2 b0 hx hy
  split at hq
  ·rename_i te es' n f ho
   split at hq
   ·rename_i te' hte
    cases hb : (Nat.beq k1 k2 && Nat.beq es es2 && Nat.beq es es' && Nat.beq (kdT P T) 1 && Nat.beq (szT P te') es && Nat.ble 1 es)
    ·rw [hb] at hq; cases hq
    ·rw [hb] at hq
     simp only [cond_true, zz1, Prod.mk.injEq] at hq;obtain ⟨rfl, rfl, rfl⟩ := hq;simp only [zz3] at hb;obtain ⟨⟨⟨⟨⟨c1, c6⟩, c2⟩, c3⟩, c4⟩, c5⟩ := hb;have c6 := zz4 c6;subst c6;have c1 := zz4 c1;have c2 := zz4 c2;subst c1 c2;have c4 := zz4 c4;have c5 := Nat.le_of_ble_eq_true c5;obtain ⟨te2, hu⟩ := zPb c3;have := zBr hu hte;subst this;obtain ⟨m0, hm0⟩ : ∃ m, szT P te' = m + 1 := ⟨szT P te' - 1, by omega⟩;obtain ⟨i, hi, hs⟩ := zAl hm0;have hes : es = i.size := by omega
     have hxv := D.ev x;rw [hx] at hxv;have hyv := D.ev y;rw [hy] at hyv;simp only [rep] at hxv hyv;obtain ⟨b, n1, c, x1, x2, x3, x4⟩ := hxv;obtain ⟨b', n2, c', y1, y2, y3, y4⟩ := hyv;rw [x1] at y1;simp only [Value.slice.injEq, zz1, Addr.mk.injEq, and_true] at y1;obtain ⟨rfl, rfl, rfl⟩ := y1;obtain ⟨xs, o1, o2, o3⟩ := D.own _ _ ho
     rcases o1.2 with ⟨hv, _⟩ | ⟨g', cap, cur, hv, _, hg, hnc, hcm, hcs, htake⟩
     ·rw [x1] at hv; cases hv
     ·rw [x1] at hv
      simp only [Value.slice.injEq, zz1, Addr.mk.injEq, and_true] at hv;obtain ⟨rfl, rfl, rfl⟩ := hv;have hxl := o1.1;generalize hm : Nat.min (n1 - b0) (n1 - a0) = m;rw [hm] at hK;have hm1 : m ≤ n1 - b0 := hm ▸ Nat.min_le_left _ _;have hm2 : m ≤ n1 - a0 := hm ▸ Nat.min_le_right _ _;have hmc : n1 * es ≤ c * es := Nat.mul_le_mul_right _ hnc;unfold Oper.wp;have hblk : (OB.acc te es n1 f).blk e k1 = some b := by simp [OB.blk, x1, Value.ownBlock]
      by_cases hmz : m = 0
      ·subst hmz
       have hr : (execOp a.eval ⟨some t, .call ⟨.builtin .copy, #[x, y], #[T, T]⟩, ty, pos, af, g⟩).run P w = .ok (.value (goInt 0)) w := by
        have e1 : ∀ ad ad', (Builtin.copy_ #[T, T] ty #[.slice (some ad) (n1 - a0) (c - a0), .slice (some ad') (n1 - b0) (c - b0)]).run P w = .ok (goInt 0) w := fun ad ad' => by
         simp [Builtin.copy_, run_underlying hu, sizeOf, typeInfo, hi, Builtin.lenOf, Builtin.firstCells, hm, loadCells, loadCellsFrom, storeCells]
        simp only [execOp, resolve, invoke, builtin, Sem.run_bind, Sem.run_pure, Result.andThen_ok, List.map_toArray, List.map_cons, List.map_nil, x4, y4, e1]
       rw [hr];refine hK h e _ _ ?_
       have D1 := D.setOwn (o' := .acc te es n1 (cpF a0 b0 n1 f)) ho rfl ⟨xs, o1, o2, fun j hj => by
        have : cpF a0 b0 n1 f j = f j := by unfold cpF; rw [hm, if_neg (by omega)]
        rw [this]; exact o3 j hj⟩ (fun _ _ => rfl) rfl rfl rfl rfl
       exact D1.put (i := t) (d := .int .i64 ((0 : Nat) : Int)) (v := goInt 0) ht (by simp [rep, goInt])
      ·have ea : (if c = a0 then (⟨b, 0, none⟩ : Addr) else ⟨b, a0 * es, none⟩) = ⟨b, a0 * es, none⟩ := if_neg (by omega)
       have eb : (if c = b0 then (⟨b, 0, none⟩ : Addr) else ⟨b, b0 * es, none⟩) = ⟨b, b0 * es, none⟩ := if_neg (by omega);rw [ea] at x4;rw [eb] at y4;have hma : a0 + m ≤ n1 := by omega
       have hmb : b0 + m ≤ n1 := by omega
       have qa : (a0 + m) * es ≤ n1 * es := Nat.mul_le_mul_right _ hma;have qb : (b0 + m) * es ≤ n1 * es := Nat.mul_le_mul_right _ hmb;rw [Nat.add_mul] at qa qb;generalize hcs' : cut xs (b0 * es) (m * es) = cs;have hcl : cs.length = m * es := by rw [← hcs']; simp only [cut, List.length_take, List.length_drop]; omega
       have hload := run_loadCells_list (P := P) w ⟨b, b0 * es, none⟩ cs fun j v hv => by
        rw [Addr.add_mid];rw [x1] at o1;have hj : j < m * es := by rw [← hcl]; exact (List.getElem?_eq_some_iff.1 hv).1
        rw [World.ownsRow.cellAt o1 _ (by omega)];rw [← hcs'] at hv;simp only [cut, List.getElem?_take, List.getElem?_drop] at hv;rw [if_pos hj] at hv;exact hv
       have hone : ∀ v ∈ cs, v.oneCell' = true := fun v hv => by
        obtain ⟨j, h3⟩ := List.mem_iff_getElem?.1 hv;have hj' : j < m * es := by rw [← hcl]; exact (List.getElem?_eq_some_iff.1 h3).1
        have hd : j / es < m := (Nat.div_lt_iff_lt_mul (by omega)).2 hj';obtain ⟨u, _, u2, _, u4⟩ := o3 (b0 + j / es) (by omega);refine u4 _ ?_;have hmod : j % es < es := Nat.mod_lt _ (by omega);have hjj : es * (j / es) + j % es = j := Nat.div_add_mod j es;rw [← hcs'] at h3;simp only [cut, List.getElem?_take, List.getElem?_drop] at h3;rw [if_pos hj'] at h3
        have e1 : u.cells.toList[j % es]? = some v := by
         rw [u2];simp only [cut, List.getElem?_take, List.getElem?_drop];rw [if_pos hmod, Nat.add_mul, Nat.mul_comm (j / es) es, Nat.add_assoc, hjj, h3]
        have := List.mem_of_getElem? e1;simpa using this
       have hst := run_storeCells_at P b (a0 * es) te cs 0 cur w hg (by rw [hcl, hcs]; omega) hone;simp only [Nat.add_zero] at hst
       have hr : (execOp a.eval ⟨some t, .call ⟨.builtin .copy, #[x, y], #[T, T]⟩, ty, pos, af, g⟩).run P w = .ok (.value (goInt m)) (w.setRow b (cur.toList.take (a0 * es) ++ cs ++ cur.toList.drop (a0 * es + cs.length)).toArray) := by
        have hload' : (loadCells ⟨b, b0 * es, none⟩ (m * i.size)).run P w = .ok cs.toArray w := by rw [← hes, ← hcl]; exact hload
        simp only [execOp, resolve, invoke, builtin, Sem.run_bind, Sem.run_pure, Result.andThen_ok, List.map_toArray, List.map_cons, List.map_nil, x4, y4];simp [Builtin.copy_, run_underlying hu, sizeOf, typeInfo, hi, Builtin.lenOf, Builtin.firstCells, hm, hload', hst]
       rw [hr];refine hK h e _ _ ?_;obtain ⟨q0, _⟩ := zZ8 (xs := xs) (es := es) (a := a0) (b := b0) (n := n1) (m := m) (i := n1 - 1) hxl hma hmb (by omega);have D1 := D.setOwn (w' := w.setRow b (cur.toList.take (a0 * es) ++ cs ++ cur.toList.drop (a0 * es + cs.length)).toArray) (o' := .acc te es n1 (cpF a0 b0 n1 f)) ho rfl ?_ ?_ rfl rfl rfl (by simp)
       ·exact D1.put (i := t) (d := .int .i64 ((m : Nat) : Int)) (v := goInt m) ht (by simp [rep, goInt])
       ·refine ⟨xs.take (a0 * es) ++ cs ++ xs.drop (a0 * es + m * es), ⟨by rw [← hcs']; exact q0, .inr ⟨b, c, _, x1, Nat.zero_le _, setRow_heap w b cur _ te _ hg, hnc, hcm, ?_, ?_⟩⟩, o2, fun j hj => ?_⟩
        ·simp only [List.size_toArray, List.length_append, List.length_take, List.length_drop, Array.length_toList, hcl, hcs]
         omega
        ·rw [hcl, ← htake]
         have hA : (cur.toList.take (a0 * es) ++ cs).length = a0 * es + m * es := by
          rw [List.length_append, List.length_take, hcl, Array.length_toList];omega
         show List.take (n1 * es) (cur.toList.take (a0 * es) ++ cs ++ cur.toList.drop (a0 * es + m * es)) = _;rw [List.take_append, List.take_of_length_le (by omega), hA, List.take_take, Nat.min_eq_left (by omega), List.drop_take]
        ·obtain ⟨_, q2⟩ := zZ8 (xs := xs) (es := es) (a := a0) (b := b0) (n := n1) (m := m) (i := j) hxl hma hmb hj
         rw [hcs'] at q2;unfold cpF;rw [hm];by_cases hc : a0 ≤ j ∧ j < a0 + m
         ·rw [if_pos hc] at q2 ⊢
          obtain ⟨w1, w2, w3, w4⟩ := o3 (j - a0 + b0) (by omega);exact ⟨w1, w2, by rw [q2]; exact w3, w4⟩
         ·rw [if_neg hc] at q2 ⊢
          obtain ⟨w1, w2, w3, w4⟩ := o3 j hj;exact ⟨w1, w2, by rw [q2]; exact w3, w4⟩
       ·intro b' hbk
        exact setRow_other w _ b' _ (fun hc => hbk (by rw [hblk, hc]))
   ·cases hq
  ·cases hq
 ·cases hq
variable {Q : Exit → Act → World → Prop} {l : List Oper} {s0 : St} {rs : List Rec} {id : Nat} {rest : List Oper}
def zPp (s : St) (t : Nat) (x y : Operand) (d : SD) (u : List (Nat × Option OB)) : Rec :=
 ⟨zBf s (tmpsOf [x, y]), keysA s [x, y] s.ow, some t, d, u, []⟩
def slS (s : St) (t : Nat) (d : SD) : Option St := bif Nat.blt t s.n then some (s.put t d) else none
def cpS (s : St) (t : Nat) (d : SD) (k : Nat) (ob : OB) : Option St := bif Nat.blt t s.n then some ⟨s.n, s.nx, upd s.sl t d, upd s.ow k ob⟩ else none
theorem zUg {σ : St} {T : Nat} {x y : SD} {r : List Prop × SD} (hm : OwM s σ x) (hq : slA P s T x y = some r) : slA P σ T x y = some r := by
 unfold slA at hq ⊢
 split at hq
 ·rename_i k kk l
  cases ho : lkO s.ow k with
  | none => rw [ho] at hq; cases hq
  | some o => rw [hm k o (by simp [men]) ho]; rw [ho] at hq; exact hq
 ·cases hq
theorem zWr {σ : St} {T : Nat} {x y : SD} {r : SD × Nat × OB} (hm : OwM s σ x) (hq : cpA P s T x y = some r) : cpA P σ T x y = some r := by
 unfold cpA at hq ⊢
 split at hq
 ·rename_i k es a k' es2 b
  cases ho : lkO s.ow k with
  | none => rw [ho] at hq; cases hq
  | some o => rw [hm k o (by simp [men]) ho]; rw [ho] at hq; exact hq
 ·cases hq
theorem yDz {t T : Nat} {x y : Operand} {ty : Nat} {pos : String} {af : Array Edge} {p : List Prop} {d : SD} {s' : St} (hq : slA P s T (ev s x) (ev s y) = some (p, d)) (hp : zAn p) (hs : slS s t d = some s')
  (hn : zAy P F w0 Q id l s0 (rs ++ [zPp s t x y d []]) rest s') : zAy P F w0 Q id l s0 rs (⟨some t, .slice T x (some y) none none, ty, pos, af, none⟩ :: rest) s := fun K => by
 unfold slS at hs
 cases hb : Nat.blt t s.n
 ·rw [hb] at hs; cases hs
 rw [hb] at hs
 simp only [cond_true, zz1] at hs
 subst hs
 have g1 : ∀ p ∈ (zPp s t x y d []).slots, lkp s.sl p.1 = p.2 := zBe
 have g2 : ∀ p ∈ (zPp s t x y d []).keys, lkO s.ow p.1 = some p.2 := zDd
 refine hn (K.snoc g1 g2 (fun σ hn h1 h2 h3 h e a w D K Q hK => ?_) ⟨rfl, fun _ => rfl, fun _ => rfl⟩)
 rw [if_pos (by simp [Region.wanted])]
 have hev := zBb (s := s) (s' := σ) (l := [x, y]) h1
 have e1 := hev x (by simp)
 have e2 := hev y (by simp)
 have hm : OwM s σ (ev s x) := fun k o hm ho => h2 (k, o) (zCj (by simp [zRh, hm]) ho)
 refine zZk D (by rw [hn]; exact zAm hb) (by rw [e1, e2]; exact zUg hm hq) hp K Q fun h' e' a' w' D' => hK h' e' a' w' D'
theorem yD3 {t T : Nat} {x y : Operand} {ty : Nat} {pos : String} {af : Array Edge} {d : SD} {k : Nat} {ob : OB} {s' : St} (hq : cpA P s T (ev s x) (ev s y) = some (d, k, ob)) (hs : cpS s t d k ob = some s')
  (hn : zAy P F w0 Q id l s0 (rs ++ [zPp s t x y d [(k, some ob)]]) rest s') : zAy P F w0 Q id l s0 rs (⟨some t, .call ⟨.builtin .copy, #[x, y], #[T, T]⟩, ty, pos, af, none⟩ :: rest) s := fun K => by
 unfold cpS at hs
 cases hb : Nat.blt t s.n
 ·rw [hb] at hs; cases hs
 rw [hb] at hs
 simp only [cond_true, zz1] at hs
 subst hs
 have g1 : ∀ p ∈ (zPp s t x y d [(k, some ob)]).slots, lkp s.sl p.1 = p.2 := zBe
 have g2 : ∀ p ∈ (zPp s t x y d [(k, some ob)]).keys, lkO s.ow p.1 = some p.2 := zDd
 refine hn (K.snoc g1 g2 (fun σ hn h1 h2 h3 h e a w D K Q hK => ?_) ⟨rfl, fun _ => rfl, fun _ => rfl⟩)
 rw [if_pos (by simp [Region.wanted])]
 have hev := zBb (s := s) (s' := σ) (l := [x, y]) h1
 have e1 := hev x (by simp)
 have e2 := hev y (by simp)
 have hm : OwM s σ (ev s x) := fun k o hm ho => h2 (k, o) (zCj (by simp [zRh, hm]) ho)
 refine yDp D (by rw [hn]; exact zAm hb) (by rw [e1, e2]; exact zWr hm hq) K Q fun h' e' a' w' D' => hK h' e' a' w' D'
end
section
variable {P : Program} {F : List Nat} {w0 : Base} {s : St} {k : List It}
theorem zQ4 {h : Hp} {e : Nm} {d0 d : SD} : ∀ {l : List SD} {vs : List Value} {i : Nat}, repC h l e vs → l[i]? = some d0 → (∀ v, rep h d0 e v → rep h d e v) → repC h (l.set i d) e vs
 | [], _, _, _, hi, _ => by simp at hi
 | x :: r, vs, i, hx, hi, hd => by
  simp only [repC] at hx;obtain ⟨v, vs', rfl, h1, h2, h3⟩ := hx;cases i with
  | zero =>
   simp only [List.getElem?_cons_zero, zz1] at hi;subst hi;simp only [List.set, repC];exact ⟨v, vs', rfl, h1, hd v h2, h3⟩
  | succ i =>
   simp only [List.set, repC];exact ⟨v, vs', rfl, h1, h2, zQ4 h3 (by simpa using hi) hd⟩
theorem zC9 (j i T es : Nat) (f : Nat → SD) {fin : Exit → Act → World → Prop} {l l' : List SD} (ho : lkO s.ow j = some (.var l)) (hi : l[i]? = some .nils) (hl' : l.set i (.acc s.nx) = l') (hf : s.free s.nx = true)
  (hn : Run P F w0 fin k ⟨s.n, s.nx + 1, s.sl, upd (upd s.ow j (.var l')) s.nx (.acc T es 0 f)⟩) : Run P F w0 fin k s := fun h e a w D => by
 subst hl'
 have hF := Free.of hf
 have D1 := D.rename (e.but_setH s.nx (.slice none 0 0)) hF
 have D0 := D1.setOwn (o' := .var (l.set i (.acc s.nx))) (w' := w) ho rfl ?_ (fun _ _ => rfl) rfl rfl rfl rfl
 ·have hne : s.nx ≠ j := fun hc => by rw [← hc, zCl hF] at ho; cases ho
  have hnone : lkO (upd s.ow j (.var (l.set i (.acc s.nx)))) s.nx = none := by rw [zA2]; simp only [hne, if_false]; exact zCl hF
  have D2 := D0.addOwn (k := s.nx) (o := .acc T es 0 f) hnone ⟨[], by simp only [Nm.setH, if_true]; exact ⟨by simp, .inl ⟨rfl, rfl⟩⟩, Nat.zero_le _, fun i hi => absurd hi (Nat.not_lt_zero i)⟩ (fun b hb => ?_) (fun j o' b hj hb hc => ?_) (s.nx + 1)
  ·exact hn h _ a w (D2.congr rfl (fun _ => rfl) fun _ => rfl)
  ·simp only [OB.blk, Nm.setH, if_true, Value.ownBlock] at hb; cases hb
  ·simp only [OB.blk, Nm.setH, if_true, Value.ownBlock] at hc; cases hc
 ·obtain ⟨cs, T', g1, g2⟩ := D1.own j _ ho
  refine ⟨cs, T', g1, zQ4 g2 hi fun v hv => ?_⟩;simp only [rep] at hv ⊢;subst hv;simp only [Nm.setH, if_true];exact ⟨trivial, _, _, _, rfl⟩
end
theorem zYs {α : Type} [Inhabited α] (t : List α) (a : α) {i : Nat} (hi : i ≤ t.length) (j : Nat) :
  (t.take i ++ a :: t.drop i).getD j default = if j < i then t.getD j default else if j = i then a else t.getD (j - 1) default := by
 have hl : (t.take i).length = i := by rw [List.length_take]; omega
 simp only [zz2]
 by_cases h1 : j < i
 ·rw [if_pos h1, List.getElem?_append_left (by omega), List.getElem?_take, if_pos h1]
 ·rw [if_neg h1, List.getElem?_append_right (by omega), hl]
  by_cases h2 : j = i
  ·subst h2; simp
  ·rw [if_neg h2, show j - i = (j - i - 1) + 1 by omega, List.getElem?_cons_succ, List.getElem?_drop]
   congr 2
   omega
theorem OLe.ins {α : Type} [Inhabited α] (enc : α → SD) (t : List α) (a : α) {T es i : Nat} (hi : i ≤ t.length) {d z : SD} (h : SLe d (enc a)) :
  OLe (.acc T es (t.length + 1) (setF i d (cpF (i + 1) i (t.length + 1) (zA3 t.length (fun j => enc (t.getD j default)) (zBc [z]))))) (.acc T es (t.take i ++ a :: t.drop i).length fun j => enc ((t.take i ++ a :: t.drop i).getD j default)) := by
 refine ⟨rfl, rfl, by simp; omega, fun j hj hp u hu e => ?_⟩
 have hu' := hu e
 show rep hp (enc ((t.take i ++ a :: t.drop i).getD j default)) e u
 rw [zYs t a hi]
 simp only [setF, cpF, zA3] at hu'
 by_cases h1 : j < i
 ·rw [if_neg (by omega), if_neg (by omega), if_pos (by omega)] at hu'
  rwa [if_pos h1]
 ·rw [if_neg h1]
  by_cases h2 : j = i
  ·rw [if_pos h2] at hu' ⊢
   exact h _ _ _ hu'
  ·have hm : Nat.min (t.length + 1 - i) (t.length + 1 - (i + 1)) = t.length - i := by
    show min (t.length + 1 - i) (t.length + 1 - (i + 1)) = t.length - i;omega
   rw [if_neg h2, hm, if_pos (by omega), if_pos (by omega)] at hu';rw [if_neg h2]
   rwa [show j - (i + 1) + i = j - 1 by omega] at hu'
end Go.Sx
namespace Go.Sx
open Go.RowKit
section
variable {P : Program} {F : List Nat} {w0 : Base} {s : St} {h : Hp} {e : Nm} {a : Act} {w : World}
variable {Q : Exit → Act → World → Prop} {l : List Oper} {s0 : St} {rs : List Rec} {id : Nat} {rest : List Oper}
def bsS (s : St) (t : Nat) (ob : OB) : Option St := some ⟨s.n, s.nx + 1, upd s.sl t (.acc s.nx), zNg [(s.nx, some ob)] s.ow⟩
end
theorem zR {P : Program} {F : List Nat} {w0 : Base} {s : St} {kk : List It} (k : Nat) {o o' : OB} {fin : Exit → Act → World → Prop} (ho : lkO s.ow k = some o) (hl : OLe o o') (hn : Run P F w0 fin kk ⟨s.n, s.nx, s.sl, upd s.ow k o'⟩) : Run P F w0 fin kk s := fun h e a w D =>
 hn h e a w (by
  have h2 : ∀ j x, lkO (upd s.ow k o') j = some x → ∃ o0, lkO s.ow j = some o0 ∧ OLe o0 x := fun j x hj => by
   simp only [zA2] at hj;by_cases hjk : j = k
   ·subst hjk; simp only [if_true, zz1] at hj; subst hj; exact ⟨o, ho, hl⟩
   ·simp only [hjk, if_false] at hj; exact ⟨x, hj, OLe.refl _⟩
  refine ⟨D.defers, D.size, D.slot, fun j o hj => ?_, fun j o b hj hb => ?_, fun j j' o o' b hne hj hj' hb => ?_, D.sub, D.keeps, D.le, D.neww, D.fix⟩
  ·obtain ⟨o0, g1, g2⟩ := h2 j o hj
   exact g2.ok (D.own j o0 g1)
  ·obtain ⟨o0, g1, g2⟩ := h2 j o hj
   rw [g2.blk] at hb;exact D.ownb j o0 b g1 hb
  ·obtain ⟨o0, g1, g2⟩ := h2 j o hj
   obtain ⟨o1, g3, g4⟩ := h2 j' _ hj';rw [g2.blk] at hb;rw [g4.blk];exact D.apart j j' o0 o1 b hne g1 g3 hb)
end Go.Sx
namespace Go.Sx
open Go.RowKit
def asA (P : Program) (s : St) (T : Nat) (p x : SD) : Option (Nat × OB) :=
 match p with
 | .aptr k es i off => match lkO s.ow k with
  | some (.acc te es' n f) => match cellsD x with
   | some c => bif Nat.beq es es' && Nat.beq c.length (szT P T) && Nat.ble 1 c.length && zCy x then
     match elD es off c x (f i) with
     | some d => some (k, .acc te es' n (setF i d f))
     | none => none
    else none
   | none => none
  | _ => none
 | _ => none
section
variable {P : Program} {F : List Nat} {w0 : Base} {s : St}
theorem yC0 {T : Nat} {p x : SD} {k : Nat} {o : OB} (h : asA P s T p x = some (k, o)) : asD P s T p x = some { s with ow := upd s.ow k o } := by
 unfold asA at h
 unfold asD
 split at h
 ·rename_i k' es i off
  simp only;split at h
  ·rename_i te es' n f ho
   rw [ho];simp only;split at h
   ·rename_i c hc
    rw [hc];simp only
    revert h
    cases (Nat.beq es es' && Nat.beq c.length (szT P T) && Nat.ble 1 c.length && zCy x)
    ·intro h; cases h
    ·simp only [cond_true]
     cases elD es off c x (f i) with
     | none => intro h; cases h
     | some d =>
      intro h;simp only [zz1, Prod.mk.injEq] at h;obtain ⟨rfl, rfl⟩ := h;rfl
   ·cases h
  ·cases h
 ·cases h
theorem zW2 {σ : St} {T : Nat} {p x : SD} {r : Nat × OB} (hm : OwM s σ p) (hq : asA P s T p x = some r) : asA P σ T p x = some r := by
 unfold asA at hq ⊢
 split at hq
 ·rename_i k es i off
  cases ho : lkO s.ow k with
  | none => rw [ho] at hq; cases hq
  | some o => rw [hm k o (by simp [men]) ho]; rw [ho] at hq; exact hq
 ·cases hq
variable {Q : Exit → Act → World → Prop} {l : List Oper} {s0 : St} {rs : List Rec} {id : Nat} {rest : List Oper}
def zIs (s : St) (x y : Operand) (k : Nat) (o : OB) : Rec := ⟨zBf s (tmpsOf [x, y]), keysA s [x] s.ow, none, .any, [(k, some o)], []⟩
def asS (s : St) (k : Nat) (o : OB) : Option St := some { s with ow := upd s.ow k o }
theorem zI6 {T : Nat} {x y : Operand} {ty : Nat} {pos : String} {af : Array Edge} {k : Nat} {o : OB} {s' : St} (hq : asA P s T (ev s x) (ev s y) = some (k, o)) (hs : asS s k o = some s')
  (hn : zAy P F w0 Q id l s0 (rs ++ [zIs s x y k o]) rest s') : zAy P F w0 Q id l s0 rs (⟨none, .store T x y, ty, pos, af, none⟩ :: rest) s := fun K => by
 simp only [asS, zz1] at hs
 subst hs
 have g1 : ∀ p ∈ (zIs s x y k o).slots, lkp s.sl p.1 = p.2 := zBe
 have g2 : ∀ p ∈ (zIs s x y k o).keys, lkO s.ow p.1 = some p.2 := zDd
 refine hn (K.snoc g1 g2 (fun σ hn h1 h2 h3 h e a w D K Q hK => ?_) ⟨rfl, fun _ => rfl, fun _ => rfl⟩)
 rw [if_pos (by simp [Region.wanted])]
 have hev := zBb (s := s) (s' := σ) (l := [x, y]) h1
 have e1 := hev x (by simp)
 have e2 := hev y (by simp)
 have hm : OwM s σ (ev s x) := fun k o hm ho => h2 (k, o) (zCj (by simp [zRh, hm]) ho)
 refine zNq D (by rw [e1, e2]; exact yC0 (zW2 hm hq)) K Q fun h' e' a' w' D' => hK h' e' a' w' D'
end
end Go.Sx
namespace Go.Sx
open Go.RowKit
section
variable {P : Program} {F : List Nat} {w0 : Base} {s : St} {ops : Array Oper} {Q : Exit → Act → World → Prop} {rest : List Oper}
theorem zEm {dst : Option Nat} {op : Op} {ty : Nat} {pos : String} {af : Array Edge} {j : Nat} {b : Bool} (tj : Nat) (hj : (ops[j]?).bind (·.dst) = some tj) (hc : gV (lkp s.sl tj) b = some true)
  (hn : zAi P F w0 ops Q (⟨dst, op, ty, pos, af, none⟩ :: rest) s) : zAi P F w0 ops Q (⟨dst, op, ty, pos, af, some (j, b)⟩ :: rest) s := fun h e a w D => by
 have h1 := hn h e a w D
 have hw := zCh (o := ⟨dst, op, ty, pos, af, some (j, b)⟩) rfl hj (D.slot tj) hc
 simp only [wpS] at h1 ⊢
 rw [if_pos hw]
 have hw0 : Region.wanted (⟨dst, op, ty, pos, af, none⟩ : Oper) (yielded ops a.tmps) = true := by simp [Region.wanted]
 rw [if_pos hw0] at h1
 exact h1
theorem zEn {t : Nat} {op : Op} {ty : Nat} {pos : String} {af : Array Edge} {j : Nat} {b : Bool} {s' : St} {z : SD} (tj : Nat) (_ : zcT P ty = some z) (hj : (ops[j]?).bind (·.dst) = some tj) (hc : gV (lkp s.sl tj) b = some false) (hs : zC0 s t (.gd false z) = some s')
  (hn : zAi P F w0 ops Q rest s') : zAi P F w0 ops Q (⟨some t, op, ty, pos, af, some (j, b)⟩ :: rest) s := fun h e a w D => by
 obtain ⟨ht, rfl⟩ := zA0 hs
 have hw := zCh (o := ⟨some t, op, ty, pos, af, some (j, b)⟩) rfl hj (D.slot tj) hc
 simp only [wpS]
 rw [if_neg (by rw [hw]; simp)]
 refine hn _ _ _ _ (D.put ht ?_)
 simp [rep]
theorem zDu {t : Nat} {op : Op} {ty : Nat} {pos : String} {af : Array Edge} {j : Nat} {b : Bool} {s' : St} (tj : Nat) (hj : (ops[j]?).bind (·.dst) = some tj) (hc : gV (lkp s.sl tj) b = some false) (hs : zC0 s t (.gd false .any) = some s')
  (hn : zAi P F w0 ops Q rest s') : zAi P F w0 ops Q (⟨some t, op, ty, pos, af, some (j, b)⟩ :: rest) s := fun h e a w D => by
 obtain ⟨ht, rfl⟩ := zA0 hs
 have hw := zCh (o := ⟨some t, op, ty, pos, af, some (j, b)⟩) rfl hj (D.slot tj) hc
 simp only [wpS]
 rw [if_neg (by rw [hw]; simp)]
 refine hn _ _ _ _ (D.put ht ?_)
 simp [rep]
end
end Go.Sx
namespace Go.Sx
open Go.RowKit
def byF (l : List UInt8) : Nat → SD := fun i => .int .u8 ((l.getD i 0).toNat : Int)
section
variable {P : Program} {F : List Nat} {w0 : Base} {s : St} {ops : Array Oper} {Q : Exit → Act → World → Prop} {rest : List Oper}
theorem yAy {t S T te : Nat} {x : Operand} {b : ByteArray} {ty : Nat} {pos : String} {af : Array Edge} {s' : St} (hx : unG s x = .str b) (hg : zAn (gCs s [x] [])) (hS : Nat.beq (kdT P S) 2 = true) (hT : P.underlying T = some (.slice te)) (he : P.underlying te = some (.int .u8))
  (hsz : b.size ≤ maxN) (hs : zC0 s t (.list 1 b.size (byF b.data.toList)) = some s') (hn : zAi P F w0 ops Q rest s') : zAi P F w0 ops Q (⟨some t, .convert S T x, ty, pos, af, none⟩ :: rest) s := fun h e a w D => by
 obtain ⟨ht, rfl⟩ := zA0 hs
 have hv : rep h (unG s x) e (a.eval x) := D.unG hg (List.mem_singleton_self x)
 rw [hx] at hv
 simp only [rep] at hv
 have hu := yC8 hS
 refine zAf rfl fun K hK => ?_
 unfold Oper.wp
 have hrun := run_bytes_of_string (P := P) w S T te b hu hT he
 have hex : (execOp a.eval ⟨some t, .convert S T x, ty, pos, af, none⟩).run P w = .ok (.value (.slice (some ⟨w.heap.size, 0, none⟩) b.size (grownCap w b.size 0 te))) (w.drew.alloc (.cells (bytesRow b (grownCap w b.size 0 te)) te ((bytesRow b (grownCap w b.size 0 te)).size, (bytesRow b (grownCap w b.size 0 te)).size + 1))) := by
  simp only [execOp, hv, Sem.run_bind, hrun, Result.andThen_ok];rfl
 rw [hex]
 have D1 := D.drew
 obtain ⟨D2, hl⟩ := D1.stay (.cells (bytesRow b (grownCap w b.size 0 te)) te ((bytesRow b (grownCap w b.size 0 te)).size, (bytesRow b (grownCap w b.size 0 te)).size + 1))
 refine hK _ _ (hn _ _ _ _ (D2.put ht ?_))
 have hcap : b.size ≤ grownCap w b.size 0 te := grownCap_ge w _ _ _
 have hcapM : grownCap w b.size 0 te ≤ maxLen := grownCap_le_maxLen w _ _ _ (Nat.le_trans hsz (by simp [maxN, maxLen]))
 simp only [rep]
 refine ⟨_, _, rfl, hcap, ⟨hcapM, zOh hsz⟩, fun _ => ⟨⟨w.heap.size, 0, none⟩, bytesRow b (grownCap w b.size 0 te), te, ((bytesRow b (grownCap w b.size 0 te)).size, (bytesRow b (grownCap w b.size 0 te)).size + 1), rfl, rfl, (by show (if w.drew.heap.size = w.drew.heap.size then _ else _) = _; rw [if_pos rfl]), fun j hj => ?_⟩⟩
 have hjl : j < b.data.toList.length := by simpa using hj
 refine ⟨.int .u8 ((b.data.toList.getD j 0).toNat : Int), fun e' => by simp only [byF, rep], ?_, rfl, fun c hc => by simp [Value.cells] at hc; subst hc; rfl⟩
 simp only [Nat.zero_add, Nat.mul_one, cut, bytesRow, Array.toList_append, Array.toList_map]
 rw [List.drop_append_of_le_length (by simp; omega), List.take_append_of_le_length (by simp; omega)]
 rw [← List.map_drop, ← List.map_take, List.drop_eq_getElem_cons hjl]
 have hja : j < b.data.size := by simpa using hjl
 simp [Value.cells, zz2, Array.getElem?_eq_getElem hja]
theorem add_plain {b o : Nat} (j : Nat) : (⟨b, o, none⟩ : Addr).add j = ⟨b, o + j, none⟩ := by unfold Addr.add; split <;> simp_all
theorem zWs {w : World} {S T te : Nat} {ao : Option Addr} {cap : Nat} {l : List UInt8} (hS : P.underlying S = some (.slice te)) (he : P.underlying te = some (.int .u8)) (hT : P.underlying T = some .string)
  (hc : 0 < l.length → ∃ b o, ao = some ⟨b, o, none⟩ ∧ ∀ j, j < l.length → w.cell? ⟨b, o + j, none⟩ = some (.int .u8 ((l.getD j 0).toNat : Int))) : (convert S T (.slice ao l.length cap)).run P w = .ok (.string ⟨l.toArray⟩) w := by
 cases l with
 | nil =>
  cases ao with
  | none => exact run_convert_bytes_nil w S te hS he 0 cap T hT
  | some a => exact run_convert_bytes_back w S T te a cap [] hS he hT (fun j hj => absurd hj (by simp))
 | cons x r =>
  obtain ⟨b, o, rfl, h1⟩ := hc (by simp);refine run_convert_bytes_back w S T te _ cap (x :: r) hS he hT (fun j hj => ?_);rw [add_plain, h1 j hj];simp [zz2, List.getElem?_eq_getElem hj]
end
end Go.Sx
namespace Go.Sx
open Go.RowKit
section
variable {P : Program} {F : List Nat} {w0 : Base} {fin : Exit → Act → World → Prop} {k : List It} {s : St}
def yFr (P : Program) (rd : Option Nat) (fin : Exit → Act → World → Prop) (k : List It) (body : Code) (m : Nat) : Act → World → Prop := body.roundsIn (fe rd) 0 P (post P rd fin k) m
theorem zSu (m : Nat) {body : Code} (h : Run P F w0 fin (.code body :: .lp (yFr P w0.rd fin k body m) :: k) s) : Run P F w0 fin (.code (.loop body) :: k) s := fun h' e a w D =>
 wpIn_loop_rounds (m + 1) (wpIn_mono (h h' e a w D) fun e a w hq => by cases e <;> exact hq)
theorem zA5 {m : Nat} {body : Code} {fin' : Exit → Act → World → Prop} {k' : List It} (h : Run P F w0 fin (.code body :: .lp (yFr P w0.rd fin k body m) :: k) s) : Run P F w0 fin' (.lp (yFr P w0.rd fin k body (m + 1)) :: k') s := fun h' e a w D =>
 wpIn_mono (h h' e a w D) fun e a w hq => by cases e <;> exact hq
variable {Q : Exit → Act → World → Prop} {ops : Array Oper} {rest : List Oper}
theorem zFy {t T : Nat} {x : Operand} {U ty : Nat} {pos : String} {af : Array Edge} {s' : St} (hx : ev s x = .nilif) (hk : Nat.beq (kdT P T) 8 = true) (hs : zC0 s t (.bool false) = some s')
  (hn : zAi P F w0 ops Q rest s') : zAi P F w0 ops Q (⟨some t, .binOp .neq T x (.const .nilIface) U, ty, pos, af, none⟩ :: rest) s := fun h e a w D => by
 obtain ⟨ht, rfl⟩ := zA0 hs
 have hv := D.ev x
 rw [hx] at hv
 simp only [rep] at hv
 have hu : ∃ m, P.underlying T = some (.interface m) := by
  have := zz4 hk;unfold kdT at this;split at this <;> first | exact ⟨_, by assumption⟩ | (simp at this)
 obtain ⟨m, hu⟩ := hu
 refine zAf rfl fun K hK => ?_
 unfold Oper.wp
 have hex : (execOp a.eval ⟨some t, .binOp .neq T x (.const .nilIface) U, ty, pos, af, none⟩).run P w = .ok (.value (.bool false)) w := by
  have hc : a.eval (.const .nilIface) = .nilIface := rfl
  have h1 : (Op.equalIn (9999 + 1) T .nilIface .nilIface).run P w = .ok true w := by
   unfold Op.equalIn;rw [Sem.run_bind, run_underlying hu, Result.andThen_ok];rfl
  have h2 : (Op.equal T .nilIface .nilIface).run P w = .ok true w := h1
  have h3 : (binOp .neq T .nilIface .nilIface).run P w = .ok (.bool false) w := by
   show (do pure (.bool (!(← Op.equal T .nilIface .nilIface))) : Sem Value).run P w = _;simp only [Sem.run_bind, h2, Result.andThen_ok, Sem.run_pure, Bool.not_true]
  simp only [execOp, hv, hc, eqGuard_nil_constR, Sem.run_bind, Sem.run_pure, Result.andThen_ok, h3]
 rw [hex]
 exact hK _ _ (hn _ _ _ _ (D.put ht (by simp only [rep])))
end
end Go.Sx
namespace Go.Sx
open Go.RowKit
section
variable {P : Program} {F : List Nat} {w0 : Base} {s : St} {ops : Array Oper} {Q : Exit → Act → World → Prop} {rest : List Oper}
end
end Go.Sx
namespace Go.Sx
open Go.RowKit
section
variable {P : Program} {F : List Nat} {w0 : Base} {s : St}
variable {Q : Exit → Act → World → Prop} {l : List Oper} {s0 : St} {rs : List Rec} {id : Nat} {rest : List Oper}
end
end Go.Sx
namespace Go.Sx
open Go.RowKit
section
variable {P : Program} {F : List Nat} {w0 : Base} {s : St} {ops : Array Oper} {Q : Exit → Act → World → Prop} {rest : List Oper}
theorem zAp {fin : Exit → Act → World → Prop} {k : List It} (id m : Nat) {body : Code} (h : Run P F w0 fin (.code body :: .lp (yFr P w0.rd fin (.blk id :: k) body m) :: .blk id :: k) s) : Run P F w0 fin (.code (.loop body) :: .blk id :: k) s := zSu m h
end
end Go.Sx
namespace Go.Sx
open Go.RowKit
section
variable {P : Program} {F : List Nat} {w0 : Base}
theorem zWk {l : List Oper} {rs : List Rec} {s0 : St} {Q : Exit → Act → World → Prop} (lo hi : Nat) (hhi : hi ≤ l.length) (hbar : ∀ i, hi ≤ i → i < l.length → ∀ j, j < hi → j ∈ (zNe l []).getD i []) (hchk : zGz s0 l rs = true) (hin : zNk s0 rs)
  (hsem : ∀ (j : Nat) (r : Rec) (o : Oper), lo ≤ j → j < hi → rs[j]? = some r → l[j]? = some o → zHi P F w0 l.toArray s0.n o r)
  (hfin : ∀ (fuel : Nat) (listed : Array Bool), listed.size = l.length → DC l listed → left listed l.length ≤ fuel → (∀ j, j < l.length → listed.getD j false = decide (j < hi)) →
   ∀ h e a w, Den F w0 (stS s0 rs (fun j => decide (j < hi)) rs.length) h e a w → wpAnyS P .any l.toArray Q fuel listed a w) :
  ∀ (fuel : Nat) (listed : Array Bool), listed.size = l.length → DC l listed → (∀ j, j < lo → listed.getD j false = true) → (∀ j, hi ≤ j → listed.getD j false = false) → left listed l.length ≤ fuel →
   ∀ h e a w, Den F w0 (stS s0 rs (fun j => listed.getD j false) rs.length) h e a w → wpAnyS P .any l.toArray Q fuel listed a w := by
 simp only [zGz, zz3] at hchk
 obtain ⟨⟨hlen, hlt⟩, hck⟩ := hchk
 have hlen := zz4 hlen
 have allof : ∀ (listed : Array Bool), listed.size = l.length → DC l listed → Region.ready .any l.toArray listed = [] → ∀ n, ∀ j, j < n → j < l.length → listed.getD j false = true := by
  intro listed hsz hdc hr n
  induction n with
  | zero => intro j hj; omega
  | succ n ih =>
   intro j hj hjl;by_cases hjn : j < n
   ·exact ih j hjn hjl
   ·have hoj : l[j]? = some l[j] := List.getElem?_eq_getElem hjl
    cases hx : listed.getD j false with
    | true => rfl
    | false =>
     exfalso
     have : j ∈ Region.ready .any l.toArray listed := by
      rw [mem_ready];refine ⟨?_, l[j], by simp [hoj], fun ed he hb => ?_⟩
      ·simpa [Array.getD_eq_getD_getElem?, show j < listed.size by omega] using hx
      ·have hee : ed.on ∈ zB7 l[j] := List.mem_map.2 ⟨ed, List.mem_filter.2 ⟨by simpa using he, hb⟩, rfl⟩
       have := zB8 hlt j _ hjl hoj _ hee;exact ih ed.on (by omega) (by omega)
     rw [hr] at this;cases this
 have fin : ∀ (fuel : Nat) (listed : Array Bool), listed.size = l.length → DC l listed → (∀ j, hi ≤ j → listed.getD j false = false) → left listed l.length ≤ fuel → (∀ j, j < hi → listed.getD j false = true) →
   ∀ h e a w, Den F w0 (stS s0 rs (fun j => listed.getD j false) rs.length) h e a w → wpAnyS P .any l.toArray Q fuel listed a w := fun fuel listed hsz hdc hge hl hall h e a w D => by
  have hd : ∀ j, listed.getD j false = decide (j < hi) := fun j => by
   by_cases hj : j < hi
   ·rw [hall j hj]; simp [hj]
   ·rw [hge j (by omega)]; simp [hj]
  refine hfin fuel listed hsz hdc hl (fun j _ => hd j) h e a w ?_;have : (fun j => listed.getD j false) = fun j => decide (j < hi) := funext hd;rw [this] at D;exact D
 have sep : ∀ (i j : Nat) (ri rj : Rec), i < j → rs[i]? = some ri → rs[j]? = some rj → i ∈ (zNe l []).getD j [] ∨ (ri.apart1 rj = true ∧ rj.apart1 ri = true) := fun i j ri rj hij hi hj => by
  have hjl : j < rs.length := (List.getElem?_eq_some_iff.1 hj).1;exact zFk (zCo hck j rj hjl hj).1 i ri hij hi
 intro fuel
 induction fuel with
 | zero =>
  intro listed hsz hdc hlo hge hl h e a w D;exact fin 0 listed hsz hdc hge hl (fun j hj => zIc (Nat.le_zero.1 hl) j (by omega)) h e a w D
 | succ fuel ih =>
  intro listed hsz hdc hlo hge hl h e a w D;by_cases hall : ∀ j, j < hi → listed.getD j false = true
  ·exact fin _ listed hsz hdc hge hl hall h e a w D
  refine ⟨fun hr => absurd (fun j hj => allof listed hsz hdc hr l.length j (by omega) (by omega)) hall, fun i hi' => ?_⟩;rw [mem_ready] at hi';obtain ⟨hu, o, ho, hedge⟩ := hi';have ho' : l[i]? = some o := by simpa using ho
  have hil : i < l.length := (List.getElem?_eq_some_iff.1 ho').1;have hu' : listed.getD i false = false := by simpa [Array.getD_eq_getD_getElem?, show i < listed.size by omega] using hu
  have hre : rs[i]? = some rs[i] := List.getElem?_eq_getElem (by omega);generalize rs[i] = r at hre
  have hed : ∀ ed ∈ zB7 o, listed.getD ed false = true := fun ed he => by
   obtain ⟨x, hx, rfl⟩ := List.mem_map.1 he;obtain ⟨h1, h2⟩ := List.mem_filter.1 hx;exact hedge x (by simpa using h1) h2
  have hbef := zO9 hlt hdc i i (Nat.le_refl _) o ho' hed
  have hih : i < hi := by
   by_cases hx : i < hi
   ·exact hx
   ·exact absurd (fun j hj => hbef j (hbar i (by omega) hil j hj)) hall
  have hloi : lo ≤ i := by
   by_cases hx : lo ≤ i
   ·exact hx
   ·have := hlo i (by omega)
    rw [hu'] at this;cases this
  have hlater : ∀ j, i ∈ (zNe l []).getD j [] → j < l.length → listed.getD j false = false := fun j hj hjl => by
   cases hx : listed.getD j false with
   | false => rfl
   | true =>
    have hoj : l[j]? = some l[j] := List.getElem?_eq_getElem hjl;have := zO9 hlt hdc j j (Nat.le_refl _) _ hoj (hdc j _ hoj hx) i hj;rw [hu'] at this;cases this
  have look : ∀ (α : Type) (f : Nat → Option α), (∀ j, f j ≠ none → ∃ q, rs[j]? = some q ∧ (j < i → q.apart1 r = true → False) ∧ (i < j → q.apart1 r = true → False)) →
    zBz f (fun j => listed.getD j false) rs.length = zBz f (fun _ => true) i := fun α f hf => by
   rw [← zMu (f := f) (i := i) (n := rs.length) (by omega)];refine zBu fun j hj hfj => ?_;obtain ⟨q, hq, h1, h2⟩ := hf j hfj;by_cases hji : j < i
   ·rcases sep j i q r hji hq hre with h | h
    ·simp [hbef j h, hji]
    ·exact (h1 hji h.1).elim
   ·by_cases hji' : j = i
    ·subst hji'; simp only [hu', Nat.lt_irrefl, decide_false]
    ·rcases sep i j r q (by omega) hre hq with h | h
     ·simp only [hlater j h (by omega), hji, decide_false]
     ·exact (h2 (by omega) h.2).elim
  obtain ⟨hin1, hin2⟩ := hin i r hre
  have ag1 : ∀ p ∈ r.slots, lkp (stS s0 rs (fun j => listed.getD j false) rs.length).sl p.1 = p.2 := fun p hp => by
   rw [← hin1 p hp, zCv, zCv]
   congr 1
   refine look _ _ fun j hj => ?_;obtain ⟨q, hq, hd, _⟩ := zFv hj
   have : ∀ (_ : q.apart1 r = true), False := fun hap => by
    have := zGr hap hd;simp only [Rec.names, Rec.reads, zI4 hp, Bool.true_or] at this;cases this
   exact ⟨q, hq, fun _ => this, fun _ => this⟩
  have ag2 : ∀ p ∈ r.keys, lkO (stS s0 rs (fun j => listed.getD j false) rs.length).ow p.1 = some p.2 := fun p hp => by
   rw [← hin2 p hp, zDg, zDg]
   have := look _ (wO rs p.1) fun j hj => by
    obtain ⟨q, o, hq, hd, _⟩ := zFw hj
    have : ∀ (_ : q.apart1 r = true), False := fun hap => by
     have := zIj hap hd;simp only [Rec.usesK, zI4 hp, Bool.true_or] at this;cases this
    exact ⟨q, hq, fun _ => this, fun _ => this⟩
   rw [this]
  have noMen : ∀ k, k ∈ r.fresh → ∀ (j : Nat) (q : Rec), rs[j]? = some q → listed.getD j false = true → q.men k = false := fun k hk j q hq hj => by
   have hjl : j < rs.length := (List.getElem?_eq_some_iff.1 hq).1;by_cases hji : j < i
   ·exact zHa ((zCo hck i r (by omega) hre).2 k hk).2 j q hji hq
   ·by_cases hji' : j = i
    ·subst hji'; rw [hu'] at hj; cases hj
    ·rcases sep i j r q (by omega) hre hq with h | h
     ·rw [hlater j h (by omega)] at hj; cases hj
     ·exact zJb h.1 hk
  have ag3 : ∀ k, k ∈ r.fresh → Free (stS s0 rs (fun j => listed.getD j false) rs.length) k := fun k hk => by
   have hf := ((zCo hck i r (by omega) hre).2 k hk).1;have hlt := (Free.of hf).lt;replace hf := (show (Nat.blt k 1000 && !(yB2 k s0.sl || zVv k s0.ow)) = true from hf);simp only [zz3, Bool.not_eq_true', Bool.or_eq_false_iff] at hf;replace hf := hf.2;refine ⟨fun t => ?_, fun j o' hj => ?_, hlt⟩
   ·rw [zCv]
    cases hl : zBz (wS rs t) (fun j => listed.getD j false) rs.length with
    | none => exact zJs hf.1 t
    | some d =>
     obtain ⟨j, h1, h2, h3⟩ := zD1 hl;obtain ⟨q, hq, hd, h4⟩ := zFv (by rw [h3]; simp);rw [h3] at h4;cases h4;have := noMen k hk j q hq h2;simp only [Rec.men, hd, Bool.or_eq_false_iff] at this;exact this.1
   ·rw [zDg] at hj
    cases hl : zBz (wO rs j) (fun j => listed.getD j false) rs.length with
    | none => rw [hl] at hj; exact zGj hf.2 j o' hj
    | some o2 =>
     rw [hl] at hj;simp only at hj;subst hj;obtain ⟨m, h1, h2, h3⟩ := zD1 hl;obtain ⟨q, o3, hq, hd, h4⟩ := zFw (by rw [h3]; simp);rw [h3] at h4;cases h4;have := noMen k hk m q hq h2;simp only [Rec.men, Bool.or_eq_false_iff] at this;have this2 := (List.any_eq_false.1 this.2) _ hd;simp only [yGk, Bool.or_eq_true, not_or, Bool.not_eq_true] at this2;refine ⟨zB2 this2.1, fun x hx => ?_, fun kd x hx => ?_⟩
     ·subst hx; exact this2.2
     ·subst hx; exact this2.2
  have hgo := hsem i r o hloi hih hre ho' _ (zHs s0 rs _ _) ag1 ag2 ag3 h e a w D (wpAnyS P .any l.toArray Q fuel (listed.setIfInBounds i true)) Q ?_
  ·unfold zTz
   simp only [ho];split
   ·rename_i hw
    rw [if_pos hw] at hgo;exact hgo
   ·rename_i hw
    rw [if_neg hw] at hgo;exact hgo
  ·intro h' e' a' w' D'
   have hS' : ∀ j, (listed.setIfInBounds i true).getD j false = (listed.getD j false || decide (j = i)) := fun j => by
    by_cases hji : j = i
    ·subst hji; simp [Array.getD_eq_getD_getElem?, show j < listed.size by omega]
    ·rw [getD_set_ne false (fun e => hji e.symm)]; simp [hji]
   refine ih _ (by simp [hsz]) ?_ (fun j hj => by rw [hS', hlo j hj]; rfl) (fun j hj => by rw [hS', hge j hj]; simp; omega) ?_ h' e' a' w' (D'.congr ?_ ?_ ?_)
   ·intro j oj hoj hj ed hed'
    rw [hS'] at hj;rw [hS'];by_cases hji : j = i
    ·subst hji
     rw [ho'] at hoj;cases hoj;simp [hed ed hed']
    ·simp only [hji, decide_false, Bool.or_false] at hj
     simp [hdc j oj hoj hj ed hed']
   ·have := zJu (listed := listed) (i := i) (by omega) hu' (n := l.length) hil
    omega
   ·simp [Rec.app, zHs]
   ·intro t
    rw [zCv];cases hw : wS rs t i with
    | some d =>
     obtain ⟨q, hq, hd, h4⟩ := zFv (rs := rs) (t := t) (j := i) (by rw [hw]; simp);rw [hre] at hq;cases hq;rw [hw] at h4;cases h4;rw [zF6 hS' hw (by omega) fun j h1 h2 h3 => ?_]
     ·simp [Rec.app, hd, zCg]
     ·obtain ⟨q, hq, hd', _⟩ := zFv h3
      rcases sep i j r q h1 hre hq with h | h
      ·exact hlater j h (by omega)
      ·have := zGr h.1 hd
       simp [Rec.names, hd'] at this
    | none =>
     rw [zGn hS' hw];have : ∀ t', r.dst = some t' → ¬ t = t' := fun t' ht' he => by subst he; simp [wS, hre, ht'] at hw
     simp only [Rec.app];cases hd : r.dst with
     | none => simp [zCv]
     | some t' => simp only [zCg, this t' hd, if_false, zCv]
   ·intro k
    rw [zDg];cases hw : wO rs k i with
    | some d =>
     obtain ⟨q, o2, hq, hd, h4⟩ := zFw (rs := rs) (t := k) (j := i) (by rw [hw]; simp);rw [hre] at hq;cases hq;rw [hw] at h4;cases h4;rw [zF6 hS' hw (by omega) fun j h1 h2 h3 => ?_]
     ·have : lkU r.ow k = some d := by simpa [wO, hre] using hw
      simp only [Rec.app, zFd, this]
     ·obtain ⟨q, o3, hq, hd', _⟩ := zFw h3
      rcases sep i j r q h1 hre hq with h | h
      ·exact hlater j h (by omega)
      ·have := zIj h.1 hd
       simp only [Rec.usesK, zI4 hd', Bool.or_true] at this;cases this
    | none =>
     rw [zGn hS' hw];have : lkU r.ow k = none := by simpa [wO, hre] using hw
     simp only [Rec.app, zFd, this, zDg]
end
end Go.Sx
namespace Go.Sx
open Go.RowKit
def zLc : Rec := ⟨[], [], none, .any, [], []⟩
def barB (l : List Oper) (m : Nat) : Bool := (List.range l.length).all fun i => Nat.blt i m || ((List.range m).all fun j => zCq j ((zNe l []).getD i [])) && (Nat.beq i m || zCq m ((zNe l []).getD i []))
def yE7 (s0 : St) (l : List Oper) (rs : List Rec) (s' : St) (rs2 : List Rec) : Bool :=
 zK9 l && zGz s0 l (rs ++ List.replicate (l.length - rs.length) zLc) && zGz s' l (List.replicate (rs.length + 1) zLc ++ rs2) && barB l rs.length && Nat.blt rs.length l.length
def OpT (P : Program) (F : List Nat) (w0 : Base) (o : Oper) (s s' : St) : Prop := ∀ h e a w, Den F w0 s h e a w → ∀ (K : Act → World → Prop) (Q : Exit → Act → World → Prop), (∀ h' e' a' w', Den F w0 s' h' e' a' w' → K a' w') → o.wp P a w K Q
section
variable {P : Program} {F : List Nat} {w0 : Base} {Q fin : Exit → Act → World → Prop} {l : List Oper} {s0 s : St} {rs : List Rec} {id : Nat} {k : List It}
theorem Leq.rfl' {a : St} : Leq a a := ⟨rfl, fun _ => rfl, fun _ => rfl⟩
theorem Leq.dum (a : St) : Leq a (zLc.app a) := ⟨rfl, fun _ => rfl, fun _ => rfl⟩
structure zL5 (lo : Nat) (P : Program) (F : List Nat) (w0 : Base) (l : List Oper) (s0 : St) (rs : List Rec) (rest : List Oper) (s : St) : Prop where
 rest : rest = l.drop rs.length
 ord : zNk s0 rs
 sem : ∀ (j : Nat) (r : Rec) (o : Oper), lo ≤ j → rs[j]? = some r → l[j]? = some o → zHi P F w0 l.toArray s0.n o r
 now : Leq s (stS s0 rs (fun _ => true) rs.length)
theorem zL5.snoc {lo : Nat} {rest : List Oper} {o : Oper} {r : Rec} {s' : St} (K : zL5 lo P F w0 l s0 rs (o :: rest) s) (h1 : ∀ p ∈ r.slots, lkp s.sl p.1 = p.2) (h2 : ∀ p ∈ r.keys, lkO s.ow p.1 = some p.2)
  (h3 : zHi P F w0 l.toArray s.n o r) (h4 : Leq s' (r.app s)) : zL5 lo P F w0 l s0 (rs ++ [r]) rest s' := by
 have hn : s.n = s0.n := K.now.1.trans (by rw [zHs])
 have hat : l[rs.length]? = some o := by
  have := congrArg (·[0]?) K.rest;simpa using this.symm
 refine ⟨?_, fun j q hq => ?_, fun j q o' hlo hq ho' => ?_, ?_⟩
 ·have := congrArg List.tail K.rest
  simpa using this
 ·by_cases hj : j < rs.length
  ·rw [List.getElem?_append_left hj] at hq
   rw [zCb rs [r] _ j (by omega)];exact K.ord j q hq
  ·have hjl : j = rs.length := by
    have := (List.getElem?_eq_some_iff.1 hq).1;simp at this;omega
   subst hjl;simp only [List.getElem?_append_right (Nat.le_refl _), Nat.sub_self, List.getElem?_cons_zero, zz1] at hq;subst hq;rw [zCb rs [r] _ _ (Nat.le_refl _)];exact ⟨fun p hp => by rw [← K.now.2.1]; exact h1 p hp, fun p hp => by rw [← K.now.2.2]; exact h2 p hp⟩
 ·by_cases hj : j < rs.length
  ·rw [List.getElem?_append_left hj] at hq
   exact K.sem j q o' hlo hq ho'
  ·have hjl : j = rs.length := by
    have := (List.getElem?_eq_some_iff.1 hq).1;simp at this;omega
   subst hjl;simp only [List.getElem?_append_right (Nat.le_refl _), Nat.sub_self, List.getElem?_cons_zero, zz1] at hq;subst hq;rw [hat] at ho';cases ho';rw [← hn];exact h3
 ·refine h4.trans ?_
  simp only [List.length_append, List.length_cons, List.length_nil, Nat.zero_add, stS, List.getElem?_append_right (Nat.le_refl _), Nat.sub_self, List.getElem?_cons_zero, if_true];rw [zCb rs [r] _ _ (Nat.le_refl _)];exact K.now.app r
theorem zLl {lo : Nat} : ∀ {r r' : List Oper} {s s' : St} {p : List Prop} {rs : List Rec}, zPn P l r s = (p, s', r') → zAn p → zL5 lo P F w0 l s0 rs r s → zL5 lo P F w0 l s0 (rs ++ zAw P l r s) r' s'
 | [], _, _, _, _, _, h, _, K => by
  simp only [zPn, Prod.mk.injEq] at h;obtain ⟨_, rfl, rfl⟩ := h;simpa [zAw] using K
 | o :: r, r', s, s', p, rs, h, hp, K => by
  simp only [zPn] at h;simp only [zAw];split at h
  ·rename_i p1 s1 h1
   generalize hrec : zPn P l r s1 = res at h;obtain ⟨q, s2, r2⟩ := res;simp only [Prod.mk.injEq] at h;obtain ⟨rfl, rfl, rfl⟩ := h;have hp' := zHh.1 hp;obtain ⟨g1, g2⟩ := semA (F := F) (w0 := w0) h1 hp'.1;have K1 := K.snoc zGh.1 zGh.2 g1 g2;have := zLl hrec hp'.2 K1;simp only [h1];simpa [List.append_assoc] using this
  ·rename_i h1
   simp only [Prod.mk.injEq] at h;obtain ⟨_, rfl, rfl⟩ := h;simp only [h1];simpa using K
theorem zPk (m : Nat) (S : Nat → Bool) (rs2 : List Rec) : ∀ j, (∀ i, m ≤ i → i < j → S i = false) → Leq s (stS s (List.replicate m zLc ++ rs2) S j)
 | 0, _ => Leq.rfl'
 | j + 1, h => by
  have ih := zPk m S rs2 j fun i h1 h2 => h i h1 (by omega);simp only [stS];by_cases hj : j < m
  ·rw [List.getElem?_append_left (by simpa using hj), List.getElem?_replicate, if_pos hj]
   simp only;cases S j
   ·exact ih
   ·exact ih.trans (Leq.dum _)
  ·rw [h j (by omega) (by omega)]
   cases (List.replicate m zLc ++ rs2)[j]? with
   | none => exact ih
   | some r => exact ih
theorem zUd (rs2 : List Rec) : ∀ j, stS s0 (rs ++ rs2) (fun i => decide (i < rs.length)) (rs.length + j) = stS s0 rs (fun _ => true) rs.length
 | 0 => by
  rw [Nat.add_zero, zCb rs rs2 _ _ (Nat.le_refl _)]
  have : ∀ j, j ≤ rs.length → stS s0 rs (fun i => decide (i < rs.length)) j = stS s0 rs (fun _ => true) j := by
   intro j
   induction j with
   | zero => intro _; rfl
   | succ j ih =>
    intro hj;simp only [stS, ih (by omega), show j < rs.length by omega, decide_true]
  exact this _ (Nat.le_refl _)
 | j + 1 => by
  have ih := zUd rs2 j;rw [← Nat.add_assoc];simp only [stS, show ¬ rs.length + j < rs.length by omega, decide_false];rw [ih];cases (rs ++ rs2)[rs.length + j]? <;> rfl
theorem yCw {m : Nat} (h : barB l m = true) : (∀ i, m ≤ i → i < l.length → ∀ j, j < m → j ∈ (zNe l []).getD i []) ∧ ∀ i, m < i → i < l.length → m ∈ (zNe l []).getD i [] := by
 have key : ∀ i, m ≤ i → i < l.length → (∀ j, j < m → j ∈ (zNe l []).getD i []) ∧ (i = m ∨ m ∈ (zNe l []).getD i []) := fun i h1 h2 => by
  have := (List.all_eq_true.1 h) i (List.mem_range.2 h2);simp only [Bool.or_eq_true, zz3] at this
  rcases this with h3 | ⟨h3, h4⟩
  ·have := zAm h3; omega
  ·refine ⟨fun j hj => zCd.1 ((List.all_eq_true.1 h3) j (List.mem_range.2 hj)), ?_⟩
   rcases h4 with h4 | h4
   ·exact .inl (zz4 h4)
   ·exact .inr (zCd.1 h4)
 refine ⟨fun i h1 h2 => (key i h1 h2).1, fun i h1 h2 => ?_⟩
 rcases (key i (by omega) h2).2 with h3 | h3
 ·omega
 ·exact h3
theorem yBk {o : Oper} {rest : List Oper} {s' s'' : St} {p : List Prop} (hm : P.follows .mixedOrders = true) (hgd : o.guard = none) (hop : OpT P F w0 o s s') (hq : zPn P l rest s' = (p, s'', [])) (hp : zAn p)
  (hc : yE7 s0 l rs s' (zAw P l rest s') = true) (hn' : Nat.beq s.n s'.n = true) (h : Run P F w0 fin k s'') : zAy P F w0 (post P w0.rd fin k) id l s0 rs (o :: rest) s := fun K h' e a w D => by
 simp only [yE7, zz3] at hc
 obtain ⟨⟨⟨⟨hnd, hc1⟩, hc2⟩, hb⟩, hml⟩ := hc
 have hml := zAm hml
 obtain ⟨hb1, hb2⟩ := yCw hb
 have hn' := zz4 hn'
 have hat : l[rs.length]? = some o := by
  have := congrArg (·[0]?) K.rest;simpa using this.symm
 have hlt : zI2 l l.length = true := by
  simp only [zGz, zz3] at hc1;exact hc1.1.2
 have hrep : ∀ j, (Array.replicate l.length false).getD j false = false := fun j => by
  simp only [Array.getD_eq_getD_getElem?, Array.getElem?_replicate];split <;> rfl
 have K2 : zL5 (rs.length + 1) P F w0 l s' (List.replicate (rs.length + 1) zLc ++ zAw P l rest s') [] s'' := by
  refine zLl hq hp ⟨?_, fun j r hj => ?_, fun j r o' hlo hj => ?_, ?_⟩
  ·have := congrArg List.tail K.rest
   simpa using this
  ·rw [List.getElem?_replicate] at hj
   split at hj
   ·cases hj; exact ⟨fun p hp => by simp [zLc] at hp, fun p hp => by simp [zLc] at hp⟩
   ·cases hj
  ·rw [List.getElem?_replicate, if_neg (by omega)] at hj; cases hj
  ·have := zPk (s := s') (rs.length + 1) (fun _ => true) [] (List.replicate (rs.length + 1) zLc).length (fun i h1 h2 => by simp at h2; omega)
   simpa using this
 have hlen2 : (List.replicate (rs.length + 1) zLc ++ zAw P l rest s').length = l.length := by
  simp only [zGz, zz3] at hc2;exact zz4 hc2.1.1
 refine wpIn_region_any hm (zFu hnd ?_)
 refine zWk (P := P) (F := F) (w0 := w0) (rs := rs ++ List.replicate (l.length - rs.length) zLc) (s0 := s0) 0 rs.length (by omega) hb1 hc1 (fun j r hj => ?_) (fun j r o' _ hj hr ho' => ?_) (fun fuel listed hsz hdc hl hset h1 e1 a1 w1 D1 => ?_) l.length (Array.replicate l.length false) (by simp)
  (fun i o _ hi => by rw [hrep] at hi; cases hi) (fun j hj => by omega) (fun j _ => hrep j) ?_ h' e a _ ?_
 ·by_cases hjl : j < rs.length
  ·rw [List.getElem?_append_left hjl] at hj
   rw [zCb rs _ _ j (by omega)];exact K.ord j r hj
  ·rw [List.getElem?_append_right (by omega), List.getElem?_replicate] at hj
   split at hj
   ·cases hj; exact ⟨fun p hp => by simp [zLc] at hp, fun p hp => by simp [zLc] at hp⟩
   ·cases hj
 ·rw [List.getElem?_append_left hj] at hr
  exact K.sem j r o' hr ho'
 ·
  have D1' : Den F w0 s h1 e1 a1 w1 := by
   have e2 : (rs ++ List.replicate (l.length - rs.length) zLc).length = rs.length + (l.length - rs.length) := by simp
   rw [e2, zUd] at D1;exact D1.congr K.now.1.symm (fun t => (K.now.2.1 t).symm) fun t => (K.now.2.2 t).symm
  cases fuel with
  | zero =>
   have := zIc (Nat.le_zero.1 hl) rs.length hml;rw [hset _ hml] at this;simp at this
  | succ fuel =>
   refine ⟨fun hr => ?_, fun i hi => ?_⟩
   ·exfalso
    have : rs.length ∈ Region.ready .any l.toArray listed := by
     rw [mem_ready];refine ⟨?_, o, by simpa using hat, fun ed he hb => ?_⟩
     ·have := hset _ hml
      simp only [Nat.lt_irrefl, decide_false] at this;simpa [Array.getD_eq_getD_getElem?, show rs.length < listed.size by omega] using this
     ·have hee : ed.on ∈ zB7 o := List.mem_map.2 ⟨ed, List.mem_filter.2 ⟨by simpa using he, hb⟩, rfl⟩
      have hlt' := zB8 hlt rs.length _ hml hat _ hee;have := hset ed.on (by omega);rw [this];simpa using hlt'
    rw [hr] at this;cases this
   ·rw [mem_ready] at hi
    obtain ⟨hu, o', ho, hedge⟩ := hi;have ho' : l[i]? = some o' := by simpa using ho
    have hil : i < l.length := (List.getElem?_eq_some_iff.1 ho').1;have hu' : listed.getD i false = false := by simpa [Array.getD_eq_getD_getElem?, show i < listed.size by omega] using hu
    have him : ¬ i < rs.length := fun hc => by
     have := hset i hil;rw [hu'] at this;simp [hc] at this
    have hi : i = rs.length := by
     by_cases hx : i = rs.length
     ·exact hx
     ·have hed : ∀ ed ∈ zB7 o', listed.getD ed false = true := fun ed he => by
       obtain ⟨x, hx, rfl⟩ := List.mem_map.1 he;obtain ⟨h1, h2⟩ := List.mem_filter.1 hx;exact hedge x (by simpa using h1) h2
      have := zO9 hlt hdc i i (Nat.le_refl _) o' ho' hed _ (hb2 i (by omega) hil);rw [hset _ hml] at this;simp at this
    subst hi;rw [hat] at ho';cases ho'
    have hS' : ∀ j, (listed.setIfInBounds rs.length true).getD j false = (listed.getD j false || decide (j = rs.length)) := fun j => by
     by_cases hji : j = rs.length
     ·subst hji; simp [Array.getD_eq_getD_getElem?, show rs.length < listed.size by omega]
     ·rw [getD_set_ne false (fun e => hji e.symm)]; simp [hji]
    have hout : ∀ j, l.length ≤ j → listed.getD j false = false := fun j hj => by
     simp [Array.getD_eq_getD_getElem?, show ¬ j < listed.size by omega]
    have goal : o.wp P a1 w1 (wpAnyS P .any l.toArray (post P w0.rd fin k) fuel (listed.setIfInBounds rs.length true)) (post P w0.rd fin k) := by
     refine hop h1 e1 a1 w1 D1' _ _ fun h2 e2 a2 w2 D2 => ?_
     refine zWk (P := P) (F := F) (w0 := w0) (rs := List.replicate (rs.length + 1) zLc ++ zAw P l rest s') (s0 := s') (rs.length + 1) l.length (Nat.le_refl _) (fun i h1 h2 => by omega) hc2 K2.ord (fun j r o' hlo _ hj ho' => K2.sem j r o' hlo hj ho')
      (fun fuel2 listed2 hsz2 hdc2 hl2 hset2 h3 e3 a3 w3 D3 => ?_) fuel _ (by simp [hsz]) ?_ (fun j hj => ?_) (fun j hj => ?_) ?_ h2 e2 a2 w2 ?_
     ·have hr : Region.ready .any l.toArray listed2 = [] := by
       cases hr : Region.ready .any l.toArray listed2 with
       | nil => rfl
       | cons i r =>
        have hi : i ∈ Region.ready .any l.toArray listed2 := by rw [hr]; simp
        rw [mem_ready] at hi;obtain ⟨q1, o2, q2, _⟩ := hi
        have hil : i < l.length := by
         have := (Array.getElem?_eq_some_iff.1 q2).1;simpa using this
        have := hset2 i hil;simp only [hil, decide_true] at this;simp [Array.getD_eq_getD_getElem?, show i < listed2.size by omega] at this q1;rw [this] at q1;cases q1
      have hall : (fun j => decide (j < l.length)) = fun j => decide (j < (List.replicate (rs.length + 1) zLc ++ zAw P l rest s').length) := by rw [hlen2]
      have hQ : post P w0.rd fin k .normal a3 w3 := by
       refine h h3 e3 a3 w3 (D3.congr ?_ (fun t => ?_) fun t => ?_)
       ·rw [zHs]; exact (K2.now.1.trans (by rw [zHs])).symm
       ·rw [K2.now.2.1, zCv, zCv]
        congr 1
        exact zBu fun j hj _ => by rw [← hlen2]; simpa using hj
       ·rw [K2.now.2.2, zDg, zDg]
        have : zBz (wO (List.replicate (rs.length + 1) zLc ++ zAw P l rest s') t) (fun j => decide (j < l.length)) (List.replicate (rs.length + 1) zLc ++ zAw P l rest s').length = zBz (wO (List.replicate (rs.length + 1) zLc ++ zAw P l rest s') t) (fun _ => true) (List.replicate (rs.length + 1) zLc ++ zAw P l rest s').length :=
         zBu fun j hj _ => by rw [← hlen2]; simpa using hj
        rw [this]
      cases fuel2 with
      | zero => exact ⟨hr, hQ⟩
      | succ f => exact ⟨fun _ => hQ, fun i hi => by rw [hr] at hi; cases hi⟩
     ·intro j oj hoj hj ed hed'
      rw [hS'] at hj;rw [hS'];by_cases hji : j = rs.length
      ·subst hji
       rw [hat] at hoj;cases hoj;have hlt' := zB8 hlt rs.length _ hml hat _ hed';have := hset ed (by omega);rw [this];simp [hlt']
      ·simp only [hji, decide_false, Bool.or_false] at hj
       simp [hdc j oj hoj hj ed hed']
     ·rw [hS']
      by_cases hji : j = rs.length
      ·simp [hji]
      ·rw [hset j (by omega)]; simp; omega
     ·rw [hS', hout j hj]; simp; omega
     ·have := zJu (listed := listed) (i := rs.length) (by omega) hu' (n := l.length) hml
      omega
     ·have := zPk (s := s') (rs.length + 1) (fun j => (listed.setIfInBounds rs.length true).getD j false) (zAw P l rest s') (List.replicate (rs.length + 1) zLc ++ zAw P l rest s').length fun i h1 h2 => by
       rw [hS', hset i (by omega)];simp; omega
      exact D2.congr this.1 this.2.1 this.2.2
    unfold zTz;simp only [ho];rw [if_pos (by simp [Region.wanted, hgd])];exact goal
 ·have : ∀ n, left (Array.replicate l.length false) n = n := fun n => by induction n with
   | zero => rfl
   | succ n ih => simp only [left, hrep, ih]; simp; omega
  rw [this];exact Nat.le_refl _
 ·have : (fun j => (Array.replicate l.length false).getD j false) = fun _ => false := funext hrep
  rw [this];refine (show Den F w0 s0 h' e a w.drew from D.drew).congr (by rw [zHs]) (fun t => ?_) fun t => ?_
  ·rw [zCv]
   have : ∀ rs : List Rec, ∀ n, zBz (wS rs t) (fun _ => false) n = none := fun rs n => by induction n with
    | zero => rfl
    | succ n ih => simp [zBz, ih]
   rw [this]; rfl
  ·rw [zDg]
   have : ∀ rs : List Rec, ∀ n, zBz (wO rs t) (fun _ => false) n = none := fun rs n => by induction n with
    | zero => rfl
    | succ n ih => simp [zBz, ih]
   rw [this]
end
end Go.Sx
namespace Go.Sx
open Go.RowKit
section
variable {P : Program} {F : List Nat} {w0 : Base} {s : St} {h : Hp} {e : Nm} {a : Act} {w : World} {Q fin : Exit → Act → World → Prop} {ops : Array Oper} {rest : List Oper}
theorem SLe.any1 {d : SD} : SLe d .any := fun h e v x => by simp only [rep]
end
end Go.Sx
namespace Go.Sx
open Go.RowKit
structure Anch (h0 : Hp) (bl : List Nat) (b0 : zB0) : Prop where
 le : Le h0 b0.h
 fx : ∀ (i b : Nat), bl[i]? = some b → b0.fix[i]? = some b
structure zZj (P : Program) (f : Nat) (h0 : Hp) (bl : List Nat) (R : List SD → List OB → SD → List (Nat × OB) → Prop) : Prop where
 call : ∀ args w, (callFunc f args).run P w = .ok (.enter f args) w
 ok : ∀ ds os d os', R ds os d os' → ∀ h e w vs (gh : GH h), Le h0 h → (∀ (i b : Nat), bl[i]? = some b → e.bs (1000 + i) = b) → Sub h w → repT h ds e vs → (∀ (i : Nat) (o : OB), os[i]? = some o → zDp h e w (1000 + i) o) → (∀ b, b ∈ zC1 e 1000 os → h b = none) →
  (∀ (i j : Nat) (o o' : OB) (b : Nat), i ≠ j → os[i]? = some o → os[j]? = some o' → o.blk e (1000 + i) = some b → o'.blk e (1000 + j) ≠ some b) →
  Calls P f vs.toArray w (zA8 (zC1 e 1000 os) ⟨w, h, zIg e os, gh⟩ d os')
structure zTp (P : Program) (l : Nat) (h0 : Hp) (bl : List Nat) (R : List SD → List OB → SD → List (Nat × OB) → Prop) : Prop where
 ok : ∀ ds os d os', R ds os d os' → ∀ h e w vs (gh : GH h), Le h0 h → (∀ (i b : Nat), bl[i]? = some b → e.bs (1000 + i) = b) → Sub h w → repT h ds e vs → (∀ (i : Nat) (o : OB), os[i]? = some o → zDp h e w (1000 + i) o) → (∀ b, b ∈ zC1 e 1000 os → h b = none) →
  (∀ (i j : Nat) (o o' : OB) (b : Nat), i ≠ j → os[i]? = some o → os[j]? = some o' → o.blk e (1000 + i) = some b → o'.blk e (1000 + j) ≠ some b) →
  YieldAt Fence.wide 0 P l vs.toArray w (zA8 (zC1 e 1000 os) ⟨w, h, zIg e os, gh⟩ d os')
theorem zFh {e : Nm} {os : List OB} {i : Nat} (h : i < os.length) : (zIg e os)[i]? = some (e.bs (1000 + i)) := by
 simp only [zIg, List.getElem?_map, List.getElem?_range h, Option.map_some]
section
variable {P : Program} {F : List Nat} {w0 : Base} {s : St} {h : Hp} {e : Nm} {a : Act} {w : World}
theorem Den.passF (D : Den F w0 s h e a w) {ks : List Nat} {ds0 ds : List SD} {os : List OB} (C : yC4 s ks ds0 ds os) {vs : List Value} (hv : repT h ds0 e vs) :
  repT h ds (e.inn ks) vs ∧ (∀ (i : Nat) (o : OB), os[i]? = some o → zDp h (e.inn ks) w (1000 + i) o) ∧ (∀ b, b ∈ zC1 (e.inn ks) 1000 os → h b = none) ∧
  (∀ (i j : Nat) (o o' : OB) (b : Nat), i ≠ j → os[i]? = some o → os[j]? = some o' → o.blk (e.inn ks) (1000 + i) = some b → o'.blk (e.inn ks) (1000 + j) ≠ some b) := by
 have hag := zWb (e := e) (ks := ks)
 have hi : ∀ {i : Nat} {o : OB}, os[i]? = some o → i < ks.length := fun {i o} ho => by have := (List.getElem?_eq_some_iff.1 ho).1; rw [C.len] at this; exact this
 have hidx : ∀ i, i < ks.length → tau ks (zC3 ks i) = 1000 + i := fun i hi => zMz ks i 1000 hi C.nd
 have hb : ∀ {i : Nat} {o : OB} {b : Nat}, os[i]? = some o → o.blk (e.inn ks) (1000 + i) = some b → ∃ o0, lkO s.ow (zC3 ks i) = some o0 ∧ o0.blk e (zC3 ks i) = some b := fun {i o b} ho hb => by
  obtain ⟨o0, h1, rfl, h3⟩ := C.obj i o ho;refine ⟨o0, h1, ?_⟩;cases o0 <;> simpa [zJo, OB.blk, Nm.inn] using hb
 refine ⟨?_, fun i o ho => ?_, fun b hbb => ?_, fun i j o o' b hij ho ho' hbl => ?_⟩
 ·rw [C.ds]
  exact (zDb ds0 vs).2 (zGf hag ds0 vs C.arg hv)
 ·obtain ⟨o0, h1, rfl, h3⟩ := C.obj i o ho
  rw [← hidx i (hi ho)];refine (zH7 o0).2 (zGi hag o0 ?_ h3 (D.own _ o0 h1));have := zCd.2 (zEg (hi ho));cases o0.isAcc
  ·exact this
  ·exact this
 ·obtain ⟨i, o, h1, h2⟩ := zDk.1 hbb
  obtain ⟨o0, h3, h4⟩ := hb h1 h2;exact (D.ownb _ o0 b h3 h4).2
 ·obtain ⟨o0, h3, h4⟩ := hb ho hbl
  intro hc;obtain ⟨o1, h5, h6⟩ := hb ho' hc;refine D.apart _ _ o0 o1 b (fun hc => hij ?_) h3 h5 h4 h6;have h7 := hidx i (hi ho);have h8 := hidx j (hi ho');rw [hc, h8] at h7;omega
def zQj (ks : List Nat) : List Nat → Nat → Bool
 | [], _ => true
 | _ :: r, i => Nat.beq (zC3 ks i) (1000 + i) && zQj ks r (i + 1)
theorem zSh {ks : List Nat} : ∀ {bl : List Nat} {i : Nat}, zQj ks bl i = true → ∀ (j b : Nat), bl[j]? = some b → zC3 ks (i + j) = 1000 + (i + j)
 | [], _, _, j, b, h => by simp at h
 | x :: r, i, hk, 0, b, _ => by
  simp only [zQj, zz3] at hk;exact zz4 hk.1
 | x :: r, i, hk, j + 1, b, h => by
  simp only [zQj, zz3] at hk;have := zSh hk.2 j b (by simpa using h);rw [show i + (j + 1) = i + 1 + j by omega];exact this
theorem Den.anch (D : Den F w0 s h e a w) {h0 : Hp} {bl : List Nat} (ha : Anch h0 bl w0.b0) {ks : List Nat} (hk : zQj ks bl 0 = true) : Le h0 h ∧ ∀ (i b : Nat), bl[i]? = some b → (e.inn ks).bs (1000 + i) = b := by
 refine ⟨ha.le.trans D.le, fun i b hb => ?_⟩
 have h1 := zSh hk i b hb
 rw [Nat.zero_add] at h1
 simp only [Nm.inn, Nat.add_sub_cancel_left, h1]
 exact D.fix i b (ha.fx i b hb)
variable {Q : Exit → Act → World → Prop} {ops : Array Oper} {rest : List Oper} {h0 : Hp} {bl : List Nat}
theorem zLf {f t : Nat} {args : Array Operand} {tys : Array Nat} {ty : Nat} {pos : String} {af : Array Edge} {R : List SD → List OB → SD → List (Nat × OB) → Prop} (ks : List Nat) {ds : List SD} {os : List OB} {d : SD} {os' : List (Nat × OB)} {s' : St} (hf : zZj P f h0 bl R)
  (han : Anch h0 bl w0.b0) (hak : zQj ks bl 0 = true) (hnd : nodupB ks = true) (ha : zI7 (tau ks) (args.toList.map (unG s)) = ds) (hal : zC6 (fun x => zCq x ks) (fun x => zCq x ks) (args.toList.map (unG s)) = true) (ho : zPd s ks ks = some os) (hg : zAn (gCs s args.toList [])) (hR : R ds os d os')
  (hs : zJa s t ks os d os' = some s') (hn : zAi P F w0 ops Q rest s') : zAi P F w0 ops Q (⟨some t, .call ⟨.value (.func f), args, tys⟩, ty, pos, af, none⟩ :: rest) s := fun h e a w D => by
 refine zAf rfl fun K hK => ?_
 unfold Oper.wp
 rw [zI3 hf.call]
 obtain ⟨q1, q2, q3, q4⟩ := D.passF (zS3 hnd ha hal ho) (zA1 D (zAt hg).1 fun _ hx => hx)
 obtain ⟨q5, q6⟩ := D.anch han hak
 refine (hf.ok ds os d os' hR h (e.inn ks) w _ D.gh q5 q6 D.sub q1 q2 q3 q4).mono fun en w' hq => ?_
 obtain ⟨v, h', e', rfl, D'⟩ := D.afterM ho hs hq
 exact hK _ _ (hn _ _ _ _ D')
theorem zGd {t j l : Nat} {args : Array Operand} {tys : Array Nat} {ty : Nat} {pos : String} {af : Array Edge} {R : List SD → List OB → SD → List (Nat × OB) → Prop} (ks : List Nat) {ds : List SD} {os : List OB} {d : SD} {os' : List (Nat × OB)} {s' : St} (hf : zTp P l h0 bl R) (hj : lkp s.sl j = .yld l)
  (han : Anch h0 bl w0.b0) (hak : zQj ks bl 0 = true) (hnd : nodupB ks = true) (ha : zI7 (tau ks) (args.toList.map (unG s)) = ds) (hal : zC6 (fun x => zCq x ks) (fun x => zCq x ks) (args.toList.map (unG s)) = true) (ho : zPd s ks ks = some os) (hg : zAn (gCs s args.toList [])) (hR : R ds os d os')
  (hs : zJa s t ks os d os' = some s') (hn : zAi P F w0 ops Q rest s') : zAi P F w0 ops Q (⟨some t, .call ⟨.value (.tmp j), args, tys⟩, ty, pos, af, none⟩ :: rest) s := fun h e a w D => by
 refine yAo rfl fun K hK r => ?_
 have hv := D.slot j
 rw [hj] at hv
 simp only [rep] at hv
 obtain ⟨q1, q2, q3, q4⟩ := D.passF (zS3 hnd ha hal ho) (zA1 D (zAt hg).1 fun _ hx => hx)
 obtain ⟨q5, q6⟩ := D.anch han hak
 obtain ⟨fn, tmps, assign, body, hy, hR'⟩ := hf.ok ds os d os' hR h (e.inn ks) w _ D.gh q5 q6 D.sub q1 q2 q3 q4
 refine ⟨fun f _ => zYw r f, ?_⟩
 rw [zYv]
 have hsem : (Oper.semAt r a.eval ⟨some t, .call ⟨.value (.tmp j), args, tys⟩, ty, pos, af, none⟩) = execOp a.eval ⟨some t, .call ⟨.value (.tmp j), args, tys⟩, ty, pos, af, none⟩ := Oper.semAt_eq _ _ _ fun c hc => by cases hc
 rw [hsem]
 have harr : (args.toList.map a.eval).toArray = args.map a.eval := by apply Array.ext'; simp
 have hrun : (execOp a.eval ⟨some t, .call ⟨.value (.tmp j), args, tys⟩, ty, pos, af, none⟩).run P w = .ok (.round l fn tmps assign body) w := by
  have hev : a.eval (.tmp j) = .func (.yield l) #[] #[] := hv;rw [harr] at hy;simp [execOp, resolve, hev, Deferred.ofValue, invoke, hy]
 rw [hrun, Oper.uponIn_round]
 refine ⟨yCh r, ?_⟩
 have hR2 : RoundIn (fe r) (0 - 1) P l fn tmps assign body w (zA8 (zC1 (e.inn ks) 1000 os) ⟨w, h, zIg (e.inn ks) os, D.gh⟩ d os') := by
  cases r with
  | none => exact hR'
  | some l' => exact hR'
 refine hR2.mono fun en w' hq => ?_
 obtain ⟨v, h', e', rfl, D'⟩ := D.afterM ho hs hq
 exact hK _ _ (hn _ _ _ _ D')
end
theorem zGo {P : Program} {f : Nat} {fn : Func} {c : Code} {n : Nat} {h0 : Hp} {bl : List Nat} {R : List SD → List OB → SD → List (Nat × OB) → Prop} (hcall : ∀ args w, (callFunc f args).run P w = .ok (.enter f args) w) (hf : P.funcs[f]? = some fn) (hb : fn.body = some c) (hn : fn.ntmps = n)
  (hrun : ∀ ds os d os', R ds os d os' → ds.length ≤ n ∧ bl.length ≤ os.length ∧ ∀ (F : List Nat) (w0 : zB0), Anch h0 bl w0 → Run P F w0.std (bodyPost P fn (zA8 F w0 d os')) [.code c] ⟨n, 0, zR4 0 ds, zB6 1000 os⟩) : zZj P f h0 bl R := by
 refine ⟨hcall, fun ds os d os' hR h e w vs gh hl0 hbl hs hr ho hb' hap => ?_⟩
 obtain ⟨hlen, hlb, hrun⟩ := hrun ds os d os' hR
 have hvl : vs.length = ds.length := by
  clear hR hrun hlen
  induction ds generalizing vs with
  | nil => simp only [repT] at hr; simp [hr]
  | cons d r ih => simp only [repT] at hr; obtain ⟨v, vs', rfl, _, h2⟩ := hr; simp [ih vs' h2]
 refine calls_of_wp hf hb ?_
 refine (wpIn_wide (n := 0)).1 ?_
 have hk : ∀ k o, lkO (zB6 1000 os) k = some o → ∃ i, k = 1000 + i ∧ os[i]? = some o := fun k o hk => by
  rw [zDl] at hk;split at hk
  ·exact ⟨k - 1000, by omega, hk⟩
  ·cases hk
 have han : Anch h0 bl ⟨w, h, zIg e os, gh⟩ := ⟨hl0, fun i b hib => by
  have hi := (List.getElem?_eq_some_iff.1 hib).1;show (zIg e os)[i]? = some b;rw [zFh (by omega), hbl i b hib]⟩
 refine hrun (zC1 e 1000 os) ⟨w, h, zIg e os, gh⟩ han h e _ w ⟨rfl, ?_, fun t => ?_, fun k o hko => ?_, fun k o b hko hbl => ?_, fun k k' o o' b hne hko hko' hbl => ?_, hs, zEt.refl _ _, Le.refl h, fun _ _ => rfl, fun i b hib => ?_⟩
 ·simp; omega
 ·have := zGl (e := e) 0 t hr
  simp only [Nat.zero_le, if_true, Nat.sub_zero] at this
  have e1 : (vs.toArray ++ Array.replicate (fn.ntmps - vs.toArray.size) undef).getD t undef = vs.getD t undef := by
   simp only [Array.getD_eq_getD_getElem?, Array.getElem?_append, zz2];by_cases ht : t < vs.length
   ·simp [ht]
   ·simp only [List.size_toArray, ht, if_false, Array.getElem?_replicate]
    rw [List.getElem?_eq_none (by omega)];split <;> simp
  rw [e1];exact this
 ·obtain ⟨i, rfl, hi⟩ := hk k o hko
  exact ho i o hi
 ·obtain ⟨i, rfl, hi⟩ := hk k o hko
  have hm : b ∈ zC1 e 1000 os := zDk.2 ⟨i, o, hi, hbl⟩;exact ⟨.inr ⟨hm, by omega⟩, hb' b hm⟩
 ·obtain ⟨i, rfl, hi⟩ := hk k o hko
  obtain ⟨j, rfl, hj⟩ := hk k' o' hko';exact hap i j o o' b (fun hc => hne (by rw [hc])) hi hj hbl
 ·change (zIg e os)[i]? = some b at hib
  have hi : i < os.length := by
   have := (List.getElem?_eq_some_iff.1 hib).1;simpa [zIg] using this
  rw [zFh hi] at hib;simpa using hib
end Go.Sx
