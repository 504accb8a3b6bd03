/- Part of the proof that the laws of the judge return true for every input: SxL, SxM, SxN, SxP, SxQ, SxR, SxS, SxT, SxU, SxV, SxW, SxX, SxY. -/
import Derived.Test.YtmbocmonhcplhaaGreatS1
import Derived.Laws.MakeOwn
import Derived.Laws.Cover3
set_option linter.all false
namespace Go.Sx
open Go.RowKit
structure Rec where
 slots : List (Nat × SD)
 keys : List (Nat × OB)
 dst : Option Nat
 d : SD
 ow : List (Nat × Option OB)
 fresh : List Nat
def lkU : List (Nat × Option OB) → Nat → Option (Option OB)
 | [], _ => none
 | (j, o) :: r, i => bif Nat.beq j i then some o else lkU r i
def zNg : List (Nat × Option OB) → List (Nat × OB) → List (Nat × OB)
 | [], l => l
 | (k, some o) :: r, l => upd (zNg r l) k o
 | (k, none) :: r, l => del (zNg r l) k
theorem zFd : ∀ (u : List (Nat × Option OB)) (l : List (Nat × OB)) (k : Nat), lkO (zNg u l) k = match lkU u k with
  | some x => x
  | none => lkO l k
 | [], _, _ => rfl
 | (j, some o) :: r, l, k => by
  have ih := zFd r l k;simp only [zNg, zA2, lkU];by_cases h : k = j
  ·subst h; simp
  ·have : Nat.beq j k = false := zGu fun e => h e.symm
   simp [h, this, ih]
 | (j, none) :: r, l, k => by
  have ih := zFd r l k;simp only [zNg, zP2, lkU];by_cases h : k = j
  ·subst h; simp
  ·have : Nat.beq j k = false := zGu fun e => h e.symm
   simp [h, this, ih]
def Rec.app (r : Rec) (s : St) : St :=
 let sl := match r.dst with
  | some t => upd s.sl t r.d
  | none => s.sl
 ⟨s.n, s.nx, sl, zNg r.ow s.ow⟩
section
variable {P : Program} {F : List Nat} {w0 : Base}
def zHi (P : Program) (F : List Nat) (w0 : Base) (ops : Array Oper) (n : Nat) (o : Oper) (r : Rec) : Prop :=
 ∀ s : St, s.n = n → (∀ p ∈ r.slots, lkp s.sl p.1 = p.2) → (∀ p ∈ r.keys, lkO s.ow p.1 = some p.2) → (∀ k, k ∈ r.fresh → Free s k) →
  ∀ h e a w, Den F w0 s h e a w → ∀ (K : Act → World → Prop) (Q : Exit → Act → World → Prop), (∀ h' e' a' w', Den F w0 (r.app s) h' e' a' w' → K a' w') →
   if Region.wanted o (yielded ops a.tmps) = true then o.wp P a w K Q else K (a.put o.dst undef) w
def stS (s0 : St) (rs : List Rec) (S : Nat → Bool) : Nat → St
 | 0 => s0
 | m + 1 => match rs[m]? with
  | some r => if S m then r.app (stS s0 rs S m) else stS s0 rs S m
  | none => stS s0 rs S m
def zBz {α : Type} (f : Nat → Option α) (S : Nat → Bool) : Nat → Option α
 | 0 => none
 | m + 1 => if S m then (match f m with
  | some x => some x
  | none => zBz f S m) else zBz f S m
theorem zBu {α : Type} {f : Nat → Option α} {S S' : Nat → Bool} : ∀ {n : Nat}, (∀ j, j < n → f j ≠ none → S j = S' j) → zBz f S n = zBz f S' n
 | 0, _ => rfl
 | n + 1, h => by
  have ih := zBu (n := n) fun j hj => h j (by omega);simp only [zBz];cases hf : f n with
  | none => simp [ih]
  | some x =>
   have := h n (by omega) (by simp [hf]);rw [this, ih]
theorem zF6 {α : Type} {f : Nat → Option α} {S S' : Nat → Bool} {i : Nat} (hS' : ∀ j, S' j = (S j || decide (j = i))) {x : α} (hf : f i = some x) : ∀ {n : Nat}, i < n → (∀ j, i < j → j < n → f j ≠ none → S j = false) → zBz f S' n = some x
 | 0, h, _ => absurd h (by omega)
 | n + 1, h, hl => by
  simp only [zBz, hS'];by_cases hn : n = i
  ·subst hn
   simp [hf]
  ·have ih := zF6 hS' hf (n := n) (by omega) fun j h1 h2 => hl j h1 (by omega)
   cases hfn : f n with
   | none => simp [ih]
   | some y =>
    have := hl n (by omega) (by omega) (by simp [hfn]);simp [this, hn, ih]
theorem zGn {α : Type} {f : Nat → Option α} {S S' : Nat → Bool} {i : Nat} (hS' : ∀ j, S' j = (S j || decide (j = i))) (hf : f i = none) (n : Nat) : zBz f S' n = zBz f S n :=
 zBu fun j _ hj => by
  have : j ≠ i := fun e => hj (e ▸ hf);simp [hS', this]
def wS (rs : List Rec) (t : Nat) (j : Nat) : Option SD :=
 match rs[j]? with
 | some r => if r.dst = some t then some r.d else none
 | none => none
def wO (rs : List Rec) (k : Nat) (j : Nat) : Option (Option OB) :=
 match rs[j]? with
 | some r => lkU r.ow k
 | none => none
theorem zHs (s0 : St) (rs : List Rec) (S : Nat → Bool) : ∀ m, (stS s0 rs S m).n = s0.n
 | 0 => rfl
 | m + 1 => by
  simp only [stS];split
  ·split
   ·simp [Rec.app, zHs s0 rs S m]
   ·exact zHs s0 rs S m
  ·exact zHs s0 rs S m
theorem zCv (s0 : St) (rs : List Rec) (S : Nat → Bool) (t : Nat) : ∀ m, lkp (stS s0 rs S m).sl t = (zBz (wS rs t) S m).getD (lkp s0.sl t)
 | 0 => rfl
 | m + 1 => by
  have ih := zCv s0 rs S t m;simp only [stS, zBz, wS];cases hr : rs[m]? with
  | none => simp [ih]
  | some r =>
   cases hS : S m
   ·simp [ih]
   ·simp only [if_true, Rec.app]
    cases hd : r.dst with
    | none => simp [ih]
    | some t' =>
     simp only [zCg, zz1];by_cases ht : t = t'
     ·subst ht; simp
     ·have : ¬ t' = t := fun e => ht e.symm
      simp [ht, this, ih]
theorem zDg (s0 : St) (rs : List Rec) (S : Nat → Bool) (k : Nat) : ∀ m, lkO (stS s0 rs S m).ow k = (match zBz (wO rs k) S m with | some o => o | none => lkO s0.ow k)
 | 0 => rfl
 | m + 1 => by
  have ih := zDg s0 rs S k m;simp only [stS, zBz, wO];cases hr : rs[m]? with
  | none => simp [ih]
  | some r =>
   cases hS : S m
   ·simp [ih]
   ·simp only [if_true, Rec.app, zFd]
    cases hd : lkU r.ow k with
    | none => simp [ih]
    | some p => simp
theorem Den.congr {s s' : St} {h : Hp} {e : Nm} {a : Act} {w : World} (D : Den F w0 s h e a w) (hn : s.n = s'.n) (h1 : ∀ t, lkp s.sl t = lkp s'.sl t) (h2 : ∀ k, lkO s.ow k = lkO s'.ow k) : Den F w0 s' h e a w :=
 ⟨D.defers, D.size.trans hn, fun t => by rw [← h1]; exact D.slot t, fun k o hk => D.own k o (by rw [h2]; exact hk), fun k o b hk => D.ownb k o b (by rw [h2]; exact hk),
  fun k k' o o' b hne hk hk' => D.apart k k' o o' b hne (by rw [h2]; exact hk) (by rw [h2]; exact hk'), D.sub, D.keeps, D.le, D.neww, D.fix⟩
def zB7 (o : Oper) : List Nat := (o.after.toList.filter (Region.binds .any)).map (·.on)
def zNe : List Oper → List (List Nat) → List (List Nat)
 | [], acc => acc
 | o :: r, acc => zNe r (acc ++ [zB7 o ++ (zB7 o).flatMap fun e => acc.getD e []])
def zCq (k : Nat) : List Nat → Bool
 | [] => false
 | j :: r => Nat.beq j k || zCq k r
def Rec.reads (r : Rec) (t : Nat) : Bool := r.slots.any fun p => Nat.beq p.1 t
def Rec.names (r : Rec) (t : Nat) : Bool := r.reads t || (match r.dst with | some d => Nat.beq d t | none => false)
def Rec.usesK (r : Rec) (k : Nat) : Bool := (r.keys.any fun p => Nat.beq p.1 k) || (r.ow.any fun p => Nat.beq p.1 k)
def yGl (k : Nat) : OB → Bool
 | .var l => zGy k l
 | .acc .. => false
 | .mp _ l => zC4 k l
def yGk (k : Nat) : Option OB → Bool
 | some o => yGl k o
 | none => false
def Rec.men (r : Rec) (k : Nat) : Bool := (match r.dst with | some _ => Sx.men k r.d | none => false) || (r.ow.any fun p => Nat.beq p.1 k || yGk k p.2)
def Rec.apart1 (r q : Rec) : Bool :=
 (match r.dst with | some t => !q.names t | none => true) &&
 (r.ow.all fun p => !q.usesK p.1) &&
 (r.fresh.all fun k => !q.men k)
def zIi (rs : List Rec) (bs : List (List Nat)) (j : Nat) (q : Rec) : Nat → Bool
 | 0 => true
 | i + 1 => (zCq i (bs.getD j []) || (match rs[i]? with | some r => r.apart1 q && q.apart1 r | none => true)) && zIi rs bs j q i
def zOo (rs : List Rec) (k : Nat) : Nat → Bool
 | 0 => true
 | i + 1 => (match rs[i]? with | some r => !r.men k | none => true) && zOo rs k i
def zSd (s0 : St) (rs : List Rec) (bs : List (List Nat)) : Nat → Bool
 | 0 => true
 | j + 1 => (match rs[j]? with
   | some q => zIi rs bs j q j && (q.fresh.all fun k => s0.free k && zOo rs k j)
   | none => false) && zSd s0 rs bs j
def zI2 (l : List Oper) : Nat → Bool
 | 0 => true
 | j + 1 => (match l[j]? with | some o => (zB7 o).all fun e => Nat.blt e j | none => true) && zI2 l j
def zGz (s0 : St) (l : List Oper) (rs : List Rec) : Bool :=
 Nat.beq rs.length l.length && zI2 l l.length && zSd s0 rs (zNe l []) rs.length
theorem zCd {k : Nat} : ∀ {l : List Nat}, zCq k l = true ↔ k ∈ l
 | [] => by simp [zCq]
 | j :: r => by
  have := zCd (k := k) (l := r);simp only [zCq, Bool.or_eq_true, this, List.mem_cons]
  constructor
  ·rintro (h | h)
   ·exact .inl (zz4 h).symm
   ·exact .inr h
  ·rintro (h | h)
   ·subst h; simp
   ·exact .inr h
theorem zNd : ∀ (l : List Oper) (acc : List (List Nat)) (i : Nat), i < acc.length → (zNe l acc).getD i [] = acc.getD i []
 | [], _, _, _ => rfl
 | o :: r, acc, i, h => by
  rw [zNe, zNd r _ i (by simp; omega)];simp only [zz2, List.getElem?_append_left h]
theorem zKw : ∀ (l : List Oper) (acc : List (List Nat)) (i : Nat) (o : Oper), l[i]? = some o → (∀ e ∈ zB7 o, e < acc.length + i) →
  ∀ j ∈ (zNe l acc).getD (acc.length + i) [], j ∈ zB7 o ∨ ∃ e ∈ zB7 o, j ∈ (zNe l acc).getD e []
 | [], _, _, _, h, _ => by simp at h
 | o' :: r, acc, 0, o, h, he => by
  simp only [List.getElem?_cons_zero, zz1] at h;subst h;intro j hj;rw [zNe, Nat.add_zero, zNd r _ acc.length (by simp)] at hj;simp only [zz2, List.getElem?_append_right (Nat.le_refl _), Nat.sub_self, List.getElem?_cons_zero, Option.getD_some, List.mem_append, List.mem_flatMap] at hj
  rcases hj with hj | ⟨e, h1, h2⟩
  ·exact .inl hj
  ·refine .inr ⟨e, h1, ?_⟩
   have hlt := he e h1;rw [zNd (o' :: r) acc e (by simpa using hlt)];simpa [zz2] using h2
 | o' :: r, acc, i + 1, o, h, he => by
  simp only [List.getElem?_cons_succ] at h;have := zKw r (acc ++ [zB7 o' ++ (zB7 o').flatMap fun e => acc.getD e []]) i o h (fun e h1 => by have := he e h1; simp; omega);simp only [List.length_append, List.length_cons, List.length_nil, Nat.zero_add] at this;rw [show acc.length + 1 + i = acc.length + (i + 1) by omega] at this;exact this
theorem zB8 {l : List Oper} : ∀ {n : Nat}, zI2 l n = true → ∀ j o, j < n → l[j]? = some o → ∀ e ∈ zB7 o, e < j
 | 0, _, _, _, h, _ => absurd h (by omega)
 | n + 1, h, j, o, hj, ho => by
  simp only [zI2, zz3] at h;by_cases hjn : j = n
  ·subst hjn
   rw [ho] at h;intro e he;have := (List.all_eq_true.1 h.1) e he;exact zAm this
  ·exact zB8 h.2 j o (by omega) ho
theorem zFk {rs : List Rec} {bs : List (List Nat)} {j : Nat} {q : Rec} : ∀ {n : Nat}, zIi rs bs j q n = true → ∀ i r, i < n → rs[i]? = some r → i ∈ bs.getD j [] ∨ (r.apart1 q = true ∧ q.apart1 r = true)
 | 0, _, _, _, h, _ => absurd h (by omega)
 | n + 1, h, i, r, hi, hr => by
  simp only [zIi, zz3, Bool.or_eq_true] at h;by_cases hin : i = n
  ·subst hin
   rw [hr] at h
   rcases h.1 with h1 | h1
   ·exact .inl (zCd.1 h1)
   ·exact .inr (by simpa using h1)
  ·exact zFk h.2 i r (by omega) hr
theorem zHa {rs : List Rec} {k : Nat} : ∀ {n : Nat}, zOo rs k n = true → ∀ i r, i < n → rs[i]? = some r → r.men k = false
 | 0, _, _, _, h, _ => absurd h (by omega)
 | n + 1, h, i, r, hi, hr => by
  simp only [zOo, zz3] at h;by_cases hin : i = n
  ·subst hin; rw [hr] at h; simpa using h.1
  ·exact zHa h.2 i r (by omega) hr
theorem zCo {s0 : St} {rs : List Rec} {bs : List (List Nat)} : ∀ {n : Nat}, zSd s0 rs bs n = true → ∀ j q, j < n → rs[j]? = some q →
  zIi rs bs j q j = true ∧ ∀ k, k ∈ q.fresh → s0.free k = true ∧ zOo rs k j = true
 | 0, _, _, _, h, _ => absurd h (by omega)
 | n + 1, h, j, q, hj, hq => by
  simp only [zSd, zz3] at h;by_cases hjn : j = n
  ·subst hjn
   rw [hq] at h;simp only [zz3] at h;refine ⟨h.1.1, fun k hk => ?_⟩;have := (List.all_eq_true.1 h.1.2) k hk;simpa only [zz3] using this
  ·exact zCo h.2 j q (by omega) hq
def DC (l : List Oper) (listed : Array Bool) : Prop := ∀ i o, l[i]? = some o → listed.getD i false = true → ∀ e ∈ zB7 o, listed.getD e false = true
theorem zO9 {l : List Oper} {listed : Array Bool} (hlt : zI2 l l.length = true) (hd : DC l listed) : ∀ (n i : Nat), i ≤ n → ∀ o, l[i]? = some o → (∀ e ∈ zB7 o, listed.getD e false = true) → ∀ j ∈ (zNe l []).getD i [], listed.getD j false = true := by
 intro n
 induction n with
 | zero =>
  intro i hi o ho he j hj;have hil : i < l.length := (List.getElem?_eq_some_iff.1 ho).1;have hlt' := zB8 hlt i o hil ho
  rcases zKw l [] i o ho (by simpa using hlt') j (by simpa using hj) with h | ⟨e, h1, _⟩
  ·exact he j h
  ·have := hlt' e h1; omega
 | succ n ih =>
  intro i hi o ho he j hj;have hil : i < l.length := (List.getElem?_eq_some_iff.1 ho).1;have hlt' := zB8 hlt i o hil ho
  rcases zKw l [] i o ho (by simpa using hlt') j (by simpa using hj) with h | ⟨e, h1, h2⟩
  ·exact he j h
  ·have hei := hlt' e h1
   have hoe : l[e]? = some l[e] := List.getElem?_eq_getElem (by omega);exact ih e (by omega) _ hoe (hd e _ hoe (he e h1)) j h2
def left (listed : Array Bool) : Nat → Nat
 | 0 => 0
 | n + 1 => (if listed.getD n false then 0 else 1) + left listed n
theorem zJu {listed : Array Bool} {i : Nat} (hi : i < listed.size) (hu : listed.getD i false = false) : ∀ {n : Nat}, i < n → left (listed.setIfInBounds i true) n + 1 = left listed n
 | 0, h => absurd h (by omega)
 | n + 1, h => by
  simp only [left];by_cases hn : n = i
  ·subst hn
   have hrest : ∀ m, m ≤ n → left (listed.setIfInBounds n true) m = left listed m := by
    intro m
    induction m with
    | zero => intro _; rfl
    | succ m ih => intro hm; simp only [left]; rw [getD_set_ne false (by omega), ih (by omega)]
   have hset : (listed.setIfInBounds n true).getD n false = true := by simp [Array.getD_eq_getD_getElem?, hi]
   rw [hset, hu, hrest n (Nat.le_refl _)];simp; omega
  ·have ih := zJu hi hu (n := n) (by omega)
   rw [getD_set_ne false (fun e => hn e.symm)];omega
theorem zIc {listed : Array Bool} : ∀ {n : Nat}, left listed n = 0 → ∀ j, j < n → listed.getD j false = true
 | 0, _, _, h => absurd h (by omega)
 | n + 1, h, j, hj => by
  simp only [left] at h;by_cases hjn : j = n
  ·subst hjn
   cases hx : listed.getD j false
   ·rw [hx] at h; simp at h
   ·rfl
  ·exact zIc (n := n) (by omega) j (by omega)
theorem zMu {α : Type} {f : Nat → Option α} {i : Nat} : ∀ {n : Nat}, i ≤ n → zBz f (fun j => decide (j < i)) n = zBz f (fun _ => true) i
 | 0, h => by
  have : i = 0 := by omega
  subst this; rfl
 | n + 1, h => by
  by_cases hi : i = n + 1
  ·subst hi
   exact zBu fun j hj _ => by simp [hj]
  ·have : ¬ n < i := by omega
   simp only [zBz, this, decide_false, Bool.false_eq_true, if_false];exact zMu (by omega)
theorem zD1 {α : Type} {f : Nat → Option α} {S : Nat → Bool} {x : α} : ∀ {n : Nat}, zBz f S n = some x → ∃ j, j < n ∧ S j = true ∧ f j = some x
 | 0, h => by cases h
 | n + 1, h => by
  simp only [zBz] at h;cases hS : S n
  ·rw [hS] at h
   simp only [Bool.false_eq_true, if_false] at h;obtain ⟨j, h1, h2, h3⟩ := zD1 h;exact ⟨j, by omega, h2, h3⟩
  ·rw [hS] at h
   simp only [if_true] at h;cases hf : f n with
   | some y =>
    rw [hf] at h;simp only [zz1] at h;subst h;exact ⟨n, by omega, hS, hf⟩
   | none =>
    rw [hf] at h;obtain ⟨j, h1, h2, h3⟩ := zD1 h;exact ⟨j, by omega, h2, h3⟩
def zNk (s0 : St) (rs : List Rec) : Prop := ∀ (j : Nat) (r : Rec), rs[j]? = some r →
 (∀ p ∈ r.slots, lkp (stS s0 rs (fun _ => true) j).sl p.1 = p.2) ∧ (∀ p ∈ r.keys, lkO (stS s0 rs (fun _ => true) j).ow p.1 = some p.2)
theorem zI4 {α : Type} {l : List (Nat × α)} {p : Nat × α} (h : p ∈ l) : (l.any fun q => Nat.beq q.1 p.1) = true := List.any_eq_true.2 ⟨p, h, by simp⟩
theorem zFv {rs : List Rec} {t j : Nat} (h : wS rs t j ≠ none) : ∃ r, rs[j]? = some r ∧ r.dst = some t ∧ wS rs t j = some r.d := by
 unfold wS at *
 cases hr : rs[j]? with
 | none => simp [hr] at h
 | some r =>
  rw [hr] at h;simp only at h ⊢;by_cases hd : r.dst = some t
  ·exact ⟨r, rfl, hd, by simp [hd]⟩
  ·simp [hd] at h
theorem zV1 : ∀ {u : List (Nat × Option OB)} {k : Nat} {o : Option OB}, lkU u k = some o → (k, o) ∈ u
 | [], _, _, h => by cases h
 | (j, x) :: r, k, o, h => by
  simp only [lkU] at h;cases hb : Nat.beq j k
  ·rw [hb] at h; exact List.mem_cons_of_mem _ (zV1 h)
  ·rw [hb] at h
   have := zz4 hb;subst this;simp only [cond_true, zz1] at h;subst h;exact List.mem_cons_self
theorem zFw {rs : List Rec} {t j : Nat} (h : wO rs t j ≠ none) : ∃ r o, rs[j]? = some r ∧ (t, o) ∈ r.ow ∧ wO rs t j = some o := by
 unfold wO at *
 cases hr : rs[j]? with
 | none => simp [hr] at h
 | some r =>
  rw [hr] at h;simp only at h ⊢;cases hd : lkU r.ow t with
  | none => exact absurd hd h
  | some o => exact ⟨r, o, rfl, zV1 hd, rfl⟩
theorem zGr {r q : Rec} {t : Nat} (h : r.apart1 q = true) (hd : r.dst = some t) : q.names t = false := by
 simp only [Rec.apart1, hd, zz3, Bool.not_eq_true'] at h
 exact h.1.1
theorem zIj {r q : Rec} {t : Nat} {o : Option OB} (h : r.apart1 q = true) (hd : (t, o) ∈ r.ow) : q.usesK t = false := by
 simp only [Rec.apart1, zz3] at h
 have := (List.all_eq_true.1 h.1.2) _ hd
 simpa only [Bool.not_eq_true'] using this
theorem zJb {r q : Rec} {t : Nat} (h : r.apart1 q = true) (hd : t ∈ r.fresh) : q.men t = false := by
 simp only [Rec.apart1, zz3] at h
 have := (List.all_eq_true.1 h.2) _ hd
 simpa only [Bool.not_eq_true'] using this
theorem zY2 {l : List Oper} {rs : List Rec} {s0 : St} {Q : Exit → Act → World → Prop} (hchk : zGz s0 l rs = true) (hin : zNk s0 rs)
  (hsem : ∀ (j : Nat) (r : Rec) (o : Oper), rs[j]? = some r → l[j]? = some o → zHi P F w0 l.toArray s0.n o r)
  (hfin : ∀ h e a w, Den F w0 (stS s0 rs (fun _ => true) rs.length) h e a w → Q .normal a w) :
  ∀ (fuel : Nat) (listed : Array Bool), listed.size = l.length → DC l listed → left listed l.length ≤ fuel →
   ∀ h e a w, Den F w0 (stS s0 rs (fun j => listed.getD j false) rs.length) h e a w → wpAnyS P .any l.toArray Q fuel listed a w := by
 simp only [zGz, zz3] at hchk
 obtain ⟨⟨hlen, hlt⟩, hck⟩ := hchk
 have hlen := zz4 hlen
 have done : ∀ (listed : Array Bool), listed.size = l.length → DC l listed → Region.ready .any l.toArray listed = [] → ∀ h e a w, Den F w0 (stS s0 rs (fun j => listed.getD j false) rs.length) h e a w → Q .normal a w := by
  intro listed hsz hdc hr h e a w D
  have hall : ∀ n, ∀ j, j < n → j < l.length → listed.getD j false = true := by
   intro n
   induction n with
   | zero => intro j hj; omega
   | succ n ih =>
    intro j hj hjl;by_cases hjn : j < n
    ·exact ih j hjn hjl
    ·have hoj : l[j]? = some l[j] := List.getElem?_eq_getElem hjl
     cases hx : listed.getD j false with
     | true => rfl
     | false =>
      exfalso
      have : j ∈ Region.ready .any l.toArray listed := by
       rw [mem_ready];refine ⟨?_, l[j], by simp [hoj], fun ed he hb => ?_⟩
       ·simpa [Array.getD_eq_getD_getElem?, show j < listed.size by omega] using hx
       ·have hee : ed.on ∈ zB7 l[j] := List.mem_map.2 ⟨ed, List.mem_filter.2 ⟨by simpa using he, hb⟩, rfl⟩
        have := zB8 hlt j _ hjl hoj _ hee;exact ih ed.on (by omega) (by omega)
      rw [hr] at this;cases this
  refine hfin h e a w (D.congr (by simp [zHs]) (fun t => ?_) fun k => ?_)
  ·rw [zCv, zCv]
   congr 1
   exact zBu fun j hj _ => hall (j + 1) j (by omega) (by omega)
  ·rw [zDg, zDg]
   have : zBz (wO rs k) (fun j => listed.getD j false) rs.length = zBz (wO rs k) (fun _ => true) rs.length := zBu fun j hj _ => hall (j + 1) j (by omega) (by omega);rw [this]
 have sep : ∀ (i j : Nat) (ri rj : Rec), i < j → rs[i]? = some ri → rs[j]? = some rj → i ∈ (zNe l []).getD j [] ∨ (ri.apart1 rj = true ∧ rj.apart1 ri = true) := fun i j ri rj hij hi hj => by
  have hjl : j < rs.length := (List.getElem?_eq_some_iff.1 hj).1;exact zFk (zCo hck j rj hjl hj).1 i ri hij hi
 intro fuel
 induction fuel with
 | zero =>
  intro listed hsz hdc hl h e a w D
  have hr : Region.ready .any l.toArray listed = [] := by
   cases hr : Region.ready .any l.toArray listed with
   | nil => rfl
   | cons i r =>
    have hi : i ∈ Region.ready .any l.toArray listed := by rw [hr]; simp
    rw [mem_ready] at hi;obtain ⟨h1, o, h2, _⟩ := hi
    have hil : i < l.length := by
     have := (Array.getElem?_eq_some_iff.1 h2).1;simpa using this
    have := zIc (Nat.le_zero.1 hl) i hil;simp [Array.getD_eq_getD_getElem?, show i < listed.size by omega] at this h1;rw [this] at h1;cases h1
  exact ⟨hr, done listed hsz hdc hr h e a w D⟩
 | succ fuel ih =>
  intro listed hsz hdc hl h e a w D;refine ⟨fun hr => done listed hsz hdc hr h e a w D, fun i hi => ?_⟩;rw [mem_ready] at hi;obtain ⟨hu, o, ho, hedge⟩ := hi;have ho' : l[i]? = some o := by simpa using ho
  have hil : i < l.length := (List.getElem?_eq_some_iff.1 ho').1;have hu' : listed.getD i false = false := by simpa [Array.getD_eq_getD_getElem?, show i < listed.size by omega] using hu
  have hre : rs[i]? = some rs[i] := List.getElem?_eq_getElem (by omega);generalize rs[i] = r at hre
  have hed : ∀ ed ∈ zB7 o, listed.getD ed false = true := fun ed he => by
   obtain ⟨x, hx, rfl⟩ := List.mem_map.1 he;obtain ⟨h1, h2⟩ := List.mem_filter.1 hx;exact hedge x (by simpa using h1) h2
  have hbef := zO9 hlt hdc i i (Nat.le_refl _) o ho' hed
  have hlater : ∀ j, i ∈ (zNe l []).getD j [] → j < l.length → listed.getD j false = false := fun j hj hjl => by
   cases hx : listed.getD j false with
   | false => rfl
   | true =>
    have hoj : l[j]? = some l[j] := List.getElem?_eq_getElem hjl;have := zO9 hlt hdc j j (Nat.le_refl _) _ hoj (hdc j _ hoj hx) i hj;rw [hu'] at this;cases this
  have look : ∀ (α : Type) (f : Nat → Option α), (∀ j, f j ≠ none → ∃ q, rs[j]? = some q ∧ (j < i → q.apart1 r = true → False) ∧ (i < j → q.apart1 r = true → False)) →
    zBz f (fun j => listed.getD j false) rs.length = zBz f (fun _ => true) i := fun α f hf => by
   rw [← zMu (f := f) (i := i) (n := rs.length) (by omega)];refine zBu fun j hj hfj => ?_;obtain ⟨q, hq, h1, h2⟩ := hf j hfj;by_cases hji : j < i
   ·rcases sep j i q r hji hq hre with h | h
    ·simp [hbef j h, hji]
    ·exact (h1 hji h.1).elim
   ·by_cases hji' : j = i
    ·subst hji'; simp only [hu', Nat.lt_irrefl, decide_false]
    ·rcases sep i j r q (by omega) hre hq with h | h
     ·simp only [hlater j h (by omega), hji, decide_false]
     ·exact (h2 (by omega) h.2).elim
  obtain ⟨hin1, hin2⟩ := hin i r hre
  have ag1 : ∀ p ∈ r.slots, lkp (stS s0 rs (fun j => listed.getD j false) rs.length).sl p.1 = p.2 := fun p hp => by
   rw [← hin1 p hp, zCv, zCv]
   congr 1
   refine look _ _ fun j hj => ?_;obtain ⟨q, hq, hd, _⟩ := zFv hj
   have : ∀ (_ : q.apart1 r = true), False := fun hap => by
    have := zGr hap hd;simp only [Rec.names, Rec.reads, zI4 hp, Bool.true_or] at this;cases this
   exact ⟨q, hq, fun _ => this, fun _ => this⟩
  have ag2 : ∀ p ∈ r.keys, lkO (stS s0 rs (fun j => listed.getD j false) rs.length).ow p.1 = some p.2 := fun p hp => by
   rw [← hin2 p hp, zDg, zDg]
   have := look _ (wO rs p.1) fun j hj => by
    obtain ⟨q, o, hq, hd, _⟩ := zFw hj
    have : ∀ (_ : q.apart1 r = true), False := fun hap => by
     have := zIj hap hd;simp only [Rec.usesK, zI4 hp, Bool.true_or] at this;cases this
    exact ⟨q, hq, fun _ => this, fun _ => this⟩
   rw [this]
  have noMen : ∀ k, k ∈ r.fresh → ∀ (j : Nat) (q : Rec), rs[j]? = some q → listed.getD j false = true → q.men k = false := fun k hk j q hq hj => by
   have hjl : j < rs.length := (List.getElem?_eq_some_iff.1 hq).1;by_cases hji : j < i
   ·exact zHa ((zCo hck i r (by omega) hre).2 k hk).2 j q hji hq
   ·by_cases hji' : j = i
    ·subst hji'; rw [hu'] at hj; cases hj
    ·rcases sep i j r q (by omega) hre hq with h | h
     ·rw [hlater j h (by omega)] at hj; cases hj
     ·exact zJb h.1 hk
  have ag3 : ∀ k, k ∈ r.fresh → Free (stS s0 rs (fun j => listed.getD j false) rs.length) k := fun k hk => by
   have hf := ((zCo hck i r (by omega) hre).2 k hk).1;have hlt := (Free.of hf).lt;replace hf := (show (Nat.blt k 1000 && !(yB2 k s0.sl || zVv k s0.ow)) = true from hf);simp only [zz3, Bool.not_eq_true', Bool.or_eq_false_iff] at hf;replace hf := hf.2;refine ⟨fun t => ?_, fun j o' hj => ?_, hlt⟩
   ·rw [zCv]
    cases hl : zBz (wS rs t) (fun j => listed.getD j false) rs.length with
    | none => exact zJs hf.1 t
    | some d =>
     obtain ⟨j, h1, h2, h3⟩ := zD1 hl;obtain ⟨q, hq, hd, h4⟩ := zFv (by rw [h3]; simp);rw [h3] at h4;cases h4;have := noMen k hk j q hq h2;simp only [Rec.men, hd, Bool.or_eq_false_iff] at this;exact this.1
   ·rw [zDg] at hj
    cases hl : zBz (wO rs j) (fun j => listed.getD j false) rs.length with
    | none => rw [hl] at hj; exact zGj hf.2 j o' hj
    | some o2 =>
     rw [hl] at hj;simp only at hj;subst hj;obtain ⟨m, h1, h2, h3⟩ := zD1 hl;obtain ⟨q, o3, hq, hd, h4⟩ := zFw (by rw [h3]; simp);rw [h3] at h4;cases h4;have := noMen k hk m q hq h2;simp only [Rec.men, Bool.or_eq_false_iff] at this;have this2 := (List.any_eq_false.1 this.2) _ hd;simp only [yGk, Bool.or_eq_true, not_or, Bool.not_eq_true] at this2;refine ⟨zB2 this2.1, fun x hx => ?_, fun kd x hx => ?_⟩
     ·subst hx; exact this2.2
     ·subst hx; exact this2.2
  have hgo := hsem i r o hre ho' _ (zHs s0 rs _ _) ag1 ag2 ag3 h e a w D (wpAnyS P .any l.toArray Q fuel (listed.setIfInBounds i true)) Q ?_
  ·unfold zTz
   simp only [ho];split
   ·rename_i hw
    rw [if_pos hw] at hgo;exact hgo
   ·rename_i hw
    rw [if_neg hw] at hgo;exact hgo
  ·intro h' e' a' w' D'
   have hS' : ∀ j, (listed.setIfInBounds i true).getD j false = (listed.getD j false || decide (j = i)) := fun j => by
    by_cases hji : j = i
    ·subst hji; simp [Array.getD_eq_getD_getElem?, show j < listed.size by omega]
    ·rw [getD_set_ne false (fun e => hji e.symm)]; simp [hji]
   refine ih _ (by simp [hsz]) ?_ ?_ h' e' a' w' (D'.congr ?_ ?_ ?_)
   ·intro j oj hoj hj ed hed'
    rw [hS'] at hj;rw [hS'];by_cases hji : j = i
    ·subst hji
     rw [ho'] at hoj;cases hoj;simp [hed ed hed']
    ·simp only [hji, decide_false, Bool.or_false] at hj
     simp [hdc j oj hoj hj ed hed']
   ·have := zJu (listed := listed) (i := i) (by omega) hu' (n := l.length) hil
    omega
   ·simp [Rec.app, zHs]
   ·intro t
    rw [zCv];cases hw : wS rs t i with
    | some d =>
     obtain ⟨q, hq, hd, h4⟩ := zFv (rs := rs) (t := t) (j := i) (by rw [hw]; simp);rw [hre] at hq;cases hq;rw [hw] at h4;cases h4;rw [zF6 hS' hw (by omega) fun j h1 h2 h3 => ?_]
     ·simp [Rec.app, hd, zCg]
     ·obtain ⟨q, hq, hd', _⟩ := zFv h3
      rcases sep i j r q h1 hre hq with h | h
      ·exact hlater j h (by omega)
      ·have := zGr h.1 hd
       simp [Rec.names, hd'] at this
    | none =>
     rw [zGn hS' hw];have : ∀ t', r.dst = some t' → ¬ t = t' := fun t' ht' he => by subst he; simp [wS, hre, ht'] at hw
     simp only [Rec.app];cases hd : r.dst with
     | none => simp [zCv]
     | some t' => simp only [zCg, this t' hd, if_false, zCv]
   ·intro k
    rw [zDg];cases hw : wO rs k i with
    | some d =>
     obtain ⟨q, o2, hq, hd, h4⟩ := zFw (rs := rs) (t := k) (j := i) (by rw [hw]; simp);rw [hre] at hq;cases hq;rw [hw] at h4;cases h4;rw [zF6 hS' hw (by omega) fun j h1 h2 h3 => ?_]
     ·have : lkU r.ow k = some d := by simpa [wO, hre] using hw
      simp only [Rec.app, zFd, this]
     ·obtain ⟨q, o3, hq, hd', _⟩ := zFw h3
      rcases sep i j r q h1 hre hq with h | h
      ·exact hlater j h (by omega)
      ·have := zIj h.1 hd
       simp only [Rec.usesK, zI4 hd', Bool.or_true] at this;cases this
    | none =>
     rw [zGn hS' hw];have : lkU r.ow k = none := by simpa [wO, hre] using hw
     simp only [Rec.app, zFd, this, zDg]
end
end Go.Sx
namespace Go.Sx
open Go.RowKit
def tmpsOf : List Operand → List Nat
 | [] => []
 | .tmp t :: r => t :: tmpsOf r
 | _ :: r => tmpsOf r
def zBf (s : St) : List Nat → List (Nat × SD)
 | [] => []
 | t :: r => (t, lkp s.sl t) :: zBf s r
def zRh (k : Nat) (s : St) : List Operand → Bool
 | [] => false
 | x :: r => men k (ev s x) || zRh k s r
def keysA (s : St) (l : List Operand) : List (Nat × OB) → List (Nat × OB)
 | [] => []
 | (k, _) :: r => match zRh k s l, lkO s.ow k with
  | true, some o => (k, o) :: keysA s l r
  | _, _ => keysA s l r
theorem zBb {s s' : St} {l : List Operand} (h : ∀ p ∈ zBf s (tmpsOf l), lkp s'.sl p.1 = p.2) : ∀ x ∈ l, ev s' x = ev s x := by
 have h1 : ∀ (l : List Nat), (∀ p ∈ zBf s l, lkp s'.sl p.1 = p.2) → ∀ t ∈ l, lkp s'.sl t = lkp s.sl t := by
  intro l
  induction l with
  | nil => intro _ t ht; cases ht
  | cons a r ih =>
   intro h t ht;simp only [zBf, List.mem_cons] at h
   rcases List.mem_cons.1 ht with rfl | ht
   ·exact h _ (.inl rfl)
   ·exact ih (fun p hp => h p (.inr hp)) t ht
 have h2 := h1 _ h
 intro x hx
 cases x with
 | tmp t =>
  refine h2 t ?_;clear h h1 h2
  induction l with
  | nil => cases hx
  | cons a r ih =>
   rcases List.mem_cons.1 hx with rfl | hx'
   ·simp [tmpsOf]
   ·cases a <;> simp [tmpsOf, ih hx']
 | _ => rfl
theorem zCj {s : St} {l : List Operand} {k : Nat} {o : OB} (hm : zRh k s l = true) (ho : lkO s.ow k = some o) : (k, o) ∈ keysA s l s.ow := by
 have : ∀ (w : List (Nat × OB)), (∃ o', lkO w k = some o') → (k, o) ∈ keysA s l w := by
  intro w
  induction w with
  | nil => rintro ⟨_, h⟩; cases h
  | cons p r ih =>
   obtain ⟨j, oj⟩ := p;rintro ⟨o', h⟩;simp only [lkO] at h;simp only [keysA];cases hb : Nat.beq j k
   ·rw [hb] at h
    have := ih ⟨o', h⟩;split
    ·exact List.mem_cons_of_mem _ this
    ·exact this
   ·have := zz4 hb
    subst this;rw [hm, ho];simp
 exact this _ ⟨o, ho⟩
def OwM (s s' : St) (d : SD) : Prop := ∀ k o, men k d = true → lkO s.ow k = some o → lkO s'.ow k = some o
theorem OwM.ungd {s s' : St} {d : SD} (h : OwM s s' d) : OwM s s' (ungd d) := by
 cases d <;> exact h
theorem zV3 {s s' : St} {d : SD} {n : Nat} (h : OwM s s' d) (hd : lenD s d = some n) : lenD s' d = some n := by
 cases d <;> simp only [lenD] at hd ⊢ <;> try exact hd
 rename_i k
 split at hd
 ·rename_i ho
  rw [h k _ (by simp [men]) ho];exact hd
 ·rename_i ho
  rw [h k _ (by simp [men]) ho];exact hd
 ·cases hd
theorem zZg {s s' : St} {d : SD} {l : List SD} (h : OwM s s' d) (hd : atD s d = some l) : atD s' d = some l := by
 cases d <;> simp only [atD] at hd ⊢ <;> try exact hd
 ·rename_i k off
  split at hd
  ·rename_i ho
   rw [h k _ (by simp [men]) ho];exact hd
  ·cases hd
 ·rename_i k es i off
  split at hd
  ·rename_i ho
   rw [h k _ (by simp [men]) ho];exact hd
  ·rename_i ho
   rw [h k _ (by simp [men]) ho];exact hd
  ·cases hd
theorem zYq {P : Program} {s s' : St} {T : Nat} {d : SD} {i : Int} {r : List Prop × SD} (h : OwM s s' d) (hd : iaD P s T d i = some r) : iaD P s' T d i = some r := by
 unfold iaD at hd ⊢
 cases hk : Nat.beq (kdT P T) 1
 ·rw [hk] at hd; exact hd
 ·rw [hk] at hd
  simp only [cond_true] at hd ⊢;split at hd
  ·rename_i t ht
   cases d <;> try exact hd
   rename_i k;simp only at hd ⊢;split at hd
   ·rename_i ho
    rw [h k _ (by simp [men]) ho];exact hd
   ·rename_i ho
    rw [h k _ (by simp [men]) ho];exact hd
   ·cases hd
  ·cases hd
theorem zAs {s s' : St} : ∀ {l : List Operand} {r : List Prop}, (∀ x ∈ l, ev s' x = ev s x) → gCs s' l r = gCs s l r
 | [], _, _ => rfl
 | x :: l, r, h => by simp only [gCs, h x (by simp), zAs (l := l) fun y hy => h y (by simp [hy])]
theorem zE7 {s s' : St} {l : List Operand} {q : Option (List Prop × SD)} (h : ∀ x ∈ l, ev s' x = ev s x) : zK4 s' l q = zK4 s l q := by
 cases q <;> simp [zK4, zAs h]
theorem yBn {P : Program} {s s' : St} {op : Op} {r : List Prop × SD} (h1 : ∀ x ∈ op.operands.toList, ev s' x = ev s x) (h2 : ∀ x ∈ op.operands.toList, OwM s s' (ev s x)) (hq : qv P s op = some r) : qv P s' op = some r := by
 cases op <;> simp only [qv] at hq ⊢ <;> simp only [Op.operands, List.mem_cons, List.not_mem_nil, or_false, forall_eq, forall_eq_or_imp] at h1 h2 <;> try exact hq
 case move x => rw [h1]; exact hq
 case assign x => rw [h1]; exact hq
 case pick c x y => rw [h1.1, h1.2.1, h1.2.2]; exact hq
 case load T x =>
  have hu : unG s' x = unG s x := by simp only [unG, h1]
  rw [hu];split at hq
  ·rename_i l hl
   rw [zZg (show OwM s s' (unG s x) from h2.ungd) hl];simp only at hq ⊢;rw [zAs (by simpa using h1)];exact hq
  ·cases hq
 case fieldAddr T x i =>
  have hu : unG s' x = unG s x := by simp only [unG, h1]
  rw [hu, zAs (by simpa using h1)];exact hq
 case field T x i =>
  have hu : unG s' x = unG s x := by simp only [unG, h1]
  rw [hu, zAs (by simpa using h1)];exact hq
 case indexAddr T x i =>
  have hu : unG s' x = unG s x := by simp only [unG, h1.1]
  have hi : unG s' i = unG s i := by simp only [unG, h1.2]
  rw [hi, hu];split at hq
  ·rename_i n hn
   rw [zE7 (by simpa using h1)];obtain ⟨p, d⟩ := r;obtain ⟨p', hd, rfl⟩ := zEw hq;rw [zYq (show OwM s s' (unG s x) from h2.1.ungd) hd];rfl
  ·cases hq
 case index T x i =>
  rw [show unG s' x = unG s x by simp only [unG, h1.1], show unG s' i = unG s i by simp only [unG, h1.2], zE7 (by simpa using h1)];exact hq
 case binOp op T x y yT =>
  rw [show unG s' x = unG s x by simp only [unG, h1.1], show unG s' y = unG s y by simp only [unG, h1.2], zE7 (by simpa using h1)];exact hq
 case unOp op T x =>
  have hu : unG s' x = unG s x := by simp only [unG, h1]
  rw [hu, zAs (by simpa using h1)];exact hq
 case nilCheck x =>
  have hu : unG s' x = unG s x := by simp only [unG, h1]
  rw [hu, zAs (by simpa using h1)];exact hq
 case extract x i =>
  have hu : unG s' x = unG s x := by simp only [unG, h1]
  rw [hu, zAs (by simpa using h1)];exact hq
 case convert S T x =>
  have hu : unG s' x = unG s x := by simp only [unG, h1]
  rw [hu, zAs (by simpa using h1)];exact hq
 case makeInterface T x =>
  have hu : unG s' x = unG s x := by simp only [unG, h1]
  rw [hu, zAs (by simpa using h1)];exact hq
 case makeFunc fn first caps =>
  have e2 : first.toList.map (ev s') = first.toList.map (ev s) := List.map_congr_left fun x hx => h1 x (by simp [hx]);cases fn <;> try exact hq
  ·simp only at hq ⊢
   have e1 : caps.toList.map (ev s') = caps.toList.map (ev s) := List.map_congr_left fun x hx => h1 x (by simp [hx]);rw [e1, e2];exact hq
  ·simp only at hq ⊢
   rw [e2];exact hq
 case build T parts =>
  have hl : ∀ y ∈ zK1 parts.toList, ev s' y = ev s y := fun y hy => by
   have : ∀ (l : List (Nat × Operand)), zK1 l = l.map (·.2) := fun l => by
    induction l with
    | nil => rfl
    | cons p r ih => obtain ⟨i, x⟩ := p; simp [zK1, ih]
   rw [this] at hy;exact h1 y (by simpa using hy)
  have hsg : ∀ (l : List (Nat × Operand)), (∀ y ∈ zK1 l, ev s' y = ev s y) → zHt s' l = zHt s l := fun l hl => by
   induction l with
   | nil => rfl
   | cons p r ih => obtain ⟨i, x⟩ := p; simp only [zHt, unG, hl x (by simp [zK1]), ih fun y hy => hl y (by simp [zK1, hy])]
  unfold bdD at hq ⊢;rw [hsg _ hl, zAs hl];exact hq
 case slice T x lo hi mx =>
  cases mx <;> try exact hq
  simp only at hq ⊢;have hl : ∀ y ∈ ([x] ++ lo.toList ++ hi.toList), ev s' y = ev s y := fun y hy => h1 y (by cases lo <;> cases hi <;> simp_all);rw [zE7 hl, show unG s' x = unG s x by simp only [unG, hl x (by simp)]]
  have e1 : lo.map (unG s') = lo.map (unG s) := by
   cases lo with
   | none => rfl
   | some y => simp only [Option.map_some, unG, hl y (by simp)]
  have e2 : hi.map (unG s') = hi.map (unG s) := by
   cases hi with
   | none => rfl
   | some y => simp only [Option.map_some, unG, hl y (by simp)]
  rw [e1, e2];exact hq
 case call c =>
  obtain ⟨cl, args, tys⟩ := c;simp only [Call.operands] at h1 h2;simp only at hq ⊢;cases cl <;> try exact hq
  rename_i b;simp only [Array.toList_append, List.nil_append] at h1 h2;have hx : ∀ x ∈ args.toList, unG s' x = unG s x := fun x hx => by simp only [unG, h1 x (by simpa using hx)]
  unfold clD at hq ⊢;split at hq
  ·rename_i x T ts hb ha ht
   simp only [Callee.builtin.injEq] at hb;subst hb;rw [ha] at hx h1 h2;rw [hx x (by simp), zAs (l := [x]) (by simpa using h1)];cases hl : lnD P s T (unG s x) with
   | none => rw [hl] at hq; cases hq
   | some d =>
    rw [hl] at hq
    have : lnD P s' T (unG s x) = some d := by
     have ho : OwM s s' (unG s x) := (h2 x (by simp)).ungd;unfold lnD at hl ⊢;cases hk : Nat.beq (kdT P T) 1
     ·rw [hk] at hl; exact hl
     ·rw [hk] at hl
      simp only [cond_true] at hl ⊢;cases hn : lenD s (unG s x) with
      | none => rw [hn] at hl; cases hl
      | some n => rw [hn] at hl; rw [zV3 ho hn]; exact hl
    rw [this];exact hq
  ·rename_i ts x y hb ha
   simp only [Callee.builtin.injEq] at hb;subst hb;rw [ha] at hx h1;rw [hx x (by simp), hx y (by simp), zAs (l := [x, y]) (by simpa using h1)];exact hq
  ·rename_i ts x y hb ha
   simp only [Callee.builtin.injEq] at hb;subst hb;rw [ha] at hx h1;rw [hx x (by simp), hx y (by simp), zAs (l := [x, y]) (by simpa using h1)];exact hq
  ·cases hq
def zKp (s : St) : Op → List Nat
 | .box .. | .alloc _ => [s.nx]
 | _ => []
def zDs (s s' : St) : Op → List (Nat × Option OB)
 | .box .. | .alloc _ => match lkO s'.ow s.nx with
  | some o => [(s.nx, some o)]
  | none => []
 | .store _ x _ => match ev s x with
  | .loc k _ => match lkO s'.ow k with
   | some o => [(k, some o)]
   | none => []
  | _ => []
 | _ => []
def zCz (s : St) (op : Op) : List (Nat × OB) :=
 match op with
 | .move _ | .assign _ | .fieldAddr .. | .nilCheck _ | .pick .. => []
 | .store _ x _ => keysA s [x] s.ow
 | op => keysA s op.operands.toList s.ow
def zD7 (s s' : St) (dst : Option Nat) (op : Op) : Rec :=
 { slots := zBf s (tmpsOf op.operands.toList), keys := zCz s op, dst := dst, d := match dst with | some t => lkp s'.sl t | none => .any, ow := zDs s s' op, fresh := zKp s op }
def zH2 (l : List Oper) (s s' : St) (dst : Option Nat) (op : Op) (j : Nat) : Rec :=
 match zFo l j with
 | some tj => { slots := (tj, lkp s.sl tj) :: zBf s (tmpsOf op.operands.toList), keys := zCz s op, dst := dst, d := match dst with | some t => lkp s'.sl t | none => .any, ow := [], fresh := [] }
 | none => zD7 s s' dst op
def zG5 (l : List Oper) (s s' : St) : Oper → Rec
 | ⟨dst, op, _, _, _, none⟩ => zD7 s s' dst op
 | ⟨dst, op, _, _, _, some (j, _)⟩ => zH2 l s s' dst op j
section
variable {P : Program} {F : List Nat} {w0 : Base}
theorem zW6 {s σ : St} {op : Op} {r : List Prop × SD} (hs : ∀ p ∈ zBf s (tmpsOf op.operands.toList), lkp σ.sl p.1 = p.2) (hk : ∀ p ∈ keysA s op.operands.toList s.ow, lkO σ.ow p.1 = some p.2) (hq : qv P s op = some r) : qv P σ op = some r := by
 refine yBn (zBb hs) (fun x hx k o hm ho => ?_) hq
 refine hk (k, o) (zCj ?_ ho)
 clear hs hk hq
 generalize op.operands.toList = ll at hx ⊢
 induction ll with
 | nil => cases hx
 | cons y l ih =>
  rcases List.mem_cons.1 hx with rfl | hx'
  ·simp [zRh, hm]
  ·simp [zRh, ih hx']
theorem zSj {s σ : St} {op : Op} {r : List Prop × SD} (hs : ∀ p ∈ zBf s (tmpsOf op.operands.toList), lkp σ.sl p.1 = p.2) (hk : ∀ p ∈ zCz s op, lkO σ.ow p.1 = some p.2) (hq : qv P s op = some r) : qv P σ op = some r := by
 have h1 := zBb hs
 cases op
 case move x => simp only [qv] at hq ⊢; rw [h1 x (by simp [Op.operands])]; exact hq
 case assign x => simp only [qv] at hq ⊢; rw [h1 x (by simp [Op.operands])]; exact hq
 case pick c x y => simp only [qv] at hq ⊢; rw [h1 c (by simp [Op.operands]), h1 x (by simp [Op.operands]), h1 y (by simp [Op.operands])]; exact hq
 case fieldAddr T x i =>
  simp only [qv] at hq ⊢;have hu : unG σ x = unG s x := by simp only [unG, h1 x (by simp [Op.operands])]
  rw [hu, zAs (l := [x]) (by simpa [Op.operands] using h1)]; exact hq
 case nilCheck x =>
  simp only [qv] at hq ⊢;have hu : unG σ x = unG s x := by simp only [unG, h1 x (by simp [Op.operands])]
  rw [hu, zAs (l := [x]) (by simpa [Op.operands] using h1)]; exact hq
 case store T x y => cases hq
 all_goals exact zW6 hs hk hq
theorem yF8 {s : St} {ops : Array Oper} {t : Nat} {op : Op} {ty : Nat} {pos : String} {af : Array Edge} {p : List Prop} {s' : St} (hq : zOa P s t op = some (p, s')) (hp : zAn p) (hf : zKp s op = []) (hw : zDs s s' op = []) :
  zHi P F w0 ops s.n ⟨some t, op, ty, pos, af, none⟩ (zD7 s s' (some t) op) ∧ s' = (zD7 s s' (some t) op).app s := by
 unfold zOa at hq
 split at hq
 ·rename_i p' d hq'
  cases hb : Nat.blt t s.n
  ·rw [hb] at hq; cases hq
  ·rw [hb] at hq
   simp only [cond_true, zz1, Prod.mk.injEq] at hq;obtain ⟨rfl, rfl⟩ := hq;have hd : lkp (s.put t d).sl t = d := by simp [St.put, zCg]
   refine ⟨fun σ hn h1 h2 _ h e a w D K Q hK => ?_, by simp only [zD7, Rec.app, hw]; rw [hd]; rfl⟩;obtain ⟨v, g1, g2⟩ := zYb D (zSj h1 h2 hq') hp (some t) ty pos af none;rw [if_pos (by simp [Region.wanted])];refine zD3 g2 (hK h e _ _ ?_);have := D.put (i := t) (d := d) (v := v) (by rw [hn]; exact zAm hb) g1;simp only [zD7, Rec.app, hw, hd];exact this
 ·cases hq
theorem yF9 {s : St} {l : List Oper} {t tj : Nat} {op : Op} {ty : Nat} {pos : String} {af : Array Edge} {j : Nat} {b : Bool} {p : Prop} {s' : St} (hj : zFo l j = some tj) (hq : zTf P s t tj b op = some (p, s')) (hp : p) :
  zHi P F w0 l.toArray s.n ⟨some t, op, ty, pos, af, some (j, b)⟩ (zH2 l s s' (some t) op j) ∧ s' = (zH2 l s s' (some t) op j).app s := by
 unfold zTf at hq
 split at hq
 ·rename_i g hc
  split at hq
  ·rename_i p' d hq'
   cases hb : Nat.blt t s.n
   ·rw [hb] at hq; cases hq
   ·rw [hb] at hq
    simp only [cond_true, zz1, Prod.mk.injEq] at hq;obtain ⟨rfl, rfl⟩ := hq;have hd : lkp (s.put t (mkG g d)).sl t = mkG g d := by simp [St.put, zCg]
    refine ⟨fun σ hn h1 h2 _ h e a w D K Q hK => ?_, by simp only [zH2, hj, Rec.app]; rw [hd]; rfl⟩;simp only [zH2, hj] at h1 h2 hK;have hv := D.slot tj;rw [h1 (tj, lkp s.sl tj) (by simp)] at hv;rw [zCh (o := ⟨some t, op, ty, pos, af, some (j, b)⟩) rfl ((zF4 l j).trans hj) hv hc];have hlt : t < σ.n := by rw [hn]; exact zAm hb
    simp only [Rec.app, hd] at hK;cases hgb : g
    ·rw [if_neg (by simp)]
     refine hK h e _ _ (D.put (i := t) hlt ?_);exact zLr (fun h => by rw [hgb] at h; cases h) fun _ => rfl
    ·rw [if_pos rfl]
     obtain ⟨v, g1, g2⟩ := zYb D (zSj (fun p hp => h1 p (by simp [hp])) h2 hq') (hp hgb) (some t) ty pos af (some (j, b));refine zD3 g2 (hK h e _ _ (D.put (i := t) hlt ?_));exact zLr (fun _ => g1) fun h => by rw [hgb] at h; cases h
  ·cases hq
 ·cases hq
theorem zXf {s : St} {T : Nat} {x y : Operand} {ty : Nat} {pos : String} {af : Array Edge} {s' : St} {h : Hp} {e : Nm} {a : Act} {w : World} (D : Den F w0 s h e a w) (hq : zNx P s T (ev s x) (ev s y) = some s')
  (K : Act → World → Prop) (Q : Exit → Act → World → Prop) (hK : ∀ h' e' a' w', Den F w0 s' h' e' a' w' → K a' w') : (⟨none, .store T x y, ty, pos, af, none⟩ : Oper).wp P a w K Q := by
 unfold zNx at hq
 split at hq
 ·rename_i k off hx
  split at hq
  ·rename_i l ho
   split at hq
   ·rename_i c hc
    cases hb : (Nat.beq c.length (szT P T) && Nat.ble 1 c.length && Nat.ble (off + c.length) l.length)
    ·rw [hb] at hq; cases hq
    ·rw [hb] at hq
     simp only [cond_true, zz1] at hq;subst hq;simp only [zz3] at hb;obtain ⟨⟨hb1, hb2⟩, hb3⟩ := hb;have hb1 := zz4 hb1;have hb2 := Nat.le_of_ble_eq_true hb2;have hb3 := Nat.le_of_ble_eq_true hb3;have hxv := D.ev x;rw [hx] at hxv;simp only [rep] at hxv;have hcv := zAx hc (D.ev y);have hcl := zAq hcv;obtain ⟨cs, T', g1, g2⟩ := D.own k _ ho;have hl := zAq g2;obtain ⟨m, hm⟩ : ∃ m, szT P T = m + 1 := ⟨szT P T - 1, by omega⟩;obtain ⟨i, hi, hs⟩ := zAl hm;have hst := run_storeCells_at P (e.bs k) off T' (a.eval y).cells.toList 0 cs w g1 (by rw [hcl]; simp at hl; omega) (zDw hcv);simp only [Nat.add_zero] at hst;have hsz : (a.eval y).cells.size = i.size := by rw [hs, ← hm, ← hb1, ← hcl]; simp
     have hr : (execOp a.eval ⟨none, .store T x y, ty, pos, af, none⟩).run P w = .ok .skip (w.setRow (e.bs k) (cs.toList.take off ++ (a.eval y).cells.toList ++ cs.toList.drop (off + (a.eval y).cells.toList.length)).toArray) := by
      simp [execOp, hxv, Instr.storeAt, Instr.sureAddr, storeVar, sizeOf, typeInfo, hi, hsz, hst]
     unfold Oper.wp;rw [hr];refine hK h e _ _ ((D.setOwn (o' := .var (l.take off ++ c ++ l.drop (off + c.length))) ho rfl ⟨_, T', setRow_heap w _ cs _ T' _ g1, ?_⟩ ?_ rfl rfl rfl (by simp)).put_none _)
     ·rw [hcl]
      exact zBg (zBg (zDh off g2) hcv) (zBy _ g2)
     ·intro b hbk
      exact setRow_other w _ b _ (fun hc => hbk (by simp [OB.blk, hc]))
   ·cases hq
  ·cases hq
 ·cases hq
theorem boxed {s : St} {t : Nat} {x : SD} {s' : St} (hq : zLd s t x = some s') : ∃ l, cellsD x = some l ∧ t < s.n ∧ zGy s.nx l = false ∧ s' = ⟨s.n, s.nx + 1, upd s.sl t (.loc s.nx 0), upd s.ow s.nx (.var l)⟩ := by
 unfold zLd at hq
 split at hq
 ·rename_i l hl
  cases hb : (Nat.blt t s.n && s.free s.nx && !zGy s.nx l)
  ·rw [hb] at hq; cases hq
  ·rw [hb] at hq
   simp only [cond_true, zz1] at hq;simp only [zz3, Bool.not_eq_true'] at hb;exact ⟨l, hl, zAm hb.1.1, hb.2, hq.symm⟩
 ·cases hq
theorem zUj {s : St} {ops : Array Oper} {t : Nat} {op : Op} {ty : Nat} {pos : String} {af : Array Edge} {s' : St} {x : SD} (hf : zKp s op = [s.nx]) (hwr : zDs s s' op = match lkO s'.ow s.nx with
  | some o => [(s.nx, some o)]
  | none => []) (hq : zLd s t x = some s')
  (hx : ∀ σ : St, (∀ p ∈ zBf s (tmpsOf op.operands.toList), lkp σ.sl p.1 = p.2) → ∀ h e a w, Den F w0 σ h e a w → ∃ v T, rep h x e v ∧
   (execOp a.eval ⟨some t, op, ty, pos, af, none⟩).run P w = .ok (.value (.pointer (some ⟨w.heap.size, 0, none⟩))) (w.alloc (.cells v.cells T))) :
  zHi P F w0 ops s.n ⟨some t, op, ty, pos, af, none⟩ (zD7 s s' (some t) op) ∧ (s'.n = s.n ∧ (∀ i, lkp s'.sl i = lkp ((zD7 s s' (some t) op).app s).sl i) ∧ ∀ i, lkO s'.ow i = lkO ((zD7 s s' (some t) op).app s).ow i) := by
 obtain ⟨l, hl, ht, hm, rfl⟩ := boxed hq
 have h1 : lkO (upd s.ow s.nx (.var l)) s.nx = some (.var l) := by simp [zA2]
 have h2 : lkp (upd s.sl t (.loc s.nx 0)) t = .loc s.nx 0 := by simp [zCg]
 simp only [h1] at hwr
 refine ⟨fun σ hn g1 g2 g3 h e a w D K Q hK => ?_, rfl, fun i => ?_, fun i => ?_⟩
 ·rw [if_pos (by simp [Region.wanted])]
  obtain ⟨v, T, hv, hr⟩ := hx σ g1 h e a w D;unfold Oper.wp;rw [hr];have D1 := D.newVar (k := s.nx) (l := l) (cs := v.cells) (T := T) (g3 s.nx (by simp [zD7, hf])) hm (zAx hl hv) σ.nx;have D2 := D1.put (i := t) (d := .loc s.nx 0) (v := .pointer (some ⟨w.heap.size, 0, none⟩)) (by rw [hn]; exact ht) (by simp [rep, Nm.setB]);refine hK h (e.setB s.nx w.heap.size) _ _ ?_;simp only [zD7, Rec.app, hwr, h2, zNg];exact D2
 ·simp only [zD7, Rec.app, hwr, h2]
 ·simp only [zD7, Rec.app, hwr, zNg]
def Leq (s s' : St) : Prop := s.n = s'.n ∧ (∀ i, lkp s.sl i = lkp s'.sl i) ∧ ∀ i, lkO s.ow i = lkO s'.ow i
theorem semA {s : St} {l : List Oper} {o : Oper} {p : List Prop} {s' : St} (hq : zK6 P l s o = some (p, s')) (hp : zAn p) : zHi P F w0 l.toArray s.n o (zG5 l s s' o) ∧ Leq s' ((zG5 l s s' o).app s) := by
 obtain ⟨dst, op, ty, pos, af, g⟩ := o
 cases g with
 | some g =>
  obtain ⟨j, b⟩ := g;simp only [zK6] at hq;unfold stepG at hq;split at hq
  ·rename_i t tj hj
   split at hq
   ·rename_i p' s'' hg
    simp only [zz1, Prod.mk.injEq] at hq;obtain ⟨rfl, rfl⟩ := hq;obtain ⟨h1, h2⟩ := yF9 (F := F) (w0 := w0) (ty := ty) (pos := pos) (af := af) hj hg hp.1;exact ⟨h1, by simp only [zG5]; rw [← h2]; exact ⟨rfl, fun _ => rfl, fun _ => rfl⟩⟩
   ·cases hq
  ·cases hq
 | none =>
  simp only [zK6] at hq;simp only [zG5]
  have quick : ∀ t, dst = some t → zOa P s t op = some (p, s') → zKp s op = [] → zDs s s' op = [] → zHi P F w0 l.toArray s.n ⟨dst, op, ty, pos, af, none⟩ (zD7 s s' dst op) ∧ Leq s' ((zD7 s s' dst op).app s) := fun t ht hq1 hf1 hw1 => by
   subst ht;obtain ⟨h1, h2⟩ := yF8 (F := F) (w0 := w0) (ops := l.toArray) (ty := ty) (pos := pos) (af := af) hq1 hp hf1 hw1;exact ⟨h1, by rw [← h2]; exact ⟨rfl, fun _ => rfl, fun _ => rfl⟩⟩
  cases op <;> simp only [zUc] at hq
  case box T x =>
   cases dst with
   | none => cases hq
   | some t =>
    simp only at hq;split at hq
    ·rename_i s'' hb
     simp only [zz1, Prod.mk.injEq] at hq;obtain ⟨rfl, rfl⟩ := hq
     obtain ⟨h1, h2⟩ := zUj (P := P) (F := F) (w0 := w0) (ops := l.toArray) (op := .box T x) (ty := ty) (pos := pos) (af := af) rfl rfl hb fun σ hσ h e a w D => by
      refine ⟨a.eval x, T, ?_, by simp only [execOp, Instr.box, newVar, newRow, newObj]; rfl⟩;rw [← zBb (l := [x]) (by simpa [Op.operands] using hσ) x (by simp)];exact D.ev x
     exact ⟨h1, h2⟩
    ·cases hq
  case alloc T =>
   cases dst with
   | none => cases hq
   | some t =>
    simp only at hq;split at hq
    ·rename_i z hz
     split at hq
     ·rename_i s'' hb
      simp only [zz1, Prod.mk.injEq] at hq;obtain ⟨rfl, rfl⟩ := hq
      obtain ⟨h1, h2⟩ := zUj (P := P) (F := F) (w0 := w0) (ops := l.toArray) (op := .alloc T) (ty := ty) (pos := pos) (af := af) rfl rfl hb fun σ hσ h e a w D => by
       unfold zcT at hz;cases hi : P.info? T with
       | none => rw [hi] at hz; cases hz
       | some i =>
        rw [hi] at hz;cases hzz : i.zero with
        | none => simp [hzz] at hz
        | some zv =>
         simp only [Option.bind_some, hzz, zz1] at hz;subst hz;refine ⟨zv, T, zG4 h e zv, ?_⟩;have hzv : (zeroValue T).run P w = .ok zv w := by simp [zeroValue, typeInfo, hi, hzz]
         simp only [execOp, Instr.alloc, Sem.run_bind, hzv, Result.andThen_ok, newVar, newRow, newObj]; rfl
      exact ⟨h1, h2⟩
     ·cases hq
    ·cases hq
  case store T x y =>
   cases dst with
   | some t => cases hq
   | none =>
    simp only at hq;split at hq
    ·rename_i s'' hb
     simp only [zz1, Prod.mk.injEq] at hq;obtain ⟨rfl, rfl⟩ := hq;have hb' := hb;unfold zNx at hb';split at hb'
     ·rename_i k off hx
      split at hb'
      ·rename_i lc ho
       split at hb'
       ·rename_i c hc
        cases hbb : (Nat.beq c.length (szT P T) && Nat.ble 1 c.length && Nat.ble (off + c.length) lc.length)
        ·rw [hbb] at hb'; cases hb'
        ·rw [hbb] at hb'
         simp only [cond_true, zz1] at hb';subst hb'
         have hw : zDs s { s with ow := upd s.ow k (.var (lc.take off ++ c ++ lc.drop (off + c.length))) } (.store T x y) = [(k, some (.var (lc.take off ++ c ++ lc.drop (off + c.length))))] := by
          simp only [zDs, hx, zA2, if_true]
         refine ⟨fun σ hn g1 g2 _ h e a w D K Q hK => ?_, rfl, fun i => ?_, fun i => ?_⟩
         ·rw [if_pos (by simp [Region.wanted])]
          have e1 := zBb (l := [x, y]) (by simpa [zD7, Op.operands] using g1)
          have ho' : lkO σ.ow k = some (.var lc) := by
           refine g2 (k, .var lc) ?_;simp only [zD7, zCz, Op.operands];exact zCj (by simp [zRh, hx, men]) ho
          refine zXf (s' := { σ with ow := upd σ.ow k (.var (lc.take off ++ c ++ lc.drop (off + c.length))) }) D ?_ K Q fun h' e' a' w' D' => hK h' e' a' w' ?_
          ·rw [e1 x (by simp), e1 y (by simp)]
           unfold zNx;rw [hx];simp only [ho', hc, hbb, cond_true]
          ·simp only [zD7, Rec.app, hw, zNg]
           exact D'
         ·simp only [zD7, Rec.app]
         ·simp only [zD7, Rec.app, hw, zNg]
       ·cases hb'
      ·cases hb'
     ·cases hb'
    ·cases hq
  case buildSlice T len parts =>
   cases dst with
   | none => cases hq
   | some t =>
    simp only at hq;split at hq
    ·rename_i p' d hb
     cases hbl : Nat.blt t s.n
     ·rw [hbl] at hq; cases hq
     ·rw [hbl] at hq
      simp only [cond_true, zz1, Prod.mk.injEq] at hq;obtain ⟨rfl, rfl⟩ := hq;have hd : lkp (s.put t d).sl t = d := by simp [St.put, zCg]
      refine ⟨fun σ hn h1 _ _ h e a w D K Q hK => ?_, rfl, fun i => ?_, fun i => ?_⟩
      ·rw [if_pos (by simp [Region.wanted])]
       have hsO : ∀ (l : List (Nat × Operand)), zK1 l = l.map (·.2) := fun l => by
        induction l with
        | nil => rfl
        | cons p r ih => obtain ⟨i, x⟩ := p; simp [zK1, ih]
       have hev : ∀ y ∈ zK1 parts.toList, ev σ y = ev s y := fun y hy => by
        rw [hsO] at hy;exact zBb (l := (parts.toList.map (·.2))) (by simpa [zD7, Op.operands] using h1) y hy
       have hsg : ∀ (l : List (Nat × Operand)), (∀ y ∈ zK1 l, ev σ y = ev s y) → zHt σ l = zHt s l := fun l hl => by
        induction l with
        | nil => rfl
        | cons p r ih => obtain ⟨i, x⟩ := p; simp only [zHt, unG, hl x (by simp [zK1]), ih fun y hy => hl y (by simp [zK1, hy])]
       have hb' : bsD P σ T len parts.toList = some (p', d) := by
        unfold bsD at hb ⊢;rw [hsg _ hev, zAs hev];exact hb
       refine yDr D hb' hp (by rw [hn]; exact zAm hbl) K Q fun h' e' a' w' D' => hK h' e' a' w' ?_;simp only [zD7, Rec.app, zDs, hd, zNg];exact D'
      ·simp only [zD7, Rec.app, hd]
       rfl
      ·simp only [zD7, Rec.app, zDs, St.put, zNg]
    ·cases hq
  all_goals
   cases dst with
   | none => first | (simp at hq; done) | (cases hq; done) | (simp [zOa, qv] at hq; done)
   | some t => exact quick t rfl hq rfl rfl
end
end Go.Sx
namespace Go.Sx
open Go.RowKit
section
variable {P : Program} {F : List Nat} {w0 : Base} {Q fin : Exit → Act → World → Prop} {l : List Oper} {s0 s : St} {rs : List Rec} {id : Nat} {k : List It}
theorem Leq.trans {a b c : St} (h : Leq a b) (g : Leq b c) : Leq a c := ⟨h.1.trans g.1, fun i => (h.2.1 i).trans (g.2.1 i), fun i => (h.2.2 i).trans (g.2.2 i)⟩
theorem Leq.app {a b : St} (h : Leq a b) (r : Rec) : Leq (r.app a) (r.app b) := by
 refine ⟨h.1, fun i => ?_, fun i => ?_⟩
 ·simp only [Rec.app]
  cases r.dst with
  | none => exact h.2.1 i
  | some t => simp only [zCg, h.2.1 i]
 ·simp only [Rec.app, zFd, h.2.2 i]
theorem zCb (rs qs : List Rec) (S : Nat → Bool) : ∀ j, j ≤ rs.length → stS s0 (rs ++ qs) S j = stS s0 rs S j
 | 0, _ => rfl
 | j + 1, h => by
  have ih := zCb rs qs S j (by omega);simp only [stS, ih, List.getElem?_append_left (show j < rs.length by omega)]
structure zTq (P : Program) (F : List Nat) (w0 : Base) (l : List Oper) (s0 : St) (rs : List Rec) (rest : List Oper) (s : St) : Prop where
 rest : rest = l.drop rs.length
 ord : zNk s0 rs
 sem : ∀ (j : Nat) (r : Rec) (o : Oper), rs[j]? = some r → l[j]? = some o → zHi P F w0 l.toArray s0.n o r
 now : Leq s (stS s0 rs (fun _ => true) rs.length)
theorem zTq.snoc {rest : List Oper} {o : Oper} {r : Rec} {s' : St} (K : zTq P F w0 l s0 rs (o :: rest) s) (h1 : ∀ p ∈ r.slots, lkp s.sl p.1 = p.2) (h2 : ∀ p ∈ r.keys, lkO s.ow p.1 = some p.2)
  (h3 : zHi P F w0 l.toArray s.n o r) (h4 : Leq s' (r.app s)) : zTq P F w0 l s0 (rs ++ [r]) rest s' := by
 have hn : s.n = s0.n := K.now.1.trans (by rw [zHs])
 have hat : l[rs.length]? = some o := by
  have := congrArg (·[0]?) K.rest;simpa using this.symm
 refine ⟨?_, fun j q hq => ?_, fun j q o' hq ho' => ?_, ?_⟩
 ·have := congrArg List.tail K.rest
  simpa using this
 ·by_cases hj : j < rs.length
  ·rw [List.getElem?_append_left hj] at hq
   rw [zCb rs [r] _ j (by omega)];exact K.ord j q hq
  ·have hjl : j = rs.length := by
    have := (List.getElem?_eq_some_iff.1 hq).1;simp at this;omega
   subst hjl;simp only [List.getElem?_append_right (Nat.le_refl _), Nat.sub_self, List.getElem?_cons_zero, zz1] at hq;subst hq;rw [zCb rs [r] _ _ (Nat.le_refl _)];exact ⟨fun p hp => by rw [← K.now.2.1]; exact h1 p hp, fun p hp => by rw [← K.now.2.2]; exact h2 p hp⟩
 ·by_cases hj : j < rs.length
  ·rw [List.getElem?_append_left hj] at hq
   exact K.sem j q o' hq ho'
  ·have hjl : j = rs.length := by
    have := (List.getElem?_eq_some_iff.1 hq).1;simp at this;omega
   subst hjl;simp only [List.getElem?_append_right (Nat.le_refl _), Nat.sub_self, List.getElem?_cons_zero, zz1] at hq;subst hq;rw [hat] at ho';cases ho';rw [← hn];exact h3
 ·refine h4.trans ?_
  simp only [List.length_append, List.length_cons, List.length_nil, Nat.zero_add, stS, List.getElem?_append_right (Nat.le_refl _), Nat.sub_self, List.getElem?_cons_zero, if_true];rw [zCb rs [r] _ _ (Nat.le_refl _)];exact K.now.app r
def zAy (P : Program) (F : List Nat) (w0 : Base) (Q : Exit → Act → World → Prop) (id : Nat) (l : List Oper) (s0 : St) (rs : List Rec) (rest : List Oper) (s : St) : Prop :=
 zTq P F w0 l s0 rs rest s → ∀ h e a w, Den F w0 s0 h e a w → (Code.region id l.toArray true).wpIn (fe w0.rd) 0 P Q a w
theorem zP (h : zAy P F w0 (post P w0.rd fin k) id l s [] l s) : Run P F w0 fin (.code (.region id l.toArray true) :: k) s :=
 fun h' e a w D => h ⟨rfl, fun j r hj => by simp at hj, fun j r o hj => by simp at hj, rfl, fun _ => rfl, fun _ => rfl⟩ h' e a w D
def zAw (P : Program) (l : List Oper) : List Oper → St → List Rec
 | [], _ => []
 | o :: r, s => match zK6 P l s o with
  | some (_, s') => zG5 l s s' o :: zAw P l r s'
  | none => []
theorem zBe {s : St} : ∀ {l : List Nat}, ∀ p ∈ zBf s l, lkp s.sl p.1 = p.2
 | [], p, h => by cases h
 | t :: r, p, h => by
  simp only [zBf, List.mem_cons] at h
  rcases h with rfl | h
  ·rfl
  ·exact zBe p h
theorem zDd {s : St} {l : List Operand} : ∀ {w : List (Nat × OB)}, ∀ p ∈ keysA s l w, lkO s.ow p.1 = some p.2
 | [], p, h => by cases h
 | (j, oj) :: r, p, h => by
  simp only [keysA] at h;split at h
  ·rename_i o _ ho
   rcases List.mem_cons.1 h with rfl | h
   ·exact ho
   ·exact zDd p h
  ·exact zDd p h
theorem zMv {s : St} {op : Op} : ∀ p ∈ zCz s op, lkO s.ow p.1 = some p.2 := by
 intro p h
 unfold zCz at h
 split at h
 all_goals first | cases h | exact zDd p h
theorem zGh {l : List Oper} {s s' : St} {o : Oper} : (∀ p ∈ (zG5 l s s' o).slots, lkp s.sl p.1 = p.2) ∧ ∀ p ∈ (zG5 l s s' o).keys, lkO s.ow p.1 = some p.2 := by
 obtain ⟨dst, op, ty, pos, af, g⟩ := o
 cases g with
 | none => exact ⟨zBe, zMv⟩
 | some g =>
  obtain ⟨j, b⟩ := g;simp only [zG5, zH2];split
  ·refine ⟨fun p hp => ?_, zMv⟩
   rcases List.mem_cons.1 hp with rfl | hp
   ·rfl
   ·exact zBe p hp
  ·exact ⟨zBe, zMv⟩
theorem zN6 : ∀ {r r' : List Oper} {s s' : St} {p : List Prop} {rs : List Rec}, zPn P l r s = (p, s', r') → zAn p → zTq P F w0 l s0 rs r s → zTq P F w0 l s0 (rs ++ zAw P l r s) r' s'
 | [], _, _, _, _, _, h, _, K => by
  simp only [zPn, Prod.mk.injEq] at h;obtain ⟨_, rfl, rfl⟩ := h;simpa [zAw] using K
 | o :: r, r', s, s', p, rs, h, hp, K => by
  simp only [zPn] at h;simp only [zAw];split at h
  ·rename_i p1 s1 h1
   generalize hrec : zPn P l r s1 = res at h;obtain ⟨q, s2, r2⟩ := res;simp only [Prod.mk.injEq] at h;obtain ⟨rfl, rfl, rfl⟩ := h;have hp' := zHh.1 hp;obtain ⟨g1, g2⟩ := semA (F := F) (w0 := w0) h1 hp'.1;have K1 := K.snoc zGh.1 zGh.2 g1 g2;have := zN6 hrec hp'.2 K1;simp only [h1];simpa [List.append_assoc] using this
  ·rename_i h1
   simp only [Prod.mk.injEq] at h;obtain ⟨_, rfl, rfl⟩ := h;simp only [h1];simpa using K
theorem yD1 {r r' : List Oper} {s' : St} {p : List Prop} (h : zPn P l r s = (p, s', r')) (hp : zAn p) (hn : zAy P F w0 Q id l s0 (rs ++ zAw P l r s) r' s') : zAy P F w0 Q id l s0 rs r s :=
 fun K => hn (zN6 h hp K)
theorem zQ (hm : P.follows .mixedOrders = true) (hc0 : (zGz s0 l rs && zK9 l) = true) (h : Run P F w0 fin k s) : zAy P F w0 (post P w0.rd fin k) id l s0 rs [] s := fun K h' e a w D => by
 simp only [zz3] at hc0
 obtain ⟨hc, hnd⟩ := hc0
 refine wpIn_region_any hm (zFu hnd ?_)
 have hlen : rs.length = l.length := by
  simp only [zGz, zz3] at hc;exact zz4 hc.1.1
 have hfin : ∀ h e a w, Den F w0 (stS s0 rs (fun _ => true) rs.length) h e a w → post P w0.rd fin k .normal a w := fun h' e a w D => h h' e a w (D.congr K.now.1.symm (fun t => (K.now.2.1 t).symm) fun t => (K.now.2.2 t).symm)
 have hrep : ∀ j, (Array.replicate l.length false).getD j false = false := fun j => by
  simp only [Array.getD_eq_getD_getElem?, Array.getElem?_replicate];split <;> rfl
 have h0 : Den F w0 (stS s0 rs (fun j => (Array.replicate l.length false).getD j false) rs.length) h' e a { w with drawn := w.drawn + 1 } := by
  have : (fun j => (Array.replicate l.length false).getD j false) = fun _ => false := funext hrep;rw [this];refine (show Den F w0 s0 h' e a w.drew from D.drew).congr (by rw [zHs]) (fun t => ?_) fun t => ?_
  ·rw [zCv]
   have : ∀ n, zBz (wS rs t) (fun _ => false) n = none := fun n => by induction n with
    | zero => rfl
    | succ n ih => simp [zBz, ih]
   rw [this]; rfl
  ·rw [zDg]
   have : ∀ n, zBz (wO rs t) (fun _ => false) n = none := fun n => by induction n with
    | zero => rfl
    | succ n ih => simp [zBz, ih]
   rw [this]
 have hleft : left (Array.replicate l.length false) l.length ≤ l.length := by
  have : ∀ n, left (Array.replicate l.length false) n = n := fun n => by induction n with
   | zero => rfl
   | succ n ih => simp only [left, hrep, ih]; simp; omega
  rw [this];exact Nat.le_refl _
 have := zY2 (P := P) hc K.ord K.sem hfin l.length (Array.replicate l.length false) (by simp) (fun i o _ hi => by rw [hrep] at hi; cases hi) hleft h' e a _ h0
 simpa using this
theorem zXv {f t : Nat} {args : Array Operand} {tys : Array Nat} {ty : Nat} {pos : String} {af : Array Edge} {R : List SD → SD → Prop} {ds : List SD} {d : SD} {ops : Array Oper} (hf : FnOK P f R)
  (ha : args.toList.map (unG s) = ds) (hg : zAn (gCs s args.toList [])) (hR : R ds d) (ht : t < s.n) :
  zHi P F w0 ops s.n ⟨some t, .call ⟨.value (.func f), args, tys⟩, ty, pos, af, none⟩ ⟨zBf s (tmpsOf args.toList), [], some t, d, [], []⟩ := fun σ hn h1 _ _ h e a w D K Q hK => by
 rw [if_pos (by simp [Region.wanted])]
 have hev := zBb (s := s) (s' := σ) (l := args.toList) h1
 have ha' : args.toList.map (unG σ) = ds := by rw [← ha]; exact List.map_congr_left fun x hx => by simp only [unG, hev x hx]
 have hg' : zAn (gCs σ args.toList []) := by rw [zAs hev]; exact hg
 subst ha'
 unfold Oper.wp
 rw [zEx hf]
 refine (hf.ok _ _ hR h e w _ D.gh D.sub (zA1 D (zAt hg').1 fun _ hx => hx)).mono fun en w' hq => ?_
 obtain ⟨v, h', rfl, g1, g2, g3, g4, g5⟩ := hq
 exact hK _ _ _ _ ((D.called g1 g2 g3 g4).put (by rw [hn]; exact ht) (g5 e))
theorem zX {f t : Nat} {args : Array Operand} {tys : Array Nat} {ty : Nat} {pos : String} {af : Array Edge} {R : List SD → SD → Prop} {ds : List SD} {d : SD} {s' : St} {rest : List Oper} (hf : FnOK P f R)
  (ha : args.toList.map (unG s) = ds) (hg : zAn (gCs s args.toList [])) (hR : R ds d) (hs : zC0 s t d = some s')
  (hn : zAy P F w0 Q id l s0 (rs ++ [⟨zBf s (tmpsOf args.toList), [], some t, d, [], []⟩]) rest s') : zAy P F w0 Q id l s0 rs (⟨some t, .call ⟨.value (.func f), args, tys⟩, ty, pos, af, none⟩ :: rest) s := fun K => by
 obtain ⟨ht, rfl⟩ := zA0 hs
 exact hn (K.snoc zBe (fun p hp => by cases hp) (zXv hf ha hg hR ht) ⟨rfl, fun _ => rfl, fun _ => rfl⟩)
theorem zUk {f t tj : Nat} {args : Array Operand} {tys : Array Nat} {ty : Nat} {pos : String} {af : Array Edge} {j : Nat} {b g : Bool} {R : List SD → SD → Prop} {ds : List SD} {d : SD} {l : List Oper} (hj : zFo l j = some tj) (hc : gV (lkp s.sl tj) b = some g) (hf : FnOK P f R)
  (ha : args.toList.map (unG s) = ds) (hg : g = true → zAn (gCs s args.toList [])) (hR : g = true → R ds d) (ht : t < s.n) :
  zHi P F w0 l.toArray s.n ⟨some t, .call ⟨.value (.func f), args, tys⟩, ty, pos, af, some (j, b)⟩ ⟨(tj, lkp s.sl tj) :: zBf s (tmpsOf args.toList), [], some t, .gd g d, [], []⟩ := fun σ hn h1 _ _ h e a w D K Q hK => by
 have hv := D.slot tj
 rw [h1 (tj, lkp s.sl tj) (by simp)] at hv
 rw [zCh (o := ⟨some t, .call ⟨.value (.func f), args, tys⟩, ty, pos, af, some (j, b)⟩) rfl ((zF4 l j).trans hj) hv hc]
 have hlt : t < σ.n := by rw [hn]; exact ht
 have hev := zBb (s := s) (s' := σ) (l := args.toList) fun p hp => h1 p (by simp [hp])
 have ha' : args.toList.map (unG σ) = ds := by rw [← ha]; exact List.map_congr_left fun x hx => by simp only [unG, hev x hx]
 have hg' : g = true → zAn (gCs σ args.toList []) := by rw [zAs hev]; exact hg
 subst ha'
 cases hgb : g
 ·rw [if_neg (by simp)]
  refine hK h e _ _ (D.put (i := t) hlt ?_);simp [rep, hgb]
 ·rw [if_pos rfl]
  unfold Oper.wp;rw [zEx hf];refine (hf.ok _ _ (hR hgb) h e w _ D.gh D.sub (zA1 D (zAt (hg' hgb)).1 fun _ hx => hx)).mono fun en w' hq => ?_;obtain ⟨v, h', rfl, g1, g2, g3, g4, g5⟩ := hq;refine hK _ _ _ _ ((D.called g1 g2 g3 g4).put (i := t) hlt ?_);simp only [rep];exact ⟨fun _ => g5 e, fun h => by rw [hgb] at h; cases h⟩
theorem zBx {f t : Nat} {args : Array Operand} {tys : Array Nat} {ty : Nat} {pos : String} {af : Array Edge} {j : Nat} {b g : Bool} {R : List SD → SD → Prop} {ds : List SD} {d : SD} {s' : St} {rest : List Oper} (tj : Nat)
  (hj : zFo l j = some tj) (hc : gV (lkp s.sl tj) b = some g) (hf : FnOK P f R)
  (ha : args.toList.map (unG s) = ds) (hg : g = true → zAn (gCs s args.toList [])) (hR : g = true → R ds d) (hs : zC0 s t (.gd g d) = some s')
  (hn : zAy P F w0 Q id l s0 (rs ++ [⟨(tj, lkp s.sl tj) :: zBf s (tmpsOf args.toList), [], some t, .gd g d, [], []⟩]) rest s') : zAy P F w0 Q id l s0 rs (⟨some t, .call ⟨.value (.func f), args, tys⟩, ty, pos, af, some (j, b)⟩ :: rest) s := fun K => by
 obtain ⟨ht, rfl⟩ := zA0 hs
 refine hn (K.snoc (fun p hp => ?_) (fun p hp => by cases hp) (zUk hj hc hf ha hg hR ht) ⟨rfl, fun _ => rfl, fun _ => rfl⟩)
 rcases List.mem_cons.1 hp with rfl | hp
 ·rfl
 ·exact zBe p hp
end
end Go.Sx
namespace Go.Sx
open Go.RowKit
def yFh (s : St) (k : Nat) : Prop := (∀ t, men k (lkp s.sl t) = false) ∧ ∀ j o, lkO s.ow j = some o → j ≠ k → (∀ x, o = .var x → zGy k x = false) ∧ (∀ kd x, o = .mp kd x → zC4 k x = false)
section
variable {P : Program} {F : List Nat} {w0 : Base} {s : St} {h : Hp} {e : Nm} {a : Act} {w : World}
theorem Den.acc' (D : Den F w0 s h e a w) {k : Nat} (hm : yFh s k) {T es n : Nat} {f : Nat → SD} {v' : Value} {w' : World} {row : Option Nat} (h1 : zDp h (e.setH k v') w' k (.acc T es n f))
  (hrow : ∀ b, row = some b → (w0.w.heap.size ≤ b ∨ (b ∈ F ∧ 700 ≤ k)) ∧ h b = none ∧ ∀ j o', j ≠ k → lkO s.ow j = some o' → o'.blk e j ≠ some b)
  (hblk : ∀ b, v'.ownBlock = some b → row = some b ∨ b = w.heap.size) (hg : Grw w w' row) :
  Den F w0 { s with ow := upd s.ow k (.acc T es n f) } h (e.setH k v') a w' := by
 have he := e.but_setH k v'
 have hfresh : h w.heap.size = none := by
  cases hx : h w.heap.size with
  | none => rfl
  | some o => have := (Array.getElem?_eq_some_iff.1 (D.sub _ _ hx)).1; omega
 have keep : ∀ b, b < w.heap.size → row ≠ some b → w'.heap[b]? = w.heap[b]? := fun b hb hne => hg.block b hb (fun hc => hne hc.symm)
 have other : ∀ j o, j ≠ k → lkO s.ow j = some o → ∀ b, o.blk e j = some b → b < w.heap.size ∧ row ≠ some b := fun j o hj ho b hb => ⟨zD9 (D.own j o ho) hb, fun hc => (hrow b hc).2.2 j o hj ho hb⟩
 have hmine : ∀ b, v'.ownBlock = some b → (w0.w.heap.size ≤ b ∨ (b ∈ F ∧ 700 ≤ k)) ∧ h b = none ∧ ∀ j o', j ≠ k → lkO s.ow j = some o' → o'.blk e j ≠ some b := fun b hb => by
  rcases hblk b hb with hr | hr
  ·exact hrow b hr
  ·subst hr
   exact ⟨.inl D.keeps.size, hfresh, fun j o' hj ho hc => by have := (other j o' hj ho _ hc).1; omega⟩
 refine ⟨D.defers, D.size, fun t => zDo he _ _ (hm.1 t) (D.slot t), fun j x hj => ?_, fun j x b hj hb => ?_, fun j j' o1 o2 b hne hj hj' hb => ?_, fun b x hx => ?_, ?_, D.le, D.neww, D.fix⟩
 ·rw [zA2] at hj
  by_cases hjk : j = k
  ·subst hjk; simp only [if_true, zz1] at hj; subst hj; exact h1
  ·simp only [hjk, if_false] at hj
   obtain ⟨m1, m2⟩ := hm.2 j x hj hjk;exact zJp he hjk m1 m2 (zDi (Le.refl h) (fun b hb => keep b (other j x hjk hj b hb).1 (other j x hjk hj b hb).2) (D.own j x hj))
 ·rw [zA2] at hj
  by_cases hjk : j = k
  ·subst hjk
   simp only [if_true, zz1] at hj;subst hj;simp only [OB.blk, Nm.setH, if_true] at hb;exact ⟨(hmine b hb).1, (hmine b hb).2.1⟩
  ·simp only [hjk, if_false] at hj
   rw [zBv he hjk] at hb;exact D.ownb j x b hj hb
 ·rw [zA2] at hj hj'
  by_cases hjk : j = k
  ·subst hjk
   have hjk' : j' ≠ j := fun x => hne x.symm;simp only [if_true, zz1] at hj;simp only [hjk', if_false] at hj';subst hj;simp only [OB.blk, Nm.setH, if_true] at hb;rw [zBv he hjk'];exact (hmine b hb).2.2 j' o2 hjk' hj'
  ·simp only [hjk, if_false] at hj
   rw [zBv he hjk] at hb;by_cases hjk' : j' = k
   ·subst hjk'
    simp only [if_true, zz1] at hj';subst hj';simp only [OB.blk, Nm.setH, if_true];exact fun hc => (hmine b hc).2.2 j o1 hjk hj hb
   ·simp only [hjk', if_false] at hj'
    rw [zBv he hjk'];exact D.apart j j' o1 o2 b hne hj hj' hb
 ·have hlt := (Array.getElem?_eq_some_iff.1 (D.sub _ _ hx)).1
  rw [keep b hlt (fun hc => by have := (hrow b hc).2.1; rw [this] at hx; cases hx)];exact D.sub b x hx
 ·refine ⟨hg.os.trans D.keeps.os, hg.tape.trans D.keeps.tape, hg.output.trans D.keeps.output, Nat.le_trans D.keeps.size hg.size, Nat.le_trans D.keeps.dr hg.dr, fun b hb hF => ?_⟩
  rw [keep b (Nat.lt_of_lt_of_le hb D.keeps.size) (fun hc => ?_)]
  ·exact D.keeps.block b hb hF
  ·rcases (hrow b hc).1 with hx | hx
   ·omega
   ·exact hF hx.1
end
def zKd (k : Nat) : List (Nat × SD) → List (Nat × SD)
 | [] => []
 | (i, d) :: r => (i, bif men k d then .any else d) :: zKd k r
def zGw (k : Nat) : List SD → List SD
 | [] => []
 | d :: r => (bif men k d then .any else d) :: zGw k r
def zLn (k : Nat) : SD → SD
 | .agg l => .agg (zGw k l)
 | d => bif men k d then .any else d
def zKe (k : Nat) : List (SD × SD) → List (SD × SD)
 | [] => []
 | (d, c) :: r => (zLn k d, c) :: zKe k r
def zF3 (k : Nat) : List (Nat × OB) → List (Nat × OB)
 | [] => []
 | (j, .var l) :: r => (j, .var (zGw k l)) :: zF3 k r
 | (j, .mp m l) :: r => (j, .mp m (zKe k l)) :: zF3 k r
 | (j, .acc T es n f) :: r => (j, .acc T es n f) :: zF3 k r
theorem zKk (k : Nat) : ∀ (l : List (Nat × SD)) (t : Nat), lkp (zKd k l) t = bif men k (lkp l t) then .any else lkp l t
 | [], t => rfl
 | (i, d) :: r, t => by
  simp only [zKd, lkp];cases Nat.beq i t
  ·exact zKk k r t
  ·rfl
theorem zKi (k : Nat) (d : SD) : men k (bif men k d then .any else d) = false := by
 cases h : men k d
 ·exact h
 ·rfl
theorem zIv (k : Nat) : ∀ (l : List SD), zGy k (zGw k l) = false
 | [] => rfl
 | d :: r => by simp only [zGw, zGy, zKi, zIv k r, Bool.or_self]
theorem zIr {h : Hp} {e : Nm} (k : Nat) : ∀ (l : List SD) (vs : List Value), repC h l e vs → repC h (zGw k l) e vs
 | [], _, x => x
 | d :: r, vs, x => by
  simp only [zGw, repC] at x ⊢;obtain ⟨v, vs', h1, h2, h3, h4⟩ := x;refine ⟨v, vs', h1, h2, ?_, zIr k r vs' h4⟩;cases men k d
  ·exact h3
  ·simp [rep]
theorem zS8 (k : Nat) (d : SD) : men k (zLn k d) = false := by
 unfold zLn
 split
 ·simp only [men, zIv]
 ·exact zKi k _
theorem zLs (k : Nat) : ∀ (l : List (SD × SD)), zC4 k (zKe k l) = false
 | [] => rfl
 | (d, c) :: r => by simp only [zKe, zC4, zS8, zLs k r, Bool.or_self]
theorem zSz {h : Hp} {e : Nm} (k : Nat) (d : SD) (u : Value) (x : rep h d e u) : rep h (zLn k d) e u := by
 unfold zLn
 split
 ·simp only [rep] at x ⊢
  obtain ⟨vs, h1, h2⟩ := x;exact ⟨vs, h1, zIr k _ _ h2⟩
 ·cases men k d
  ·exact x
  ·simp [rep]
theorem zSy {h : Hp} {e : Nm} {u : Value} (k : Nat) (l : List (SD × SD)) (x : ∀ d c r, l = (d, c) :: r → rep h d e u) : ∀ d c r, zKe k l = (d, c) :: r → rep h d e u := fun d c r hr => by
 cases l with
 | nil => cases hr
 | cons p q =>
  obtain ⟨d1, c1⟩ := p;simp only [zKe, List.cons.injEq, Prod.mk.injEq] at hr;obtain ⟨⟨rfl, rfl⟩, rfl⟩ := hr;exact zSz k d1 u (x d1 c1 q rfl)
theorem zCi (k : Nat) : ∀ (l : List (Nat × OB)) (j : Nat) (o : OB), lkO (zF3 k l) j = some o → ∃ o0, lkO l j = some o0 ∧ OLe o0 o ∧ (∀ x, o = .var x → zGy k x = false) ∧ (∀ kd x, o = .mp kd x → zC4 k x = false)
 | [], j, o, h => by cases h
 | (i, .var l) :: r, j, o, h => by
  simp only [zF3, lkO] at h ⊢;cases hb : Nat.beq i j
  ·rw [hb] at h; exact zCi k r j o h
  ·rw [hb] at h
   simp only [cond_true, zz1] at h;subst h;exact ⟨_, rfl, fun h e vs x => zIr k l vs x, fun x hx => by cases hx; exact zIv k l, fun kd x hx => by cases hx⟩
 | (i, .acc T es n f) :: r, j, o, h => by
  simp only [zF3, lkO] at h ⊢;cases hb : Nat.beq i j
  ·rw [hb] at h; exact zCi k r j o h
  ·rw [hb] at h
   simp only [cond_true, zz1] at h;subst h;exact ⟨_, rfl, OLe.refl _, fun x hx => (by cases hx), fun kd x hx => (by cases hx)⟩
 | (i, .mp kd l) :: r, j, o, h => by
  simp only [zF3, lkO] at h ⊢;cases hb : Nat.beq i j
  ·rw [hb] at h; exact zCi k r j o h
  ·rw [hb] at h
   simp only [cond_true, zz1] at h;subst h;exact ⟨_, rfl, ⟨⟨rfl, rfl, rfl, fun _ => ⟨rfl, fun _ _ _ _ x => x⟩⟩, fun h e u x => zSy k l x⟩, fun x hx => (by cases hx), fun kd x hx => (by cases hx; exact zLs k l)⟩
def St.purge (s : St) (k : Nat) : St := ⟨s.n, s.nx, zKd k s.sl, zF3 k s.ow⟩
def zVq (_ : Nat) (_ : List (Nat × OB)) : Bool := true
section
variable {P : Program} {F : List Nat} {w0 : Base} {s : St} {h : Hp} {e : Nm} {a : Act} {w : World}
theorem Den.purge (D : Den F w0 s h e a w) {k : Nat} (_hn : zVq k s.ow = true) : Den F w0 (s.purge k) h e a w ∧ yFh (s.purge k) k := by
 constructor
 ·refine ⟨D.defers, D.size, fun t => ?_, fun j o hj => ?_, fun j o b hj hb => ?_, fun j j' o o' b hne hj hj' hb => ?_, D.sub, D.keeps, D.le, D.neww, D.fix⟩
  ·simp only [St.purge, zKk]
   cases men k (lkp s.sl t)
   ·exact D.slot t
   ·simp [rep]
  ·obtain ⟨o0, g1, g2, _⟩ := zCi k _ j o hj
   exact g2.ok (D.own j o0 g1)
  ·obtain ⟨o0, g1, g2, _⟩ := zCi k _ j o hj
   rw [g2.blk] at hb;exact D.ownb j o0 b g1 hb
  ·obtain ⟨o0, g1, g2, _⟩ := zCi k _ j o hj
   obtain ⟨o1, g3, g4, _⟩ := zCi k _ j' o' hj';rw [g2.blk] at hb;rw [g4.blk];exact D.apart j j' o0 o1 b hne g1 g3 hb
 ·refine ⟨fun t => ?_, fun j o hj _ => ?_⟩
  ·simp only [St.purge, zKk]
   exact zKi k _
  ·obtain ⟨o0, g1, g2, g3, g4⟩ := zCi k _ j o hj
   exact ⟨g3, g4⟩
end
def byT (P : Program) (T : Nat) : Nat := P.bytesOf T
def zBi (P : Program) (T : Nat) : Bool := match (P.info? T).bind (·.zero) with
 | some z => Nat.beq z.cells.size (szT P T) && z.cells.all (·.oneCell')
 | none => false
def yA2 (es : Nat) : SD → Option (Nat × (Nat → SD))
 | .list es' m g => bif Nat.beq es es' then some (m, g) else none
 | .nils => some (0, fun _ => .any)
 | _ => none
def zA3 (n : Nat) (f g : Nat → SD) (i : Nat) : SD := if i < n then f i else g (i - n)
def apD (P : Program) (s : St) (t T : Nat) (x y : SD) : Option (List Prop × St) :=
 bif Nat.beq (kdT P T) 1 && Nat.blt t s.n then
  match elT P T with
  | some te => bif Nat.ble 1 (szT P te) && Nat.ble 1 (byT P te) && Nat.ble (byT P te) 2048 && zBi P te then
    match yA2 (szT P te) y with
    | some (m, g) => match x with
     | .nils => bif s.free s.nx then some ([m ≤ 68719476736], ⟨s.n, s.nx + 1, upd s.sl t (.acc s.nx), upd s.ow s.nx (.acc te (szT P te) m g)⟩) else none
     | .acc k => match lkO s.ow k with
      | some (.acc te' es' n f) => bif Nat.beq te te' && Nat.beq (szT P te) es' && zVq k s.ow then
        some ([n + m ≤ 68719476736], ⟨s.n, s.nx, upd (zKd k s.sl) t (.acc k), upd (zF3 k s.ow) k (.acc te (szT P te) (n + m) (zA3 n f g))⟩) else none
      | _ => none
     | _ => none
    | none => none
   else none
  | none => none
 else none
theorem zPl {es m : Nat} {g : Nat → SD} {y : SD} {h : Hp} {e : Nm} {v : Value} {w : World} (hs : Sub h w) (hy : rep h y e v) (hd : yA2 es y = some (m, g)) :
  ∃ ao c, v = .slice ao m c ∧ (ao = none → m = 0) ∧ m ≤ maxL ∧ ∃ news : List Value, news.length = m * es ∧ (∀ ad, ao = some ad → ∀ j u, news[j]? = some u → w.cell? (ad.add j) = some u) ∧ (∀ u ∈ news, u.oneCell' = true) ∧
   ∀ i, i < m → ∃ u, (∀ e, rep h (g i) e u) ∧ u.cells.toList = cut news (i * es) es ∧ u.cells.size = es ∧ ∀ c ∈ u.cells, c.oneCell' = true := by
 cases y <;> simp only [yA2, reduceCtorEq] at hd
 case nils =>
  simp only [zz1, Prod.mk.injEq] at hd;obtain ⟨rfl, rfl⟩ := hd;simp only [rep] at hy;exact ⟨none, 0, hy, fun _ => rfl, Nat.zero_le _, [], by simp, by simp, by simp, fun i hi => absurd hi (by omega)⟩
 case list es' n f =>
  cases hb : Nat.beq es es'
  ·rw [hb] at hd; cases hd
  ·rw [hb] at hd
   have := zz4 hb;subst this;simp only [cond_true, zz1, Prod.mk.injEq] at hd;obtain ⟨rfl, rfl⟩ := hd;simp only [rep] at hy;obtain ⟨ao, cap, rfl, h2, h3, h4⟩ := hy;by_cases hn : n = 0
   ·subst hn
    exact ⟨ao, cap, rfl, fun _ => rfl, Nat.zero_le _, [], by simp, by simp, by simp, fun i hi => absurd hi (by omega)⟩
   ·obtain ⟨ad, cs, T, fr, rfl, g2, g3, g4⟩ := h4 (by omega)
    obtain ⟨b, off, sp⟩ := ad;simp only at g2;subst g2
    have hcut : ∀ i, i < n → (cut cs.toList (off + i * es) es).length = es := fun i hi => by
     obtain ⟨u, _, u2, u3, _⟩ := g4 i hi;rw [← u2]; simpa using u3
    have hone : ∀ i, i < n → ∀ c ∈ cut cs.toList (off + i * es) es, c.oneCell' = true := fun i hi c hc => by
     obtain ⟨u, _, u2, _, u4⟩ := g4 i hi;rw [← u2] at hc;exact u4 c (by simpa using hc)
    have hlen : (cut cs.toList off (n * es)).length = n * es := by
     have := hcut (n - 1) (by omega);simp only [cut, List.length_take, List.length_drop] at this ⊢
     have h5 : n * es = (n - 1) * es + es := by
      obtain ⟨m, rfl⟩ : ∃ m, n = m + 1 := ⟨n - 1, by omega⟩;simp [Nat.add_mul]
     rcases Nat.eq_zero_or_pos es with h0 | h0
     ·simp [h0]
     ·omega
    refine ⟨some ⟨b, off, none⟩, cap, rfl, fun hc => (by cases hc), h3.2, cut cs.toList off (n * es), hlen, fun ad had j u hu => ?_, fun u hu => ?_, fun i hi => ?_⟩
    ·cases had
     rw [Addr.add_mid, cell_of_block (hs _ _ g3)];unfold cut at hu;rw [List.getElem?_take] at hu;split at hu
     ·simpa using hu
     ·cases hu
    ·obtain ⟨j, hj, rfl⟩ := List.mem_iff_getElem.1 hu
     have hes : 0 < es := by
      rcases Nat.eq_zero_or_pos es with h0 | h0
      ·rw [hlen, h0] at hj; simp at hj
      ·exact h0
     have hjn : j / es < n := by
      rw [hlen] at hj;exact Nat.div_lt_of_lt_mul (by rw [Nat.mul_comm]; exact hj)
     refine hone (j / es) hjn _ ?_;rw [List.mem_iff_getElem?];refine ⟨j % es, ?_⟩;have hm := Nat.mod_lt j hes;have hd := Nat.div_add_mod j es;simp only [cut, List.getElem?_take, hm, if_true, List.getElem?_drop, List.getElem_take, List.getElem_drop];rw [← List.getElem?_eq_getElem]
     congr 1
     rw [Nat.mul_comm] at hd;omega
    ·obtain ⟨u, u1, u2, u3⟩ := g4 i hi
     refine ⟨u, u1, ?_, u3⟩;rw [u2];simp only [cut, List.drop_take, List.take_take, List.drop_drop]
     congr 1
     have : (i + 1) * es ≤ n * es := Nat.mul_le_mul_right _ hi;rw [Nat.add_mul] at this;omega
end Go.Sx
namespace Go.Sx
open Go.RowKit
section
variable {P : Program} {F : List Nat} {w0 : Base} {s : St} {h : Hp} {e : Nm} {a : Act} {w : World}
theorem zV8 {es n m : Nat} {f g : Nat → SD} {xs news : List Value} (hx : xs.length = n * es)
  (h1 : ∀ i, i < n → ∃ u : Value, (∀ e, rep h (f i) e u) ∧ u.cells.toList = cut xs (i * es) es ∧ u.cells.size = es ∧ ∀ c ∈ u.cells, c.oneCell' = true)
  (h2 : ∀ i, i < m → ∃ u : Value, (∀ e, rep h (g i) e u) ∧ u.cells.toList = cut news (i * es) es ∧ u.cells.size = es ∧ ∀ c ∈ u.cells, c.oneCell' = true) :
  ∀ i, i < n + m → ∃ u : Value, (∀ e, rep h (zA3 n f g i) e u) ∧ u.cells.toList = cut (xs ++ news) (i * es) es ∧ u.cells.size = es ∧ ∀ c ∈ u.cells, c.oneCell' = true := fun i hi => by
 unfold zA3
 by_cases hin : i < n
 ·obtain ⟨u, u1, u2, u3⟩ := h1 i hin
  refine ⟨u, by simpa [hin] using u1, ?_, u3⟩;rw [u2];simp only [cut];have : (i + 1) * es ≤ n * es := Nat.mul_le_mul_right _ hin;rw [Nat.add_mul, Nat.one_mul] at this;rw [List.drop_append_of_le_length (by omega), List.take_append_of_le_length (by simp; omega)]
 ·obtain ⟨u, u1, u2, u3⟩ := h2 (i - n) (by omega)
  refine ⟨u, by simpa [hin] using u1, ?_, u3⟩;rw [u2];simp only [cut];have hni : n * es ≤ i * es := Nat.mul_le_mul_right _ (by omega)
  have e1 : List.drop (i * es) (xs ++ news) = List.drop ((i - n) * es) news := by
   rw [List.drop_append, List.drop_eq_nil_of_le (by omega), List.nil_append, hx, Nat.sub_mul]
  rw [e1]
theorem zTx (D : Den F w0 s h e a w) {t T : Nat} {x y : Operand} {tys : Array Nat} {ty : Nat} {pos : String} {af : Array Edge} {g : Option (Nat × Bool)} {p : List Prop} {s' : St} (htys : tys = #[T, T])
  (hq : apD P s t T (ev s x) (ev s y) = some (p, s')) (hp : zAn p) (K : Act → World → Prop) (Q : Exit → Act → World → Prop) (hK : ∀ h' e' a' w', Den F w0 s' h' e' a' w' → K a' w') :
  (⟨some t, .call ⟨.builtin .append, #[x, y], tys⟩, ty, pos, af, g⟩ : Oper).wp P a w K Q := by
 subst htys
 unfold apD at hq
 cases hk : (Nat.beq (kdT P T) 1 && Nat.blt t s.n)
 ·rw [hk] at hq; cases hq
 ·rw [hk] at hq
  simp only [cond_true] at hq;simp only [zz3] at hk;obtain ⟨te, hu⟩ := zPb hk.1;have ht := zAm hk.2;split at hq
  ·rename_i te' hte
   have := zBr hu hte;subst this;cases hb : (Nat.ble 1 (szT P te') && Nat.ble 1 (byT P te') && Nat.ble (byT P te') 2048 && zBi P te')
   ·rw [hb] at hq; cases hq
   ·rw [hb] at hq
    simp only [cond_true] at hq;simp only [zz3] at hb;obtain ⟨⟨⟨b1, b2⟩, b4⟩, b3⟩ := hb;have b4 := Nat.le_of_ble_eq_true b4;have b1 := Nat.le_of_ble_eq_true b1;have b2 := Nat.le_of_ble_eq_true b2;obtain ⟨m0, hm0⟩ : ∃ m, szT P te' = m + 1 := ⟨szT P te' - 1, by omega⟩;obtain ⟨i, hi, hs⟩ := zAl hm0;have hes : szT P te' = i.size := by omega
    have hby : byT P te' = i.bytes := by simp [byT, Program.bytesOf, hi]
    split at hq
    ·rename_i m gf hsrc
     obtain ⟨ao, c, hyv, hao, hml, news, hnl, hnc, hn1, hng⟩ := zPl D.sub (D.ev y) hsrc;cases hz : i.zero with
     | none => simp [zBi, hi, hz] at b3
     | some z =>
      have hzs : z.cells.size = i.size := by
       simp only [zBi, hi, Option.bind_some, hz, zz3] at b3;rw [← hes];exact zz4 b3.1
      have run : ∀ (v : Value) (n : Nat) (xs : List Value), w.ownsRow 0 te' i.size v n xs → n + m ≤ 68719476736 →
        ∃ v' w', (Builtin.append_ #[T, T] ty #[v, .slice ao m c]).run P w = .ok v' w' ∧ w'.ownsRow 0 te' i.size v' (n + m) (xs ++ news) ∧ Grw w w' v.ownBlock ∧ (v'.ownBlock = v.ownBlock ∨ v'.ownBlock = some w.heap.size) := fun v n xs hown hbn => by
       have hbytes : (n + m) * i.bytes ≤ 140737488355328 := by
        have : (n + m) * i.bytes ≤ 68719476736 * 2048 := Nat.mul_le_mul hbn (by rw [← hby]; exact b4);omega
       have h63 : n + m ≤ maxLen := by
        simp only [maxLen]; omega
       cases ao with
       | some ad =>
        obtain ⟨v', w', r1, r2, r3, _, r5⟩ := run_append_own_at (P := P) w 0 T ty te' i z i.size i.bytes hu hi hz rfl rfl hzs (by omega) v n xs hown ad m c news (by rw [← hes]; exact hnl) (hnc ad rfl) hn1 h63 hbytes (Nat.zero_le _);exact ⟨v', w', r1, r2, ⟨r3, zUx _ _ _ _ r1⟩, r5⟩
       | none =>
        have hm := hao rfl;subst hm;have hnn : news = [] := List.eq_nil_of_length_eq_zero (by simpa using hnl);subst hnn;refine ⟨v, w, ?_, by simpa using hown, ⟨⟨rfl, rfl, rfl, Nat.le_refl _, fun _ _ _ => rfl⟩, Nat.le_refl _⟩, .inl rfl⟩
        rcases hown.2 with ⟨rfl, rfl⟩ | ⟨g, cap, cur, rfl, _, _, hnc', _⟩
        ·simp [Builtin.append_, run_underlying hu, sizeOf, typeInfo, hi, Builtin.lenOf, Builtin.firstCells]
        ·simp [Builtin.append_, run_underlying hu, sizeOf, typeInfo, hi, Builtin.lenOf, Builtin.firstCells, hnc', storeCells]
      have hexec : ∀ (v : Value), a.eval x = v → ∀ v' w', (Builtin.append_ #[T, T] ty #[v, .slice ao m c]).run P w = .ok v' w' → (execOp a.eval ⟨some t, .call ⟨.builtin .append, #[x, y], #[T, T]⟩, ty, pos, af, g⟩).run P w = .ok (.value v') w' := fun v hv v' w' hr => by
       simp only [execOp, resolve, invoke, builtin, Sem.run_bind, Sem.run_pure, Result.andThen_ok, List.map_toArray, List.map_cons, List.map_nil, hv, hyv, hr]
      have hxv := D.ev x;split at hq
      ·rename_i hxe
       rw [hxe] at hxv;simp only [rep] at hxv;cases hfr : s.free s.nx
       ·rw [hfr] at hq; cases hq
       ·rw [hfr] at hq
        simp only [cond_true, zz1, Prod.mk.injEq] at hq;obtain ⟨rfl, rfl⟩ := hq;simp only [zAn] at hp;obtain ⟨v', w', r1, r2, r3, r4⟩ := run (.slice none 0 0) 0 [] (World.ownsRow_nil w 0 te' i.size) (by simpa using hp.1);unfold Oper.wp;rw [hexec _ hxv v' w' r1];have hF := Free.of hfr;have D1 := D.acc' (k := s.nx) (T := te') (es := szT P te') (n := m) (f := gf) (v' := v') (w' := w') (row := none) ⟨hF.sl, fun j o hj _ => (hF.ow j o hj).2⟩ ?_ (fun b hb => by cases hb) (fun b hb => ?_) (by simpa [Value.ownBlock] using r3)
        ·have D2 := D1.put (i := t) (d := .acc s.nx) (v := v') ht ?_
         ·exact hK _ _ _ _ (D2.congr rfl (fun _ => rfl) fun _ => rfl)
         ·simp only [rep, Nm.setH, if_true]
          refine ⟨trivial, ?_⟩
          rcases r2.2 with ⟨hv, _⟩ | ⟨g, cap, cur, hv, _⟩
          ·exact ⟨none, 0, 0, hv⟩
          ·exact ⟨_, _, _, hv⟩
        ·refine ⟨news, ?_, hp.1, ?_⟩
         ·simp only [Nm.setH, if_true]
          rw [hes];simpa using r2
         ·rw [hes] at hng ⊢; exact hng
        ·rcases r4 with hr | hr
         ·rw [hr] at hb; simp [Value.ownBlock] at hb
         ·rw [hr] at hb; cases hb; exact .inr rfl
      ·rename_i k hxe
       rw [hxe] at hxv;simp only [rep] at hxv;split at hq
       ·rename_i te2 es2 n f ho
        cases hfr : (Nat.beq te' te2 && Nat.beq (szT P te') es2 && zVq k s.ow)
        ·rw [hfr] at hq; cases hq
        ·rw [hfr] at hq
         simp only [cond_true, zz1, Prod.mk.injEq] at hq;obtain ⟨rfl, rfl⟩ := hq;simp only [zz3] at hfr;obtain ⟨⟨f1, f2⟩, f3⟩ := hfr;have f1 := zz4 f1;have f2 := zz4 f2;subst f1 f2;simp only [zAn] at hp;obtain ⟨xs, o1, o2, o3⟩ := D.own k _ ho;have hxl := o1.1;obtain ⟨v', w', r1, r2, r3, r4⟩ := run (e.hd k) n xs (by rw [← hes]; exact o1) hp.1;unfold Oper.wp;rw [hexec _ hxv.1 v' w' r1];obtain ⟨Dp, hNo⟩ := D.purge (k := k) f3;have h63 : n + m ≤ maxN := hp.1;have D1 := Dp.acc' (k := k) (T := te') (es := szT P te') (n := n + m) (f := zA3 n f gf) (v' := v') (w' := w') (row := (e.hd k).ownBlock) hNo ?_ (fun b hb => ?_) (fun b hb => ?_) r3
         ·have D2 := D1.put (i := t) (d := .acc k) (v := v') ht ?_
          ·exact hK _ _ _ _ (D2.congr rfl (fun _ => rfl) fun _ => rfl)
          ·simp only [rep, Nm.setH, if_true]
           refine ⟨trivial, ?_⟩
           rcases r2.2 with ⟨hv, _⟩ | ⟨g, cap, cur, hv, _⟩
           ·exact ⟨none, 0, 0, hv⟩
           ·exact ⟨_, _, _, hv⟩
         ·refine ⟨xs ++ news, ?_, h63, zV8 (es := szT P te') hxl ?_ ?_⟩
          ·simp only [Nm.setH, if_true]
           rw [hes];exact r2
          ·exact o3
          ·exact hng
         ·refine ⟨(D.ownb k _ b ho (by simpa [OB.blk] using hb)).1, (D.ownb k _ b ho (by simpa [OB.blk] using hb)).2, fun j o' hjk hj hc => ?_⟩
          obtain ⟨o0, g1, g2, _⟩ := zCi k _ j o' hj;rw [g2.blk] at hc;exact D.apart j k o0 _ b hjk g1 ho hc (by simpa [OB.blk] using hb)
         ·rcases r4 with hr | hr
          ·rw [hr] at hb; exact .inl hb
          ·rw [hr] at hb; cases hb; exact .inr rfl
       ·cases hq
      ·cases hq
    ·cases hq
  ·cases hq
end
end Go.Sx
namespace Go.Sx
open Go.RowKit
def mkD (P : Program) (s : St) (t T : Nat) (x y : SD) : Option (List Prop × St) :=
 bif Nat.beq (kdT P T) 1 && Nat.blt t s.n && s.free s.nx then
  match elT P T with
  | some te => bif Nat.ble 1 (szT P te) && Nat.ble (byT P te) 2048 && zBi P te then
    match zcT P te, x, y with
    | some zd, .int _ l, .int _ c => some ([0 ≤ l, l ≤ c, c ≤ 68719476736], ⟨s.n, s.nx + 1, upd s.sl t (.acc s.nx), upd s.ow s.nx (.acc te (szT P te) l.toNat fun _ => zd)⟩)
    | _, _, _ => none
   else none
  | none => none
 else none
def setF (i : Nat) (d : SD) (f : Nat → SD) (j : Nat) : SD := if j = i then d else f j
def elD (es off : Nat) (c : List SD) (x old : SD) : Option SD :=
 bif Nat.beq off 0 && Nat.beq c.length es then some x else
  match cellsD old with
  | some l => bif Nat.ble (off + c.length) l.length && zGs l then some (.agg (l.take off ++ c ++ l.drop (off + c.length))) else none
  | none => none
def asD (P : Program) (s : St) (T : Nat) (p x : SD) : Option St :=
 match p with
 | .aptr k es i off => match lkO s.ow k with
  | some (.acc te es' n f) => match cellsD x with
   | some c => bif Nat.beq es es' && Nat.beq c.length (szT P T) && Nat.ble 1 c.length && zCy x then
     match elD es off c x (f i) with
     | some d => some { s with ow := upd s.ow k (.acc te es' n (setF i d f)) }
     | none => none
    else none
   | none => none
  | _ => none
 | _ => none
section
variable {P : Program} {F : List Nat} {w0 : Base} {s : St} {h : Hp} {e : Nm} {a : Act} {w : World}
theorem zYi {z : Array Value} {es c i : Nat} (hz : z.size = es) (hi : i < c) : cut (madeCells z (c * es)).toList (i * es) es = z.toList := by
 apply List.ext_getElem?
 intro j
 simp only [cut, List.getElem?_take, List.getElem?_drop]
 have hle : (i + 1) * es ≤ c * es := Nat.mul_le_mul_right _ hi
 rw [Nat.add_mul, Nat.one_mul] at hle
 by_cases hj : j < es
 ·rw [if_pos hj]
  have h1 : i * es + j < c * es := by omega
  simp only [madeCells, Array.toList_map, Array.toList_range, List.getElem?_map, List.getElem?_range h1, Option.map_some];have : (i * es + j) % z.size = j := by rw [hz, Nat.mul_comm, Nat.mul_add_mod, Nat.mod_eq_of_lt hj]
  rw [this, getElem!_pos z j (by omega)];simp [show j < z.size by omega]
 ·rw [if_neg hj]
  rw [List.getElem?_eq_none (by simp; omega)]
theorem yAl (D : Den F w0 s h e a w) {t T : Nat} {x y : Operand} {ty : Nat} {pos : String} {af : Array Edge} {g : Option (Nat × Bool)} {p : List Prop} {s' : St}
  (hq : mkD P s t T (ev s x) (ev s y) = some (p, s')) (hp : zAn p) (K : Act → World → Prop) (Q : Exit → Act → World → Prop) (hK : ∀ h' e' a' w', Den F w0 s' h' e' a' w' → K a' w') :
  (⟨some t, .makeSlice T x y, ty, pos, af, g⟩ : Oper).wp P a w K Q := by
 unfold mkD at hq
 cases hk : (Nat.beq (kdT P T) 1 && Nat.blt t s.n && s.free s.nx)
 ·rw [hk] at hq; cases hq
 ·rw [hk] at hq
  simp only [cond_true] at hq;simp only [zz3] at hk;obtain ⟨⟨hk1, hk2⟩, hk3⟩ := hk;obtain ⟨te, hu⟩ := zPb hk1;have ht := zAm hk2;split at hq
  ·rename_i te' hte
   have := zBr hu hte;subst this;cases hb : (Nat.ble 1 (szT P te') && Nat.ble (byT P te') 2048 && zBi P te')
   ·rw [hb] at hq; cases hq
   ·rw [hb] at hq
    simp only [cond_true] at hq;simp only [zz3] at hb;have b1 := Nat.le_of_ble_eq_true hb.1.1;have b4 := Nat.le_of_ble_eq_true hb.1.2;obtain ⟨m0, hm0⟩ : ∃ m, szT P te' = m + 1 := ⟨szT P te' - 1, by omega⟩;obtain ⟨i, hi, hs⟩ := zAl hm0;have hes : szT P te' = i.size := by omega
    have hby : byT P te' = i.bytes := by simp [byT, Program.bytesOf, hi]
    split at hq
    ·rename_i zd k1 l k2 c hzc hx hy
     simp only [zz1, Prod.mk.injEq] at hq;obtain ⟨rfl, rfl⟩ := hq;simp only [zAn] at hp;obtain ⟨p1, p2, p4', _⟩ := hp;have p4 : c ≤ 9223372036854775807 := by omega
     have p3 : (byT P te' : Int) * c ≤ 140737488355328 := by
      have h0 : (0 : Int) ≤ c := by omega
      have : (byT P te' : Int) * c ≤ 2048 * 68719476736 := Int.mul_le_mul (Int.ofNat_le.2 b4) p4' h0 (by omega);omega
     cases hz : i.zero with
     | none => simp [zcT, hi, hz] at hzc
     | some z =>
      simp only [zcT, hi, Option.bind_some, hz, zz1] at hzc;subst hzc
      have hzs : z.cells.size = i.size := by
       have := hb.2;simp only [zBi, hi, Option.bind_some, hz, zz3] at this;rw [← hes];exact zz4 this.1
      have hxv := D.ev x;have hyv := D.ev y;rw [hx] at hxv;rw [hy] at hyv;simp only [rep] at hxv hyv;have hrun := run_make (P := P) w T te' i z hu hi hz k1 k2 l c p1 p2 (by rw [hby] at p3; omega) p4;unfold Oper.wp
      have hex : (execOp a.eval ⟨some t, .makeSlice T x y, ty, pos, af, g⟩).run P w = .ok (.value (.slice (some ⟨w.heap.size, 0, none⟩) l.toNat c.toNat)) (w.alloc (.cells (madeCells z.cells (c.toNat * i.size)) te')) := by
       simp only [execOp, hxv, hyv, Sem.run_bind, hrun, Result.andThen_ok];rfl
      rw [hex];have hF := Free.of hk3;have hcm : c.toNat ≤ maxLen := by simp only [maxLen]; omega
      have D1 := D.acc' (k := s.nx) (T := te') (es := szT P te') (n := l.toNat) (f := fun _ => ofV z) (v' := .slice (some ⟨w.heap.size, 0, none⟩) l.toNat c.toNat) (w' := w.alloc (.cells (madeCells z.cells (c.toNat * i.size)) te')) (row := none)
       ⟨hF.sl, fun j o hj _ => (hF.ow j o hj).2⟩ ?_ (fun b hb => by cases hb) (fun b hb => by simp [Value.ownBlock] at hb; exact .inr hb.symm) (Grw.alloc w _ none)
      ·have D2 := D1.put (i := t) (d := .acc s.nx) (v := .slice (some ⟨w.heap.size, 0, none⟩) l.toNat c.toNat) ht (by simp only [rep, Nm.setH, if_true]; exact ⟨trivial, _, _, _, rfl⟩)
       exact hK _ _ _ _ (D2.congr rfl (fun _ => rfl) fun _ => rfl)
      ·have hlc : l.toNat ≤ c.toNat := by omega
       have hsz : l.toNat * i.size ≤ c.toNat * i.size := Nat.mul_le_mul_right _ hlc;refine ⟨(madeCells z.cells (c.toNat * i.size)).toList.take (l.toNat * i.size), ?_, by simp only [maxN]; omega, fun j hj => ⟨z, fun e => zG4 h e z, ?_, by rw [hes]; exact hzs, ?_⟩⟩
       ·simp only [Nm.setH, if_true]
        rw [hes];refine ⟨by rw [List.length_take, Array.length_toList, size_madeCells]; omega, .inr ⟨w.heap.size, c.toNat, _, rfl, Nat.zero_le _, heap_alloc_new w _, hlc, hcm, size_madeCells _ _, rfl⟩⟩
       ·rw [hes]
        have hjc : (j + 1) * i.size ≤ l.toNat * i.size := Nat.mul_le_mul_right _ hj;rw [Nat.add_mul, Nat.one_mul] at hjc;have := zYi (c := c.toNat) hzs (show j < c.toNat by omega);rw [← this];simp only [cut, List.drop_take, List.take_take]
        congr 1
        omega
       ·intro v hv
        have := hb.2;simp only [zBi, hi, Option.bind_some, hz, zz3] at this;exact (Array.all_eq_true_iff_forall_mem.1 this.2) v hv
    ·cases hq
  ·cases hq
def yFx (P : Program) (s : St) (t T : Nat) : Option St :=
 bif Nat.beq (kdT P T) 1 && Nat.blt t s.n && s.free s.nx then
  match elT P T with
  | some te => bif Nat.ble 1 (szT P te) then some ⟨s.n, s.nx + 1, upd s.sl t (.acc s.nx), upd s.ow s.nx (.acc te (szT P te) 0 fun _ => .any)⟩ else none
  | none => none
 else none
theorem yDq (D : Den F w0 s h e a w) {t T : Nat} {ty : Nat} {pos : String} {af : Array Edge} {g : Option (Nat × Bool)} {s' : St}
  (hq : yFx P s t T = some s') (K : Act → World → Prop) (Q : Exit → Act → World → Prop) (hK : ∀ h' e' a' w', Den F w0 s' h' e' a' w' → K a' w') :
  (⟨some t, .buildSlice T 0 #[], ty, pos, af, g⟩ : Oper).wp P a w K Q := by
 unfold yFx at hq
 cases hk : (Nat.beq (kdT P T) 1 && Nat.blt t s.n && s.free s.nx)
 ·rw [hk] at hq; cases hq
 ·rw [hk] at hq
  simp only [cond_true] at hq;simp only [zz3] at hk;obtain ⟨⟨hk1, hk2⟩, hk3⟩ := hk;obtain ⟨te, hu⟩ := zPb hk1;have ht := zAm hk2;split at hq
  ·rename_i te' hte
   have := zBr hu hte;subst this;cases hb : Nat.ble 1 (szT P te')
   ·rw [hb] at hq; cases hq
   ·rw [hb] at hq
    simp only [cond_true, zz1] at hq;subst hq;have b1 := Nat.le_of_ble_eq_true hb;obtain ⟨m0, hm0⟩ : ∃ m, szT P te' = m + 1 := ⟨szT P te' - 1, by omega⟩;obtain ⟨i, hi, hs⟩ := zAl hm0;unfold Oper.wp
    have hex : (execOp a.eval ⟨some t, .buildSlice T 0 #[], ty, pos, af, g⟩).run P w = .ok (.value (.slice (some ⟨w.heap.size, 0, none⟩) 0 0)) (w.alloc (.cells #[] te')) := by
     simp [execOp, Instr.buildSlice, run_underlying hu, sizeOf, typeInfo, hi, newRow, Instr.fill, show Array.range 0 = #[] by decide]
    rw [hex];have hF := Free.of hk3
    have D1 := D.acc' (k := s.nx) (T := te') (es := szT P te') (n := 0) (f := fun _ => .any) (v' := .slice (some ⟨w.heap.size, 0, none⟩) 0 0) (w' := w.alloc (.cells #[] te')) (row := none)
     ⟨hF.sl, fun j o hj _ => (hF.ow j o hj).2⟩ ?_ (fun b hb => by cases hb) (fun b hb => by simp [Value.ownBlock] at hb; exact .inr hb.symm) (Grw.alloc w _ none)
    ·have D2 := D1.put (i := t) (d := .acc s.nx) (v := .slice (some ⟨w.heap.size, 0, none⟩) 0 0) ht (by simp only [rep, Nm.setH, if_true]; exact ⟨trivial, _, _, _, rfl⟩)
     exact hK _ _ _ _ (D2.congr rfl (fun _ => rfl) fun _ => rfl)
    ·refine ⟨[], ?_, by omega, fun j hj => absurd hj (by omega)⟩
     simp only [Nm.setH, if_true];exact ⟨by simp, .inr ⟨w.heap.size, 0, #[], rfl, Nat.zero_le _, heap_alloc_new w _, Nat.le_refl _, Nat.zero_le _, by simp, by simp⟩⟩
  ·cases hq
theorem zUh {xs c : List Value} {es o i n : Nat} (hx : xs.length = n * es) (hi : i < n) (ho : o + c.length ≤ es) :
  (∀ j, j ≠ i → j < n → cut (xs.take (i * es + o) ++ c ++ xs.drop (i * es + o + c.length)) (j * es) es = cut xs (j * es) es) ∧
  cut (xs.take (i * es + o) ++ c ++ xs.drop (i * es + o + c.length)) (i * es) es = (cut xs (i * es) es).take o ++ c ++ (cut xs (i * es) es).drop (o + c.length) := by
 have hin : (i + 1) * es ≤ n * es := Nat.mul_le_mul_right _ hi
 rw [Nat.add_mul, Nat.one_mul] at hin
 constructor
 ·intro j hj hjn
  have hjn' : (j + 1) * es ≤ n * es := Nat.mul_le_mul_right _ hjn;rw [Nat.add_mul, Nat.one_mul] at hjn';apply List.ext_getElem?;intro k;simp only [cut, List.getElem?_take, List.getElem?_drop];by_cases hk : k < es
  ·simp only [hk, if_true]
   rcases Nat.lt_or_gt_of_ne hj with h1 | h1
   ·have h2 : (j + 1) * es ≤ i * es := Nat.mul_le_mul_right _ h1
    rw [Nat.add_mul, Nat.one_mul] at h2;rw [List.append_assoc, List.getElem?_append_left (by rw [List.length_take]; omega), List.getElem?_take, if_pos (by omega)]
   ·have h2 : (i + 1) * es ≤ j * es := Nat.mul_le_mul_right _ h1
    rw [Nat.add_mul, Nat.one_mul] at h2;have hl : (xs.take (i * es + o) ++ c).length = i * es + o + c.length := by rw [List.length_append, List.length_take]; omega
    rw [List.getElem?_append_right (by omega), hl, List.getElem?_drop]
    congr 1
    omega
  ·simp [hk]
 ·apply List.ext_getElem?
  intro k;have hl : (xs.take (i * es + o) ++ c).length = i * es + o + c.length := by rw [List.length_append, List.length_take]; omega
  have hl0 : (xs.take (i * es + o)).length = i * es + o := by rw [List.length_take]; omega
  have hlc : (cut xs (i * es) es).length = es := by simp only [cut, List.length_take, List.length_drop]; omega
  have hl1 : ((cut xs (i * es) es).take o).length = o := by rw [List.length_take]; omega
  have hl2 : ((cut xs (i * es) es).take o ++ c).length = o + c.length := by rw [List.length_append]; omega
  by_cases hk : k < es
  ·rw [show (cut (xs.take (i * es + o) ++ c ++ xs.drop (i * es + o + c.length)) (i * es) es)[k]? = (xs.take (i * es + o) ++ c ++ xs.drop (i * es + o + c.length))[i * es + k]? by simp [cut, hk]]
   by_cases h1 : k < o
   ·rw [List.append_assoc, List.getElem?_append_left (by omega), List.append_assoc, List.getElem?_append_left (by omega)]
    simp [cut, h1, hk, show i * es + k < i * es + o by omega]
   ·by_cases h2 : k < o + c.length
    ·rw [List.getElem?_append_left (by omega), List.getElem?_append_right (by omega), List.getElem?_append_left (by omega), List.getElem?_append_right (by omega)]
     congr 1
     omega
    ·rw [List.getElem?_append_right (by omega), List.getElem?_append_right (by omega), hl, hl2]
     simp only [List.getElem?_drop, cut, List.getElem?_take];rw [if_pos (by omega)]
     congr 1
     omega
  ·rw [List.getElem?_eq_none (by simp only [cut, List.length_take, List.length_drop, List.length_append]; omega), List.getElem?_eq_none (by rw [List.length_append, List.length_drop]; omega)]
theorem yEu {h : Hp} {es off : Nat} {c : List SD} {x old d : SD} {u v : Value} (hq : elD es off c x old = some d) (hc : cellsD x = some c) (hx : ∀ e, rep h x e v) (ho : ∀ e, rep h old e u) (hus : u.cells.size = es) (e0 : Nm) :
  off + c.length ≤ es ∧ ∃ u', (∀ e, rep h d e u') ∧ u'.cells.toList = (u.cells.toList.take off ++ v.cells.toList ++ u.cells.toList.drop (off + c.length)) := by
 have hcl := zAq (zAx hc (hx e0))
 unfold elD at hq
 cases hb : (Nat.beq off 0 && Nat.beq c.length es)
 ·rw [hb] at hq
  simp only [cond_false] at hq;cases hcd : cellsD old with
  | none => rw [hcd] at hq; cases hq
  | some l =>
   rw [hcd] at hq;simp only at hq;cases hb2 : (Nat.ble (off + c.length) l.length && zGs l)
   ·rw [hb2] at hq; cases hq
   ·rw [hb2] at hq
    simp only [cond_true, zz1] at hq;subst hq;simp only [zz3] at hb2;have h1 := Nat.le_of_ble_eq_true hb2.1;have hol := zAq (zAx hcd (ho e0));have hol' : l.length = es := by rw [← hol]; simpa using hus
    refine ⟨by omega, .agg (u.cells.toList.take off ++ v.cells.toList ++ u.cells.toList.drop (off + c.length)).toArray, fun e => ?_, by simp [Value.cells]⟩;simp only [rep];exact ⟨_, rfl, zBg (zBg (zDh off (zAx hcd (ho e))) (zAx hc (hx e))) (zBy _ (zAx hcd (ho e)))⟩
 ·rw [hb] at hq
  simp only [cond_true, zz1] at hq;subst hq;simp only [zz3] at hb;have h1 := zz4 hb.1;have h2 := zz4 hb.2;subst h1;refine ⟨by omega, v, hx, ?_⟩;have : u.cells.toList.drop c.length = [] := List.drop_eq_nil_of_le (by simp; omega);simp [this]
theorem zNq (D : Den F w0 s h e a w) {T : Nat} {x y : Operand} {ty : Nat} {pos : String} {af : Array Edge} {s' : St} (hq : asD P s T (ev s x) (ev s y) = some s')
  (K : Act → World → Prop) (Q : Exit → Act → World → Prop) (hK : ∀ h' e' a' w', Den F w0 s' h' e' a' w' → K a' w') : (⟨none, .store T x y, ty, pos, af, none⟩ : Oper).wp P a w K Q := by
 unfold asD at hq
 split at hq
 ·rename_i k es i off hx
  split at hq
  ·rename_i te es' n f ho
   split at hq
   ·rename_i c hc
    cases hb : (Nat.beq es es' && Nat.beq c.length (szT P T) && Nat.ble 1 c.length && zCy (ev s y))
    ·rw [hb] at hq; cases hq
    ·rw [hb] at hq
     simp only [cond_true] at hq;simp only [zz3] at hb;obtain ⟨⟨⟨b1, b2⟩, b3⟩, b4⟩ := hb;have b1 := zz4 b1;subst b1;have b2 := zz4 b2;have b3 := Nat.le_of_ble_eq_true b3;split at hq
     ·rename_i d hd
      simp only [zz1] at hq;subst hq;have hxv := D.ev x;rw [hx] at hxv;simp only [rep] at hxv;obtain ⟨b, m, cp, x1, x2, x3⟩ := hxv;obtain ⟨xs, o1, o2, o3⟩ := D.own k _ ho
      rcases o1.2 with ⟨hv, _⟩ | ⟨g, cap, cur, hv, _, hg, hnc, hcm, hcs, htake⟩
      ·rw [x1] at hv; cases hv
      ·rw [x1] at hv
       cases hv;have hcv := zAx hc (D.ev y);have hcl := zAq hcv;obtain ⟨u, u1, u2, u3, u4⟩ := o3 i x2;obtain ⟨q1, u', q2, q3⟩ := yEu hd hc (fun e' => zDc _ _ b4 (D.ev y)) u1 u3 e;have hxl := o1.1;have hin : (i + 1) * es ≤ n * es := Nat.mul_le_mul_right _ x2;rw [Nat.add_mul, Nat.one_mul] at hin;have hmc : n * es ≤ cp * es := Nat.mul_le_mul_right _ hnc;obtain ⟨mm, hm⟩ : ∃ m, szT P T = m + 1 := ⟨szT P T - 1, by omega⟩;obtain ⟨ti, hi, hs⟩ := zAl hm;have hst := run_storeCells_at P b (i * es + off) te (a.eval y).cells.toList 0 cur w hg (by rw [hcl]; simp; omega) (zDw hcv);simp only [Nat.add_zero] at hst;have hsz : (a.eval y).cells.size = ti.size := by rw [hs, ← hm, ← b2, ← hcl]; simp
       have hr : (execOp a.eval ⟨none, .store T x y, ty, pos, af, none⟩).run P w = .ok .skip (w.setRow b (cur.toList.take (i * es + off) ++ (a.eval y).cells.toList ++ cur.toList.drop (i * es + off + (a.eval y).cells.toList.length)).toArray) := by
        simp [execOp, x3, Instr.storeAt, Instr.sureAddr, storeVar, sizeOf, typeInfo, hi, hsz, hst]
       unfold Oper.wp;rw [hr];have hblk : (OB.acc te es n f).blk e k = some b := by simp [OB.blk, x1, Value.ownBlock]
       have hlen : (cur.toList.take (i * es + off) ++ (a.eval y).cells.toList ++ cur.toList.drop (i * es + off + c.length)).length = cp * es := by
        simp only [List.length_append, List.length_take, List.length_drop, hcl, Array.length_toList];omega
       refine hK h e _ _ ((D.setOwn (w' := w.setRow b (cur.toList.take (i * es + off) ++ (a.eval y).cells.toList ++ cur.toList.drop (i * es + off + (a.eval y).cells.toList.length)).toArray) (o' := .acc te es n (setF i d f)) ho rfl ?_ ?_ rfl rfl rfl (by simp)).put_none _)
       ·rw [hcl]
        obtain ⟨s1, s2⟩ := zUh (xs := xs) (c := (a.eval y).cells.toList) (es := es) (o := off) (i := i) (n := n) hxl x2 (by rw [hcl]; exact q1);rw [hcl] at s1 s2;refine ⟨xs.take (i * es + off) ++ (a.eval y).cells.toList ++ xs.drop (i * es + off + c.length), ⟨?_, .inr ⟨b, cp, _, x1, Nat.zero_le _, setRow_heap w b cur _ te _ hg, hnc, hcm, ?_, ?_⟩⟩, o2, fun j hj => ?_⟩
        ·simp only [List.length_append, List.length_take, List.length_drop, hcl]
         omega
        ·simpa using hlen
        ·rw [← htake]
         have hA : (cur.toList.take (i * es + off) ++ (a.eval y).cells.toList).length = i * es + off + c.length := by
          rw [List.length_append, List.length_take, hcl, Array.length_toList];omega
         show List.take (n * es) (cur.toList.take (i * es + off) ++ (a.eval y).cells.toList ++ cur.toList.drop (i * es + off + c.length)) = _;rw [List.take_append, List.take_of_length_le (by omega), hA, List.take_take, Nat.min_eq_left (by omega), List.drop_take]
        ·unfold setF
         by_cases hji : j = i
         ·subst hji
          rw [if_pos rfl];refine ⟨u', q2, ?_, ?_, ?_⟩
          ·rw [s2, q3, u2]
          ·have := congrArg List.length q3
           simp only [Array.length_toList, List.length_append, List.length_take, List.length_drop, hcl, u3] at this;omega
          ·intro v hv
           have hv' : v ∈ u'.cells.toList := by simpa using hv
           rw [q3] at hv';simp only [List.mem_append] at hv'
           rcases hv' with (hv' | hv') | hv'
           ·exact u4 v (by simpa using List.mem_of_mem_take hv')
           ·exact zDw hcv v hv'
           ·exact u4 v (by simpa using List.mem_of_mem_drop hv')
         ·rw [if_neg hji]
          obtain ⟨w1, w2, w3, w4⟩ := o3 j hj;exact ⟨w1, w2, by rw [s1 j hji hj]; exact w3, w4⟩
       ·intro b' hbk
        exact setRow_other w _ b' _ (fun hc => hbk (by rw [hblk, hc]))
     ·cases hq
   ·cases hq
  ·cases hq
 ·cases hq
end
end Go.Sx
namespace Go.Sx
open Go.RowKit
def yFp (n : Nat) : SD → SD
 | .fp l => bif Nat.ble n l.length then .list 1 n (zBc l) else .any
 | _ => .any
theorem yAr {h : Hp} {e : Nm} {b off n cap : Nat} {d : SD} (hd : rep h d e (.pointer (some ⟨b, off, none⟩))) (h1 : n ≤ cap) (h2 : cap ≤ maxLen) (h3 : n ≤ maxN) : rep h (yFp n d) e (.slice (some ⟨b, off, none⟩) n cap) := by
 cases d <;> simp only [yFp] <;> try (simp only [rep]; done)
 rename_i l
 cases hb : Nat.ble n l.length
 ·simp only [cond_false, rep]
 ·have hb := Nat.le_of_ble_eq_true hb
  simp only [cond_true];simp only [rep] at hd ⊢;obtain ⟨ad, cs, T, fr, hv, g1, g2, g3⟩ := hd;simp only [Value.pointer.injEq, zz1] at hv;subst hv;refine ⟨_, cap, rfl, h1, ⟨h2, zOh h3⟩, fun _ => ⟨_, cs, T, fr, rfl, rfl, g2, fun i hi => ?_⟩⟩
  have key : ∀ (l : List SD) (vs : List Value) (i : Nat), (∀ e, repC h l e vs) → i < l.length → ∃ u, (∀ e, rep h (zBc l i) e u) ∧ vs[i]? = some u ∧ u.oneCell' = true := by
   intro l
   induction l with
   | nil => intro vs i _ hi; simp at hi
   | cons d r ih =>
    intro vs i hr hi;have h0 := hr e;simp only [repC] at h0;obtain ⟨v, vs', rfl, hv1, hv2, hv3⟩ := h0
    have hr' : ∀ e, rep h d e v ∧ repC h r e vs' := fun e => by
     have := hr e;simp only [repC] at this;obtain ⟨v', vs'', hh, _, k2, k3⟩ := this;simp only [List.cons.injEq] at hh;obtain ⟨rfl, rfl⟩ := hh;exact ⟨k2, k3⟩
    cases i with
    | zero => exact ⟨v, fun e => (hr' e).1, rfl, hv1⟩
    | succ i =>
     obtain ⟨u, u1, u2, u3⟩ := ih vs' i (fun e => (hr' e).2) (by simpa using hi);exact ⟨u, u1, by simpa using u2, u3⟩
  obtain ⟨u, u1, u2, u3⟩ := key l _ i g3 (by omega);have hu : u.cells = #[u] := by cases u <;> first | rfl | (simp [Value.oneCell'] at u3)
  refine ⟨u, u1, ?_, by rw [hu]; rfl, fun c hc => by rw [hu] at hc; simp at hc; subst hc; exact u3⟩;rw [hu];simp only [cut, Nat.mul_one] at u2 ⊢;rw [List.getElem?_take] at u2;split at u2
  ·rename_i hlt
   rw [List.getElem?_drop] at u2;obtain ⟨hh, hh2⟩ := List.getElem?_eq_some_iff.1 u2;rw [List.drop_eq_getElem_cons hh, hh2];rfl
  ·cases u2
mutual
def frz (k : Nat) (d0 : SD) (L : Nat → SD) (dm : SD) : SD → SD
 | .agg l => .agg (zOn k d0 L dm l)
 | .acc j => bif Nat.beq j k then d0 else .acc j
 | .accH j n => bif Nat.beq j k then .any else .accH j n
 | .aptr j es i o => bif Nat.beq j k then .any else .aptr j es i o
 | .accp j es i => bif Nat.beq j k then .any else .accp j es i
 | .vsl j o n c => bif Nat.beq j k then yFp n (L o) else .vsl j o n c
 | .bfn f l => .bfn f (zOn k d0 L dm l)
 | .loc j o => bif Nat.beq j k then L o else .loc j o
 | .gd c d => .gd c (frz k d0 L dm d)
 | .tup l => .tup (zOn k d0 L dm l)
 | .fn f l => .fn f (zOn k d0 L dm l)
 | .iface t d => .iface t (frz k d0 L dm d)
 | .omap j => bif Nat.beq j k then dm else .omap j
 | .any => .any
 | .int a b => .int a b
 | .bool b => .bool b
 | .str s => .str s
 | .list es n f => .list es n f
 | .lng n f => .lng n f
 | .nils => .nils
 | .fp l => .fp l
 | .nilp => .nilp
 | .nilfn => .nilfn
 | .nilif => .nilif
 | .nilmap => .nilmap
 | .fmap kk n dom f => .fmap kk n dom f
 | .yld l => .yld l
 | .val v => .val v
def zOn (k : Nat) (d0 : SD) (L : Nat → SD) (dm : SD) : List SD → List SD
 | [] => []
 | d :: r => frz k d0 L dm d :: zOn k d0 L dm r
end
mutual
theorem zEq {h : Hp} {e : Nm} {k : Nat} {d0 : SD} {L : Nat → SD} {dm : SD} (h0 : ∀ v, rep h (.acc k) e v → rep h d0 e v) (hL : ∀ o v, rep h (.loc k o) e v → rep h (L o) e v) (hM : ∀ v, rep h (.omap k) e v → rep h dm e v) : ∀ (d : SD) (v : Value), rep h d e v → rep h (frz k d0 L dm d) e v
 | .any, _, x => x
 | .int .., _, x => x
 | .bool .., _, x => x
 | .str .., _, x => x
 | .agg l, v, x => by
  simp only [rep, frz] at x ⊢;obtain ⟨vs, h1, h2⟩ := x;exact ⟨vs, h1, zFg h0 hL hM l vs h2⟩
 | .list .., _, x => x
 | .lng .., _, x => x
 | .nils, _, x => x
 | .fp .., _, x => x
 | .nilp, _, x => x
 | .loc j o, v, x => by
  simp only [frz];cases hb : Nat.beq j k
  ·exact x
  ·have := zz4 hb
   subst this;exact hL o v x
 | .acc j, v, x => by
  simp only [frz];cases hb : Nat.beq j k
  ·exact x
  ·have := zz4 hb
   subst this;exact h0 v x
 | .aptr j _ _ _, v, x => by
  simp only [frz];cases Nat.beq j k
  ·exact x
  ·simp [rep]
 | .accH j _, v, x => by
  simp only [frz];cases Nat.beq j k
  ·exact x
  ·simp [rep]
 | .accp j _ _, v, x => by
  simp only [frz];cases Nat.beq j k
  ·exact x
  ·simp [rep]
 | .vsl j o n c, v, x => by
  simp only [frz];cases hb : Nat.beq j k
  ·exact x
  ·have := zz4 hb
   subst this;simp only [rep] at x;obtain ⟨rfl, g1, g2, g3⟩ := x;exact yAr (hL o _ (by simp only [rep])) g1 g2 g3
 | .bfn f l, v, x => by
  simp only [rep, frz] at x ⊢;obtain ⟨vs, h1, h2⟩ := x;exact ⟨vs, h1, zJy h0 hL hM l vs h2⟩
 | .gd c d, v, x => by
  simp only [rep, frz] at x ⊢;exact ⟨fun hc => zEq h0 hL hM d v (x.1 hc), x.2⟩
 | .tup l, v, x => by
  simp only [rep, frz] at x ⊢;obtain ⟨vs, h1, h2⟩ := x;exact ⟨vs, h1, zJy h0 hL hM l vs h2⟩
 | .fn f l, v, x => by
  simp only [rep, frz] at x ⊢;obtain ⟨vs, h1, h2⟩ := x;exact ⟨vs, h1, zJy h0 hL hM l vs h2⟩
 | .nilfn, _, x => x
 | .iface t d, v, x => by
  simp only [rep, frz] at x ⊢;obtain ⟨u, h1, h2⟩ := x;exact ⟨u, h1, zEq h0 hL hM d u h2⟩
 | .nilif, _, x => x
 | .omap j, v, x => by
  simp only [frz];cases hb : Nat.beq j k
  ·exact x
  ·have := zz4 hb
   subst this;exact hM v x
 | .nilmap, _, x => x
 | .fmap .., _, x => x
 | .yld .., _, x => x
 | .val .., _, x => x
theorem zFg {h : Hp} {e : Nm} {k : Nat} {d0 : SD} {L : Nat → SD} {dm : SD} (h0 : ∀ v, rep h (.acc k) e v → rep h d0 e v) (hL : ∀ o v, rep h (.loc k o) e v → rep h (L o) e v) (hM : ∀ v, rep h (.omap k) e v → rep h dm e v) : ∀ (l : List SD) (vs : List Value), repC h l e vs → repC h (zOn k d0 L dm l) e vs
 | [], _, x => x
 | d :: r, vs, x => by
  simp only [repC, zOn] at x ⊢;obtain ⟨v, vs', h1, h2, h3, h4⟩ := x;exact ⟨v, vs', h1, h2, zEq h0 hL hM d v h3, zFg h0 hL hM r vs' h4⟩
theorem zJy {h : Hp} {e : Nm} {k : Nat} {d0 : SD} {L : Nat → SD} {dm : SD} (h0 : ∀ v, rep h (.acc k) e v → rep h d0 e v) (hL : ∀ o v, rep h (.loc k o) e v → rep h (L o) e v) (hM : ∀ v, rep h (.omap k) e v → rep h dm e v) : ∀ (l : List SD) (vs : List Value), repT h l e vs → repT h (zOn k d0 L dm l) e vs
 | [], _, x => x
 | d :: r, vs, x => by
  simp only [repT, zOn] at x ⊢;obtain ⟨v, vs', h1, h2, h3⟩ := x;exact ⟨v, vs', h1, zEq h0 hL hM d v h2, zJy h0 hL hM r vs' h3⟩
end
def zXa (k : Nat) (d0 : SD) (L : Nat → SD) (dm : SD) : List (Nat × SD) → List (Nat × SD)
 | [] => []
 | (i, d) :: r => (i, frz k d0 L dm d) :: zXa k d0 L dm r
def yDg (k : Nat) (d0 : SD) (L : Nat → SD) (dm : SD) : List (SD × SD) → List (SD × SD)
 | [] => []
 | (d, c) :: r => (frz k d0 L dm d, c) :: yDg k d0 L dm r
def zPe (k : Nat) (d0 : SD) (L : Nat → SD) (dm : SD) : List (Nat × OB) → List (Nat × OB)
 | [] => []
 | (j, .var l) :: r => bif Nat.beq j k then zPe k d0 L dm r else (j, .var (zOn k d0 L dm l)) :: zPe k d0 L dm r
 | (j, .mp m l) :: r => bif Nat.beq j k then zPe k d0 L dm r else (j, .mp m (yDg k d0 L dm l)) :: zPe k d0 L dm r
 | (j, .acc T es n f) :: r => bif Nat.beq j k then zPe k d0 L dm r else (j, .acc T es n f) :: zPe k d0 L dm r
theorem zP1 (k : Nat) (d0 : SD) (L : Nat → SD) (dm : SD) : ∀ (l : List (Nat × SD)) (t : Nat), lkp (zXa k d0 L dm l) t = frz k d0 L dm (lkp l t)
 | [], t => rfl
 | (i, d) :: r, t => by
  simp only [zXa, lkp];cases Nat.beq i t
  ·exact zP1 k d0 L dm r t
  ·rfl
theorem zDr {k : Nat} {d0 : SD} {L : Nat → SD} {dm : SD} : ∀ (l : List (Nat × OB)) (j : Nat) (o : OB), lkO (zPe k d0 L dm l) j = some o → j ≠ k ∧ ∃ o0, lkO l j = some o0 ∧ ((∃ x, o0 = .var x ∧ o = .var (zOn k d0 L dm x)) ∨ (∃ m x, o0 = .mp m x ∧ o = .mp m (yDg k d0 L dm x)) ∨ o = o0)
 | [], _, _, h => by cases h
 | (i, .var l) :: r, j, o, h => by
  simp only [zPe] at h;simp only [lkO];cases hb : Nat.beq i k
  ·rw [hb] at h
   simp only [cond_false, lkO] at h;cases hij : Nat.beq i j
   ·rw [hij] at h; exact zDr r j o h
   ·rw [hij] at h
    have := zz4 hij;subst this;simp only [cond_true, zz1] at h;subst h;exact ⟨zB2 hb, _, rfl, .inl ⟨l, rfl, rfl⟩⟩
  ·rw [hb] at h
   obtain ⟨g1, g2⟩ := zDr r j o h;have := zz4 hb;subst this;have : Nat.beq i j = false := zGu fun e => g1 e.symm;rw [this];exact ⟨g1, g2⟩
 | (i, .acc T es n f) :: r, j, o, h => by
  simp only [zPe] at h;simp only [lkO];cases hb : Nat.beq i k
  ·rw [hb] at h
   simp only [cond_false, lkO] at h;cases hij : Nat.beq i j
   ·rw [hij] at h; exact zDr r j o h
   ·rw [hij] at h
    have := zz4 hij;subst this;simp only [cond_true, zz1] at h;subst h;exact ⟨zB2 hb, _, rfl, .inr (.inr rfl)⟩
  ·rw [hb] at h
   obtain ⟨g1, g2⟩ := zDr r j o h;have := zz4 hb;subst this;have : Nat.beq i j = false := zGu fun e => g1 e.symm;rw [this];exact ⟨g1, g2⟩
 | (i, .mp kd m) :: r, j, o, h => by
  simp only [zPe] at h;simp only [lkO];cases hb : Nat.beq i k
  ·rw [hb] at h
   simp only [cond_false, lkO] at h;cases hij : Nat.beq i j
   ·rw [hij] at h; exact zDr r j o h
   ·rw [hij] at h
    have := zz4 hij;subst this;simp only [cond_true, zz1] at h;subst h;exact ⟨zB2 hb, _, rfl, .inr (.inl ⟨kd, m, rfl, rfl⟩)⟩
  ·rw [hb] at h
   obtain ⟨g1, g2⟩ := zDr r j o h;have := zz4 hb;subst this;have : Nat.beq i j = false := zGu fun e => g1 e.symm;rw [this];exact ⟨g1, g2⟩
def yDh (s : St) (k : Nat) : Option St :=
 bif Nat.blt k 700 then match lkO s.ow k with
 | some (.acc _ es n f) => some ⟨s.n, s.nx, zXa k (.list es n f) (fun o => .loc k o) (.omap k) s.sl, zPe k (.list es n f) (fun o => .loc k o) (.omap k) s.ow⟩
 | some (.var l) => bif zGs l then some ⟨s.n, s.nx, zXa k (.acc k) (fun o => .fp (l.drop o)) (.omap k) s.sl, zPe k (.acc k) (fun o => .fp (l.drop o)) (.omap k) s.ow⟩ else none
 | some (.mp m _) => match m.it with
  | none => some ⟨s.n, s.nx, zXa k (.acc k) (fun o => .loc k o) (.fmap m.kk m.n m.dom m.f) s.sl, zPe k (.acc k) (fun o => .loc k o) (.fmap m.kk m.n m.dom m.f) s.ow⟩
  | some _ => none
 | _ => none
 else none
section
variable {P : Program} {F : List Nat} {w0 : Base} {s : St} {h : Hp} {e : Nm} {a : Act} {w : World}
theorem Den.frz_core (D : Den F w0 s h e a w) {k : Nat} {d0 : SD} {L : Nat → SD} {dm : SD} {h' : Hp} (hl : Le h h') (hs' : Sub h' w) (hn : ∀ b, b < w0.w.heap.size → h' b = h b)
  (hnew : ∀ j o b, j ≠ k → lkO s.ow j = some o → o.blk e j = some b → h' b = none)
  (hrep : ∀ d v, rep h' d e v → rep h' (frz k d0 L dm d) e v) (hrepC : ∀ l vs, repC h' l e vs → repC h' (zOn k d0 L dm l) e vs) :
  Den F w0 ⟨s.n, s.nx, zXa k d0 L dm s.sl, zPe k d0 L dm s.ow⟩ h' e a w := by
 have keyB : ∀ (o o0 : OB) (j : Nat), ((∃ x, o0 = .var x ∧ o = .var (zOn k d0 L dm x)) ∨ (∃ m x, o0 = .mp m x ∧ o = .mp m (yDg k d0 L dm x)) ∨ o = o0) → o.blk e j = o0.blk e j := fun o o0 j hx => by
  rcases hx with ⟨x, rfl, rfl⟩ | ⟨m, x, rfl, rfl⟩ | rfl <;> rfl
 refine ⟨D.defers, D.size, fun t => ?_, fun j o hj => ?_, fun j o b hj hb => ?_, fun j j' o o' b hne hj hj' hb => ?_, hs', D.keeps, D.le.trans hl, fun b hb => (hn b hb).trans (D.neww b hb), D.fix⟩
 ·rw [zP1]
  exact hrep _ _ (zBa hl _ e _ (D.slot t))
 ·obtain ⟨hjk, o0, g1, g2⟩ := zDr _ j o hj
  have hold := zDi (w' := w) hl (fun b _ => rfl) (D.own j o0 g1)
  rcases g2 with ⟨x, rfl, rfl⟩ | ⟨m, x, rfl, rfl⟩ | rfl
  ·obtain ⟨cs, T', c1, c2⟩ := hold
   exact ⟨cs, T', c1, hrepC _ _ c2⟩
  ·unfold zDp at hold ⊢
   simp only at hold ⊢;split at hold
   ·refine zEb (Le.refl h') rfl (fun _ _ => rfl) (fun u hu d c r hlr => ?_) hold
    cases x with
    | nil => cases hlr
    | cons p q =>
     obtain ⟨d1, c1⟩ := p;simp only [yDg, List.cons.injEq, Prod.mk.injEq] at hlr;obtain ⟨⟨rfl, rfl⟩, rfl⟩ := hlr;exact hrep _ _ (hu d1 c1 q rfl)
   ·exact hold
  ·exact hold
 ·obtain ⟨hjk, o0, g1, g2⟩ := zDr _ j o hj
  rw [keyB o o0 j g2] at hb;exact ⟨(D.ownb j o0 b g1 hb).1, hnew j o0 b hjk g1 hb⟩
 ·obtain ⟨hjk, o0, g1, g2⟩ := zDr _ j o hj
  obtain ⟨hjk', o1', g3, g4⟩ := zDr _ j' o' hj';rw [keyB o o0 j g2] at hb;rw [keyB o' o1' j' g4];exact D.apart j j' o0 o1' b hne g1 g3 hb
theorem Den.stay_own (D : Den F w0 s h e a w) {k g : Nat} {o : OB} {x : Obj} (hk1 : k < 700) (ho : lkO s.ow k = some o) (hblk : o.blk e k = some g) (hg : w.heap[g]? = some x) :
  Le h (h.set g x) ∧ Sub (h.set g x) w ∧ (∀ b, b < w0.w.heap.size → (h.set g x) b = h b) ∧ ∀ j o' b, j ≠ k → lkO s.ow j = some o' → o'.blk e j = some b → (h.set g x) b = none := by
 obtain ⟨b1, b2⟩ := D.ownb k _ g ho hblk
 refine ⟨fun b x hx => ?_, fun b y hx => ?_, fun b hb => ?_, fun j o' b hjk hj hb => ?_⟩
 ·simp only [Hp.set]
  by_cases hb : b = g
  ·subst hb; rw [b2] at hx; cases hx
  ·simp [hb, hx]
 ·simp only [Hp.set] at hx
  by_cases hb : b = g
  ·subst hb
   simp only [if_true, zz1] at hx;subst hx;exact hg
  ·simp only [hb, if_false] at hx
   exact D.sub b y hx
 ·have : b ≠ g := fun hc => by
   subst hc
   rcases b1 with h1 | h1
   ·omega
   ·have := h1.2; omega
  simp [Hp.set, this]
 ·have hne : b ≠ g := fun hc => by
   subst hc;exact D.apart j k o' _ b hjk hj ho hb hblk
  simp only [Hp.set, hne, if_false];exact (D.ownb j o' b hj hb).2
theorem Den.frz (D : Den F w0 s h e a w) {k : Nat} {s' : St} (hq : yDh s k = some s') : ∃ h', Den F w0 s' h' e a w := by
 unfold yDh at hq
 cases hkb : Nat.blt k 700
 ·rw [hkb] at hq; cases hq
 rw [hkb, cond_true] at hq
 have hk1 := zAm hkb
 split at hq
 ·rename_i T es n f ho
  simp only [zz1] at hq;subst hq;obtain ⟨xs, o1, o2, o3⟩ := D.own k _ ho
  rcases o1.2 with ⟨hv, hn0⟩ | ⟨g, cap, cur, hv, _, hg, hnc, hcm, hcs, htake⟩
  ·have h0 : rep h (.list es n f) e (e.hd k) := by
    rw [hv];simp only [rep];exact ⟨none, 0, by rw [hn0], by omega, ⟨Nat.zero_le _, zOh o2⟩, fun hc => absurd hc (by omega)⟩
   exact ⟨h, D.frz_core (Le.refl h) D.sub (fun _ _ => rfl) (fun j o b _ hj hb => (D.ownb j o b hj hb).2) (zEq (fun v hv => by simp only [rep] at hv; rw [hv.1]; exact h0) (fun _ _ x => x) fun _ x => x) (zFg (fun v hv => by simp only [rep] at hv; rw [hv.1]; exact h0) (fun _ _ x => x) fun _ x => x)⟩
  ·have hblk : (OB.acc T es n f).blk e k = some g := by simp [OB.blk, hv, Value.ownBlock]
   obtain ⟨q1, q2, q3, q4⟩ := D.stay_own hk1 ho hblk hg
   have h0 : rep (h.set g (.cells cur T (0, 0))) (.list es n f) e (e.hd k) := by
    rw [hv];simp only [rep];refine ⟨_, cap, rfl, hnc, ⟨hcm, zOh o2⟩, fun hn0 => ⟨⟨g, 0, none⟩, cur, T, (0, 0), rfl, rfl, by simp [Hp.set], fun i hi => ?_⟩⟩;obtain ⟨u, u1, u2, u3⟩ := o3 i hi;refine ⟨u, fun e' => zBa q1 _ e' _ (u1 e'), ?_, u3⟩;rw [u2, ← htake];simp only [cut, List.drop_take, List.take_take, Nat.zero_add]
    congr 1
    have : (i + 1) * es ≤ n * es := Nat.mul_le_mul_right _ hi;rw [Nat.add_mul] at this;omega
   exact ⟨_, D.frz_core q1 q2 q3 q4 (zEq (fun v hv => by simp only [rep] at hv; rw [hv.1]; exact h0) (fun _ _ x => x) fun _ x => x) (zFg (fun v hv => by simp only [rep] at hv; rw [hv.1]; exact h0) (fun _ _ x => x) fun _ x => x)⟩
 ·rename_i l ho
  cases hp : zGs l
  ·rw [hp] at hq; cases hq
  ·rw [hp] at hq
   simp only [cond_true, zz1] at hq;subst hq;obtain ⟨cs, T, o1, o2⟩ := D.own k _ ho;obtain ⟨q1, q2, q3, q4⟩ := D.stay_own hk1 ho rfl o1
   have hL : ∀ o v, rep (h.set (e.bs k) (.cells cs T (0, 0))) (.loc k o) e v → rep (h.set (e.bs k) (.cells cs T (0, 0))) (.fp (l.drop o)) e v := fun o v hv => by
    simp only [rep] at hv ⊢;refine ⟨⟨e.bs k, o, none⟩, cs, T, (0, 0), hv, rfl, by simp [Hp.set], fun e' => ?_⟩;have h2 := zBy o (zF1 q1 l e' _ (zKf l _ hp o2));have hlen := zAq h2;simp only [cut];rw [← hlen, List.take_length];exact h2
   exact ⟨_, D.frz_core q1 q2 q3 q4 (zEq (fun _ x => x) hL fun _ x => x) (zFg (fun _ x => x) hL fun _ x => x)⟩
 ·rename_i m lm ho
  cases hit : m.it with
  | some p => rw [hit] at hq; cases hq
  | none =>
   rw [hit] at hq;simp only [zz1] at hq;subst hq;have hown := D.own k _ ho;unfold zDp at hown;simp only [hit] at hown;obtain ⟨o, o1, o2⟩ := hown;obtain ⟨q1, q2, q3, q4⟩ := D.stay_own hk1 ho (by simp only [OB.blk, hit]) o1
   have hM : ∀ v, rep (h.set (e.bs k) o) (.omap k) e v → rep (h.set (e.bs k) o) (.fmap m.kk m.n m.dom m.f) e v := fun v hv => by
    simp only [rep] at hv ⊢;unfold zIa at o2;rw [hit] at o2;obtain ⟨es, clock, rfl, p2, p3, p4, p5⟩ := o2;exact ⟨e.bs k, es, clock, hv, by simp [Hp.set], p2, p3, p4, fun x hx q hq hk e' => zBa q1 _ e' _ (p5 x hx q hq hk e')⟩
   exact ⟨_, D.frz_core q1 q2 q3 q4 (zEq (fun _ x => x) (fun _ _ x => x) hM) (zFg (fun _ x => x) (fun _ _ x => x) hM)⟩
 ·cases hq
variable {fin Q : Exit → Act → World → Prop} {k : List It} {ops : Array Oper} {rest : List Oper}
theorem zO (j : Nat) {s' : St} (hq : yDh s j = some s') (hn : Run P F w0 fin k s') : Run P F w0 fin k s := fun h e a w D => by
 obtain ⟨h', D'⟩ := D.frz hq
 exact hn h' e a w D'
theorem zDv (j : Nat) {s' : St} (hq : yDh s j = some s') (hn : zAi P F w0 ops Q rest s') : zAi P F w0 ops Q rest s := fun h e a w D => by
 obtain ⟨h', D'⟩ := D.frz hq
 exact hn h' e a w D'
theorem zB3 (t : Nat) {es n : Nat} {f : Nat → SD} (ht : lkp s.sl t = .list es n f) (hn : n ≤ 68719476736 → Run P F w0 fin k s) : Run P F w0 fin k s := fun h e a w D => by
 have := D.slot t
 rw [ht] at this
 simp only [rep] at this
 obtain ⟨_, cap, _, h2, h3, _⟩ := this
 exact hn h3.2 h e a w D
theorem zX0 (j : Nat) {T es n : Nat} {f : Nat → SD} (ht : lkO s.ow j = some (.acc T es n f)) (hn : n ≤ 68719476736 → Run P F w0 fin k s) : Run P F w0 fin k s := fun h e a w D => by
 obtain ⟨_, _, h2, _⟩ := D.own j _ ht
 exact hn h2 h e a w D
def zXn (P : Program) (l : List Oper) (s : St) (o : Oper) : Option (List Prop × St) :=
 match o with
 | ⟨some t, .makeSlice T x y, _, _, _, none⟩ => mkD P s t T (ev s x) (ev s y)
 | ⟨some t, .buildSlice T 0 ⟨[]⟩, _, _, _, none⟩ => match yFx P s t T with
  | some s' => some ([], s')
  | none => none
 | ⟨none, .store T x y, ty, pos, af, none⟩ => match ev s x with
  | .aptr .. => match asD P s T (ev s x) (ev s y) with
   | some s' => some ([], s')
   | none => none
  | _ => zK6 P l s ⟨none, .store T x y, ty, pos, af, none⟩
 | ⟨some t, .call ⟨.builtin .append, args, tys⟩, _, _, _, none⟩ => match args.toList, tys.toList with
  | [x, y], [T, T'] => bif Nat.beq T T' then apD P s t T (ev s x) (ev s y) else none
  | _, _ => none
 | o => zK6 P l s o
def yBj (P : Program) (l : List Oper) : List Oper → St → List Prop × St × List Oper
 | [], s => ([], s, [])
 | o :: r, s => match zXn P l s o with
  | some (p, s') => match yBj P l r s' with
   | (q, s'', r') => (p ++ q, s'', r')
  | none => ([], s, o :: r)
theorem zQu {l : List Oper} {o : Oper} {p : List Prop} {s' : St} (hq : zXn P l s o = some (p, s')) (hp : zAn p) (hn : zAi P F w0 l.toArray Q rest s') : zAi P F w0 l.toArray Q (o :: rest) s := by
 unfold zXn at hq
 split at hq
 ·exact fun h e a w D => zAf rfl fun K hK => yAl D hq hp K _ fun h' e' a' w' D' => hK _ _ (hn _ _ _ _ D')
 ·split at hq
  ·rename_i hb
   simp only [zz1, Prod.mk.injEq] at hq;obtain ⟨rfl, rfl⟩ := hq;exact fun h e a w D => zAf rfl fun K hK => yDq D hb K _ fun h' e' a' w' D' => hK _ _ (hn _ _ _ _ D')
  ·cases hq
 ·split at hq
  ·split at hq
   ·rename_i hb
    simp only [zz1, Prod.mk.injEq] at hq;obtain ⟨rfl, rfl⟩ := hq;exact fun h e a w D => zAf rfl fun K hK => zNq D hb K _ fun h' e' a' w' D' => hK _ _ (hn _ _ _ _ D')
   ·cases hq
  ·exact zQw hq hp hn
 ·rename_i t args tys ty pos af
  split at hq
  ·rename_i x y T T' ha ht
   cases hb : Nat.beq T T'
   ·rw [hb] at hq; cases hq
   ·rw [hb] at hq
    have := zz4 hb;subst this;simp only [cond_true] at hq;have ea : args = #[x, y] := by apply Array.ext'; simpa using ha
    have et : tys = #[T, T] := by apply Array.ext'; simpa using ht
    subst ea;exact fun h e a w D => zAf rfl fun K hK => zTx D et hq hp K _ fun h' e' a' w' D' => hK _ _ (hn _ _ _ _ D')
  ·cases hq
 ·exact zQw hq hp hn
theorem runx {l : List Oper} : ∀ {r r' : List Oper} {s s' : St} {p : List Prop}, yBj P l r s = (p, s', r') → zAn p → zAi P F w0 l.toArray Q r' s' → zAi P F w0 l.toArray Q r s
 | [], _, _, _, _, h, _, hn => by
  simp only [yBj, Prod.mk.injEq] at h;obtain ⟨_, rfl, rfl⟩ := h;exact hn
 | o :: r, r', s, s', p, h, hp, hn => by
  simp only [yBj] at h;split at h
  ·rename_i p1 s1 h1
   generalize hrec : yBj P l r s1 = res at h;obtain ⟨q, s2, r2⟩ := res;simp only [Prod.mk.injEq] at h;obtain ⟨rfl, rfl, rfl⟩ := h;have hp' := zHh.1 hp;exact zQu h1 hp'.1 (runx hrec hp'.2 hn)
  ·simp only [Prod.mk.injEq] at h
   obtain ⟨_, rfl, rfl⟩ := h;exact hn
end
end Go.Sx
namespace Go.Sx
open Go.RowKit
section
variable {P : Program} {F : List Nat} {w0 : Base} {Q : Exit → Act → World → Prop} {fin : Exit → Act → World → Prop} {k : List It} {s s0 : St} {id : Nat} {rs : List Rec}
theorem zF {l r r' : List Oper} {s' : St} {p : List Prop} (h : yBj P l r s = (p, s', r')) (_ : Nat.blt (zMs r') (zMs r) = true) (hp : zAn p) (hn : zAi P F w0 l.toArray Q r' s') : zAi P F w0 l.toArray Q r s := runx h hp hn
theorem zU {l r r' : List Oper} {s' : St} {p : List Prop} (h : zPn P l r s = (p, s', r')) (_ : Nat.blt (zMs r') (zMs r) = true) (hp : zAn p) (hn : zAy P F w0 Q id l s0 (rs ++ zAw P l r s) r' s') : zAy P F w0 Q id l s0 rs r s := yD1 h hp hn
theorem zPo {h : Hp} {e : Nm} : ∀ {l : List SD} {vs : List Value} {i : Nat} {d : SD}, repC h l e vs → l[i]? = some d → ∃ v, rep h d e v
 | [], _, _, _, _, hi => by simp at hi
 | d :: r, vs, i, d', x, hi => by
  simp only [repC] at x;obtain ⟨v, vs', _, _, h1, h2⟩ := x;cases i with
  | zero => simp only [List.getElem?_cons_zero, zz1] at hi; subst hi; exact ⟨v, h1⟩
  | succ i => exact zPo h2 (by simpa using hi)
theorem zQ0 (j i : Nat) {l : List SD} {es n : Nat} {f : Nat → SD} (ho : lkO s.ow j = some (.var l)) (hl : l[i]? = some (.list es n f)) (hn : n ≤ 68719476736 → Run P F w0 fin k s) : Run P F w0 fin k s := fun h e a w D => by
 obtain ⟨cs, T, _, h2⟩ := D.own j _ ho
 obtain ⟨v, hv⟩ := zPo h2 hl
 simp only [rep] at hv
 obtain ⟨_, cap, _, g2, g3, _⟩ := hv
 exact hn g3.2 h e a w D
theorem runLng (j i : Nat) {l : List SD} {n : Nat} {f : Nat → Int} (ho : lkO s.ow j = some (.var l)) (hl : l[i]? = some (.lng n f)) (hn : n ≤ 17592186044416 → Run P F w0 fin k s) : Run P F w0 fin k s := fun h e a w D => by
 obtain ⟨cs, T, _, h2⟩ := D.own j _ ho
 obtain ⟨v, hv⟩ := zPo h2 hl
 simp only [rep] at hv
 obtain ⟨_, cap, _, g2, g3, _⟩ := hv
 exact hn g3.2 h e a w D
end
theorem w64 (x : Int) : IntKind.i64.wrap x = (x + 9223372036854775808) % 18446744073709551616 - 9223372036854775808 := by
 have e1 : (2 : Int) ^ IntKind.i64.bits = 18446744073709551616 := by decide
 have e2 : (2 : Int) ^ (IntKind.i64.bits - 1) = 9223372036854775808 := by decide
 have e3 : IntKind.i64.signed = true := rfl
 simp only [IntKind.wrap, e1, e2, e3, Bool.true_and, decide_eq_true_eq]
 split <;> omega
@[go_sem] theorem cond_andF (c x : Bool) : (bif c then x else false) = (c && x) := by cases c <;> rfl
@[go_sem] theorem cond_orT (c x : Bool) : (bif c then true else x) = (c || x) := by cases c <;> rfl
theorem zAv {α : Type} [Inhabited α] (l : List α) (k : Nat) (h : k < l.length) : l.drop k = l.getD k default :: l.drop (k + 1) := by
 rw [List.drop_eq_getElem_cons h]
 simp [zz2, List.getElem?_eq_getElem h]
end Go.Sx
namespace Go.Sx
open Go.RowKit
section
variable {P : Program} {F : List Nat} {w0 : Base} {s : St} {h : Hp} {e : Nm} {a : Act} {w : World}
def resD (P : Program) (s : St) : ResultVar → Option SD
 | .tmp t => some (lkp s.sl t)
 | .cell a t => match atD s (lkp s.sl a) with
  | some l => ldc P t l
  | none => none
def zN7 (P : Program) (s : St) : List ResultVar → Option (List SD)
 | [] => some []
 | x :: r => match resD P s x, zN7 P s r with
  | some d, some ds => some (d :: ds)
  | _, _ => none
def zLm : List SD → SD
 | [d] => d
 | l => .tup l
def yD5 (ts : Array Value) : ResultVar → Sem Value
 | .tmp t => pure (ts.getD t undef)
 | .cell c t => do loadVar t (← asAddr (ts.getD c undef))
theorem zEe (fn : Func) (ts : Array Value) : results fn ts = (do let vs ← fn.results.mapM (yD5 ts); pure (if h : vs.size = 1 then vs[0] else .tuple vs)) := by
 unfold results
 congr 1
theorem zKa (D : Den F w0 s h e a w) : ∀ {l : List ResultVar} {ds : List SD}, zN7 P s l = some ds →
  ∃ vs, repT h ds e vs ∧ (l.mapM (yD5 a.tmps)).run P w = .ok vs w
 | [], ds, hq => by
  simp only [zN7, zz1] at hq;subst hq;exact ⟨[], by simp [repT], by simp⟩
 | x :: r, ds, hq => by
  simp only [zN7] at hq;split at hq
  ·rename_i d ds' h1 h2
   simp only [zz1] at hq;subst hq;obtain ⟨vs, g1, g2⟩ := zKa D h2
   have hx : ∃ v, rep h d e v ∧ (yD5 a.tmps x).run P w = .ok v w := by
    cases x with
    | tmp t =>
     simp only [resD, zz1] at h1;subst h1;exact ⟨_, D.slot t, by simp [yD5]⟩
    | cell c t =>
     simp only [resD] at h1;split at h1
     ·rename_i l hl
      obtain ⟨b, o, vs, hv, hc, hr⟩ := D.at (D.slot c) hl;obtain ⟨v, k1, k2⟩ := zUv (P := P) hc hr h1;refine ⟨v, k1, ?_⟩;simp only [yD5, hv, asAddr, Sem.run_bind, Sem.run_pure, Result.andThen_ok];rw [← k2];simp [Instr.loadAt, Instr.sureAddr]
     ·cases h1
   obtain ⟨v, k1, k2⟩ := hx;refine ⟨v :: vs, by simp only [repT]; exact ⟨v, vs, rfl, k1, g1⟩, ?_⟩;rw [List.mapM_cons];simp only [Sem.run_bind, k2, Result.andThen_ok, g2, Sem.run_pure]
  ·cases hq
theorem yA {b0 : zB0} {k : List It} {fn : Func} {l : List ResultVar} {ds : List SD} {d : SD} (hr : fn.results = l.toArray) (hq : zN7 P s l = some ds) (hd : zAc (zLm ds) d) : Run P [] b0.std (bodyPost P fn (zD6 b0 d)) (.code .ret :: k) s := fun h e a w D => by
 refine wpIn_ret (zCc ?_)
 obtain ⟨vs, g1, g2⟩ := zKa (P := P) D hq
 have hres : (results fn a.tmps).run P w = .ok (if hz : vs.toArray.size = 1 then vs.toArray[0] else .tuple vs.toArray) w := by
  rw [zEe, hr];simp only [List.mapM_toArray, Sem.run_bind];rw [map_eq_pure_bind];simp only [Sem.run_bind, g2, Result.andThen_ok, Sem.run_pure]
 refine bodyPost_ret hres D.defers ⟨_, h, rfl, D.le, D.sub, D.keeps.below, D.neww, ?_⟩
 refine hd h e _ ?_
 match ds, vs, g1 with
 | [], vs, g1 =>
  simp only [repT] at g1;subst g1;simp [zLm, rep, repT]
 | [d1], vs, g1 =>
  simp only [repT] at g1;obtain ⟨v, vs', rfl, g2, rfl⟩ := g1;simpa [zLm] using g2
 | d1 :: d2 :: r, vs, g1 =>
  have : vs.toArray.size ≠ 1 := by
   simp only [repT] at g1;obtain ⟨v, vs', rfl, _, v2, vs2, rfl, _⟩ := g1;simp
  rw [dif_neg this];simp only [zLm, rep];exact ⟨vs, rfl, g1⟩
variable {Q : Exit → Act → World → Prop} {ops : Array Oper} {rest : List Oper} {k : List It}
theorem yG {t T es n : Nat} {f : Nat → SD} {x : Operand} {U ty : Nat} {pos : String} {af : Array Edge} (hx : ev s x = .list es n f) (hk : Nat.beq (kdT P T) 1 = true) (ht : Nat.blt t s.n = true)
  (hn : ∀ b : Bool, (b = true → n = 0) → zAi P F w0 ops Q rest (s.put t (.bool b))) : zAi P F w0 ops Q (⟨some t, .binOp .eql T x (.const (.slice none 0 0)) U, ty, pos, af, none⟩ :: rest) s := fun h e a w D => by
 have hv := D.ev x
 rw [hx] at hv
 simp only [rep] at hv
 obtain ⟨ao, cap, h1, h2, h3, h4⟩ := hv
 obtain ⟨el, hu⟩ := zPb hk
 refine zAf rfl fun K hK => ?_
 unfold Oper.wp
 have hex : (execOp a.eval ⟨some t, .binOp .eql T x (.const (.slice none 0 0)) U, ty, pos, af, none⟩).run P w = .ok (.value (.bool ao.isNone)) w := by
  have hc : a.eval (.const (.slice none 0 0)) = .slice none 0 0 := rfl;simp [execOp, h1, hc, eqGuard, binOp, run_equal_slice_nil w T el ao n cap hu]
 rw [hex]
 refine hK _ _ (hn ao.isNone (fun hb => ?_) _ _ _ _ (D.put (zAm ht) (by simp only [rep])))
 rcases Nat.eq_zero_or_pos n with h0 | h0
 ·exact h0
 ·obtain ⟨ad, _, _, _, g, _⟩ := h4 h0
  rw [g] at hb;cases hb
def zAh : List SD → List SD → Prop
 | [], [] => True
 | a :: l, b :: r => SLe a b ∧ zAh l r
 | _, _ => False
theorem zAh.repC {h : Hp} {e : Nm} : ∀ {l l' : List SD} {vs : List Value}, zAh l l' → repC h l e vs → repC h l' e vs
 | [], [], _, _, x => x
 | a :: l, b :: r, vs, hl, x => by
  simp only [Sx.repC] at x ⊢;obtain ⟨v, vs', h1, h2, h3, h4⟩ := x;exact ⟨v, vs', h1, h2, hl.1 h e v h3, zAh.repC hl.2 h4⟩
 | [], _ :: _, _, hl, _ => hl.elim
 | _ :: _, [], _, hl, _ => hl.elim
theorem zAh.repT {h : Hp} {e : Nm} : ∀ {l l' : List SD} {vs : List Value}, zAh l l' → repT h l e vs → repT h l' e vs
 | [], [], _, _, x => x
 | a :: l, b :: r, vs, hl, x => by
  simp only [Sx.repT] at x ⊢;obtain ⟨v, vs', h1, h3, h4⟩ := x;exact ⟨v, vs', h1, hl.1 h e v h3, zAh.repT hl.2 h4⟩
 | [], _ :: _, _, hl, _ => hl.elim
 | _ :: _, [], _, hl, _ => hl.elim
theorem SLe.agg {l l' : List SD} (hl : zAh l l') : SLe (.agg l) (.agg l') := fun h e v x => by
 simp only [rep] at x ⊢
 obtain ⟨vs, h1, h2⟩ := x
 exact ⟨vs, h1, hl.repC h2⟩
theorem SLe.tup {l l' : List SD} (hl : zAh l l') : SLe (.tup l) (.tup l') := fun h e v x => by
 simp only [rep] at x ⊢
 obtain ⟨vs, h1, h2⟩ := x
 exact ⟨vs, h1, hl.repT h2⟩
theorem SLe.str {a b : ByteArray} (h : a = b) : SLe (.str a) (.str b) := h ▸ SLe.refl _
theorem OLe.var {l l' : List SD} (hl : zAh l l') : OLe (.var l) (.var l') := fun _ _ _ x => hl.repC x
theorem OLe.accS {T es n n' : Nat} {f f' : Nat → SD} (hn : n = n') (h : ∀ i, i < n → f i = f' i) : OLe (.acc T es n f) (.acc T es n' f') := ⟨rfl, rfl, hn, fun i hi hp u hu e => by rw [← h i hi]; exact hu e⟩
theorem zAc.le {d d' : SD} (h : zCy d = true) (g : SLe d d') : zAc d d' := zAc.of h g
theorem yE (j i : Nat) {l : List SD} {es n : Nat} {f : Nat → SD} {fin : Exit → Act → World → Prop} (ho : lkp s.sl j = .agg l) (hl : l[i]? = some (.list es n f)) (hn : n ≤ 68719476736 → Run P F w0 fin k s) : Run P F w0 fin k s := fun h e a w D => by
 have hv := D.slot j
 rw [ho] at hv
 simp only [rep] at hv
 obtain ⟨vs, _, h2⟩ := hv
 obtain ⟨v, hv⟩ := zPo h2 hl
 simp only [rep] at hv
 obtain ⟨_, cap, _, g2, g3, _⟩ := hv
 exact hn g3.2 h e a w D
structure zKz (P : Program) (f : Nat) (R : List SD → Nat → Nat → Nat → (Nat → SD) → Prop) : Prop where
 call : ∀ args w, (callFunc f args).run P w = .ok (.enter f args) w
 ok : ∀ ds T es n g, R ds T es n g → ∀ h e w vs, GH h → Sub h w → repT h ds e vs → Calls P f vs.toArray w fun en w' => ∃ v h', en = .returned v ∧ Le h h' ∧ Sub h' w' ∧ Below w.heap.size w w' ∧
  (∀ b, b < w.heap.size → h' b = h b) ∧ zDp h' ⟨fun _ => 0, fun _ => v⟩ w' 0 (.acc T es n g) ∧ (∃ a n c, v = .slice a n c) ∧ ∀ b, v.ownBlock = some b → w.heap.size ≤ b ∧ h' b = none
def zU6 (w0 : zB0) (T es n : Nat) (g : Nat → SD) : Ending → World → Prop := fun en w' => ∃ v h', en = .returned v ∧ Le w0.h h' ∧ Sub h' w' ∧ Below w0.w.heap.size w0.w w' ∧
 (∀ b, b < w0.w.heap.size → h' b = w0.h b) ∧ zDp h' ⟨fun _ => 0, fun _ => v⟩ w' 0 (.acc T es n g) ∧ (∃ a n c, v = .slice a n c) ∧ ∀ b, v.ownBlock = some b → w0.w.heap.size ≤ b ∧ h' b = none
theorem zI5 {h : Hp} {e e' : Nm} {w : World} {k k' T es n : Nat} {f g : Nat → SD} (hv : e'.hd k' = e.hd k) (hfg : ∀ i, i < n → f i = g i) (x : zDp h e w k (.acc T es n f)) : zDp h e' w k' (.acc T es n g) := by
 obtain ⟨xs, h1, h2, h3⟩ := x
 refine ⟨xs, by rw [hv]; exact h1, h2, fun i hi => ?_⟩
 rw [← hfg i hi]
 exact h3 i hi
theorem zCw {b0 : zB0} {fn : Func} {r j T es n n' : Nat} {f g : Nat → SD} (hr : fn.results = #[.tmp r]) (hs : lkp s.sl r = .acc j) (ho : lkO s.ow j = some (.acc T es n f)) (hn : n = n') (hfg : ∀ i, i < n → f i = g i) :
  Run P [] b0.std (bodyPost P fn (zU6 b0 T es n' g)) (.code .ret :: k) s := fun h e a w D => by
 subst hn
 refine wpIn_ret (zCc ?_)
 have hv := D.slot r
 rw [hs] at hv
 simp only [rep] at hv
 refine bodyPost_ret (results_tmp hr _ _ _) D.defers ⟨_, h, rfl, D.le, D.sub, D.keeps.below, D.neww, zI5 hv.1 hfg (D.own j _ ho), hv.2, fun b hb => ?_⟩
 obtain ⟨g1, g2⟩ := D.ownb j _ b ho (by simp only [OB.blk]; rw [← hv.1]; exact hb)
 rcases g1 with g1 | g1
 ·exact ⟨g1, g2⟩
 ·cases g1.1
theorem zFz {b0 : zB0} {fn : Func} {r T es n : Nat} {g : Nat → SD} (hr : fn.results = #[.tmp r]) (hs : lkp s.sl r = .nils) (hn : n = 0) :
  Run P [] b0.std (bodyPost P fn (zU6 b0 T es n g)) (.code .ret :: k) s := fun h e a w D => by
 subst hn
 refine wpIn_ret (zCc ?_)
 have hv := D.slot r
 rw [hs] at hv
 simp only [rep] at hv
 refine bodyPost_ret (results_tmp hr _ _ _) D.defers ⟨_, h, rfl, D.le, D.sub, D.keeps.below, D.neww, ?_, ⟨_, _, _, hv⟩, fun b hb => ?_⟩
 ·exact ⟨[], ⟨by simp, .inl ⟨hv, rfl⟩⟩, Nat.zero_le _, fun i hi => absurd hi (Nat.not_lt_zero i)⟩
 ·rw [hv] at hb; cases hb
theorem zE3 {f : Nat} {fn : Func} {c : Code} {n : Nat} {R : List SD → Nat → Nat → Nat → (Nat → SD) → Prop} (hcall : ∀ args w, (callFunc f args).run P w = .ok (.enter f args) w) (hf : P.funcs[f]? = some fn) (hb : fn.body = some c) (hn : fn.ntmps = n)
  (hrun : ∀ ds T es m g, R ds T es m g → ds.length ≤ n ∧ ∀ b0 : zB0, Run P [] b0.std (bodyPost P fn (zU6 b0 T es m g)) [.code c] ⟨n, 0, zR4 0 ds, []⟩) : zKz P f R := by
 refine ⟨hcall, fun ds T es m g hR h e w vs gh hs hr => ?_⟩
 obtain ⟨hlen, hrun⟩ := hrun ds T es m g hR
 have hvl : vs.length = ds.length := by
  clear hR hrun hlen
  induction ds generalizing vs with
  | nil => simp only [repT] at hr; simp [hr]
  | cons d r ih => simp only [repT] at hr; obtain ⟨v, vs', rfl, _, h2⟩ := hr; simp [ih vs' h2]
 refine calls_of_wp hf hb ?_
 refine (wpIn_wide (n := 0)).1 ?_
 refine hrun ⟨w, h, [], gh⟩ h e _ w ⟨rfl, ?_, fun t => ?_, fun k o hk => by simp [lkO] at hk, fun k o b hk => by simp [lkO] at hk, fun k k' o o' b _ hk => by simp [lkO] at hk, hs, zEt.refl _ _, Le.refl h, fun _ _ => rfl, fun i b hb => by simp [Base.fix, zB0.std] at hb⟩
 ·simp; omega
 ·have := zGl (e := e) 0 t hr
  simp only [Nat.zero_le, if_true, Nat.sub_zero] at this
  have e1 : (vs.toArray ++ Array.replicate (fn.ntmps - vs.toArray.size) undef).getD t undef = vs.getD t undef := by
   simp only [Array.getD_eq_getD_getElem?, Array.getElem?_append, zz2];by_cases ht : t < vs.length
   ·simp [ht]
   ·simp only [List.size_toArray, ht, if_false, Array.getElem?_replicate]
    rw [List.getElem?_eq_none (by omega)];split <;> simp
  rw [e1];exact this
theorem FnOK.weaken {f : Nat} {R R' : List SD → SD → Prop} (hf : FnOK P f R) (h : ∀ ds d, R' ds d → R ds d) : FnOK P f R' := ⟨hf.call, fun ds d hr => hf.ok ds d (h ds d hr)⟩
theorem zKz.toOK {f : Nat} {R : List SD → Nat → Nat → Nat → (Nat → SD) → Prop} (hf : zKz P f R) : FnOK P f (fun ds d => ∃ T es n g, R ds T es n g ∧ d = .list es n g) := by
 refine ⟨hf.call, ?_⟩
 rintro ds d ⟨T, es, n, g, hR, rfl⟩ h e w vs gh hs hr
 refine (hf.ok ds T es n g hR h e w vs gh hs hr).mono fun en w' hq => ?_
 obtain ⟨v, h', rfl, g1, g2, g3, g4, ⟨xs, o1, o2, o3⟩, g6, g7⟩ := hq
 simp only at o1
 rcases o1.2 with ⟨hv, hn0⟩ | ⟨b, cap, cur, hv, _, hg, hnc, hcm, hcs, htake⟩
 ·refine ⟨v, h', rfl, g1, g2, g3, g4, fun e' => ?_⟩
  simp only [rep];exact ⟨none, 0, by rw [hv, hn0], by omega, ⟨Nat.zero_le _, zOh o2⟩, fun hc => absurd hc (by omega)⟩
 ·obtain ⟨b1, b2⟩ := g7 b (by rw [hv]; rfl)
  have hle : Le h' (h'.set b (.cells cur T (0, 0))) := fun j x hx => by
   simp only [Hp.set];by_cases hb : j = b
   ·subst hb; rw [b2] at hx; cases hx
   ·simp [hb, hx]
  refine ⟨v, h'.set b (.cells cur T (0, 0)), rfl, g1.trans hle, fun j x hx => ?_, g3, fun j hj => ?_, fun e' => ?_⟩
  ·simp only [Hp.set] at hx
   by_cases hb : j = b
   ·subst hb
    simp only [if_true, zz1] at hx;subst hx;exact hg
   ·simp only [hb, if_false] at hx
    exact g2 j x hx
  ·have : j ≠ b := by omega
   simp only [Hp.set, this, if_false];exact g4 j hj
  ·rw [hv]
   simp only [rep];refine ⟨_, cap, rfl, hnc, ⟨hcm, zOh o2⟩, fun hn0 => ⟨⟨b, 0, none⟩, cur, T, (0, 0), rfl, rfl, by simp [Hp.set], fun i hi => ?_⟩⟩;obtain ⟨u, u1, u2, u3⟩ := o3 i hi;refine ⟨u, fun e' => zBa hle _ e' _ (u1 e'), ?_, u3⟩;rw [u2, ← htake];simp only [cut, List.drop_take, List.take_take, Nat.zero_add]
   congr 1
   have : (i + 1) * es ≤ n * es := Nat.mul_le_mul_right _ hi;rw [Nat.add_mul] at this;omega
def zO5 (s : St) (t T es n : Nat) (g : Nat → SD) : Option St :=
 bif Nat.blt t s.n && s.free s.nx then some ⟨s.n, s.nx + 1, upd s.sl t (.acc s.nx), upd s.ow s.nx (.acc T es n g)⟩ else none
theorem zHq {f t : Nat} {args : Array Operand} {tys : Array Nat} {ty : Nat} {pos : String} {af : Array Edge} {R : List SD → Nat → Nat → Nat → (Nat → SD) → Prop} {ds : List SD} {T es n : Nat} {g : Nat → SD} {s' : St} (hf : zKz P f R)
  (ha : args.toList.map (unG s) = ds) (hg : zAn (gCs s args.toList [])) (hR : R ds T es n g) (hs : zO5 s t T es n g = some s')
  (hn : zAi P F w0 ops Q rest s') : zAi P F w0 ops Q (⟨some t, .call ⟨.value (.func f), args, tys⟩, ty, pos, af, none⟩ :: rest) s := fun h e a w D => by
 subst ha
 unfold zO5 at hs
 cases hk : (Nat.blt t s.n && s.free s.nx)
 ·rw [hk] at hs; cases hs
 ·rw [hk] at hs
  simp only [cond_true, zz1] at hs;subst hs;simp only [zz3] at hk;have ht := zAm hk.1;have hF := Free.of hk.2;refine zAf rfl fun K hK => ?_;unfold Oper.wp
  have hrun : (execOp a.eval ⟨some t, .call ⟨.value (.func f), args, tys⟩, ty, pos, af, none⟩).run P w = .ok (.enter f (args.toList.map a.eval).toArray) w := by
   have : (args.toList.map a.eval).toArray = args.map a.eval := by apply Array.ext'; simp
   rw [this];simp [execOp, resolve, Deferred.ofValue, Act.eval, invoke, hf.call]
  rw [hrun];refine (hf.ok _ _ _ _ _ hR h e w _ D.gh D.sub (zA1 D (zAt hg).1 fun _ hx => hx)).mono fun en w' hq => ?_;obtain ⟨v, h', rfl, g1, g2, g3, g4, g5, g6, g7⟩ := hq;have D1 := (D.called g1 g2 g3 g4).rename (e.but_setH s.nx v) hF;have D2 := D1.addOwn (k := s.nx) (o := .acc T es n g) (zCl hF) (zI5 (e := ⟨fun _ => 0, fun _ => v⟩) (k := 0) (by simp [Nm.setH]) (fun _ _ => rfl) g5) (fun b hb => ?_) (fun j o' b hj hb hc => ?_) (s.nx + 1)
  ·refine hK _ _ (hn h' (e.setH s.nx v) _ _ ?_)
   exact (D2.put (i := t) (d := .acc s.nx) (v := v) ht (by simp only [rep, Nm.setH, if_true]; exact ⟨trivial, g6⟩)).congr rfl (fun _ => rfl) fun _ => rfl
  ·simp only [OB.blk, Nm.setH, if_true] at hb
   obtain ⟨k1, k2⟩ := g7 b hb;exact ⟨.inl (Nat.le_trans D.keeps.size k1), k2⟩
  ·simp only [OB.blk, Nm.setH, if_true] at hc
   obtain ⟨k1, _⟩ := g7 b hc;have hjk : j ≠ s.nx := fun x => by subst x; rw [zCl hF] at hj; cases hj
   rw [zBv (e.but_setH s.nx v) hjk] at hb;have := zD9 (D.own j o' hj) hb;omega
theorem yF (t T es : Nat) (f : Nat → SD) {fin : Exit → Act → World → Prop} (hs : lkp s.sl t = .nils) (ht : Nat.blt t s.n = true) (hf : s.free s.nx = true)
  (hn : Run P F w0 fin k ⟨s.n, s.nx + 1, upd s.sl t (.acc s.nx), upd s.ow s.nx (.acc T es 0 f)⟩) : Run P F w0 fin k s := fun h e a w D => by
 have hv := D.slot t
 rw [hs] at hv
 simp only [rep] at hv
 have hF := Free.of hf
 have D1 := D.rename (e.but_setH s.nx (.slice none 0 0)) hF
 have D2 := D1.addOwn (k := s.nx) (o := .acc T es 0 f) (zCl hF) ⟨[], by simp only [Nm.setH, if_true]; exact ⟨by simp, .inl ⟨rfl, rfl⟩⟩, Nat.zero_le _, fun i hi => absurd hi (Nat.not_lt_zero i)⟩ (fun b hb => ?_) (fun j o' b hj hb hc => ?_) (s.nx + 1)
 ·have D3 := D2.put (i := t) (d := .acc s.nx) (v := .slice none 0 0) (zAm ht) (by simp only [rep, Nm.setH, if_true]; exact ⟨trivial, _, _, _, rfl⟩)
  have ea : a.put (some t) (.slice none 0 0) = a := by
   have hlt : t < a.tmps.size := by rw [D.size]; exact zAm ht
   obtain ⟨ts, df⟩ := a;show ({ tmps := ts.setIfInBounds t (.slice none 0 0), defers := df } : Act) = _
   congr 1
   have hg : ts[t]'hlt = .slice none 0 0 := by
    rw [Array.getD_eq_getD_getElem?, Array.getElem?_eq_getElem hlt] at hv;exact hv
   refine Array.ext (by simp) fun i h1 h2 => ?_;rw [Array.getElem_setIfInBounds];by_cases hi : t = i
   ·subst hi; rw [if_pos rfl]; exact hg.symm
   ·rw [if_neg hi]
  rw [ea] at D3;exact hn h _ a w (D3.congr rfl (fun _ => rfl) fun _ => rfl)
 ·simp only [OB.blk, Nm.setH, if_true, Value.ownBlock] at hb; cases hb
 ·simp only [OB.blk, Nm.setH, if_true, Value.ownBlock] at hc; cases hc
def FnV (P : Program) (f : Nat) (caps ds : List SD) (d : SD) : Prop := ∃ R, FnOK P f R ∧ R (ds ++ caps) d
theorem zCm {h : Hp} {e : Nm} : ∀ {l l' : List SD} {vs vs' : List Value}, repT h l e vs → repT h l' e vs' → repT h (l ++ l') e (vs ++ vs')
 | [], _, _, _, h1, h2 => by simp only [repT] at h1; subst h1; exact h2
 | d :: r, l', vs, vs', h1, h2 => by
  simp only [repT] at h1;obtain ⟨v, us, rfl, g1, g2⟩ := h1;simp only [List.cons_append, repT];exact ⟨v, us ++ vs', rfl, g1, zCm g2 h2⟩
theorem yD {f t j : Nat} {args : Array Operand} {tys : Array Nat} {ty : Nat} {pos : String} {af : Array Edge} {caps ds : List SD} {d : SD} {s' : St} (hf : FnV P f caps ds d) (hj : lkp s.sl j = .fn f caps)
  (ha : args.toList.map (unG s) = ds) (hg : zAn (gCs s args.toList [])) (hs : zC0 s t d = some s')
  (hn : zAi P F w0 ops Q rest s') : zAi P F w0 ops Q (⟨some t, .call ⟨.value (.tmp j), args, tys⟩, ty, pos, af, none⟩ :: rest) s := fun h e a w D => by
 subst ha
 obtain ⟨R, hf, hR⟩ := hf
 obtain ⟨ht, rfl⟩ := zA0 hs
 have hv := D.slot j
 rw [hj] at hv
 simp only [rep] at hv
 obtain ⟨vs, hv, hc⟩ := hv
 refine zAf rfl fun K hK => ?_
 unfold Oper.wp
 have hrun : (execOp a.eval ⟨some t, .call ⟨.value (.tmp j), args, tys⟩, ty, pos, af, none⟩).run P w = .ok (.enter f (args.toList.map a.eval ++ vs).toArray) w := by
  have : (args.toList.map a.eval ++ vs).toArray = args.map a.eval ++ vs.toArray := by apply Array.ext'; simp
  rw [this];have hev : a.eval (.tmp j) = .func (.func f) #[] vs.toArray := hv;simp [execOp, resolve, hev, Deferred.ofValue, invoke, hf.call]
 rw [hrun]
 refine (hf.ok _ _ hR h e w _ D.gh D.sub (zCm (zA1 D (zAt hg).1 fun _ hx => hx) hc)).mono fun en w' hq => ?_
 obtain ⟨v, h', rfl, g1, g2, g3, g4, g5⟩ := hq
 exact hK _ _ (hn _ _ _ _ ((D.called g1 g2 g3 g4).put ht (g5 e)))
end
end Go.Sx
namespace Go.Sx
open Go.RowKit
mutual
def ren (σ : Nat → Nat) : SD → SD
 | .agg l => .agg (zI7 σ l)
 | .acc j => .acc (σ j)
 | .accH j n => .accH (σ j) n
 | .aptr j es i o => .aptr (σ j) es i o
 | .accp j es i => .accp (σ j) es i
 | .vsl j o n c => .vsl (σ j) o n c
 | .bfn f l => .bfn f (zI7 σ l)
 | .loc j o => .loc (σ j) o
 | .gd c d => .gd c (ren σ d)
 | .tup l => .tup (zI7 σ l)
 | .fn f l => .fn f (zI7 σ l)
 | .iface t d => .iface t (ren σ d)
 | .omap j => .omap (σ j)
 | .any => .any
 | .int a b => .int a b
 | .bool b => .bool b
 | .str s => .str s
 | .list es n f => .list es n f
 | .lng n f => .lng n f
 | .nils => .nils
 | .fp l => .fp l
 | .nilp => .nilp
 | .nilfn => .nilfn
 | .nilif => .nilif
 | .nilmap => .nilmap
 | .fmap kk n dom f => .fmap kk n dom f
 | .yld l => .yld l
 | .val v => .val v
def zI7 (σ : Nat → Nat) : List SD → List SD
 | [] => []
 | d :: r => ren σ d :: zI7 σ r
end
def Nm.via (e : Nm) (σ : Nat → Nat) : Nm := ⟨fun k => e.bs (σ k), fun k => e.hd (σ k)⟩
mutual
theorem zCx {h : Hp} {e : Nm} {σ : Nat → Nat} : ∀ (d : SD) (v : Value), rep h (ren σ d) e v ↔ rep h d (e.via σ) v
 | .any, _ => by simp [ren, rep]
 | .int .., _ => by simp [ren, rep]
 | .bool .., _ => by simp [ren, rep]
 | .str .., _ => by simp [ren, rep]
 | .agg l, v => by
  simp only [ren, rep];exact ⟨fun ⟨vs, h1, h2⟩ => ⟨vs, h1, (zGg l vs).1 h2⟩, fun ⟨vs, h1, h2⟩ => ⟨vs, h1, (zGg l vs).2 h2⟩⟩
 | .list .., _ => by simp only [ren, rep]
 | .lng .., _ => by simp only [ren, rep]
 | .nils, _ => by simp [ren, rep]
 | .fp .., _ => by simp only [ren, rep]
 | .nilp, _ => by simp [ren, rep]
 | .loc .., _ => by simp [ren, rep, Nm.via]
 | .acc .., _ => by simp [ren, rep, Nm.via]
 | .accH .., _ => by simp [ren, rep, Nm.via]
 | .aptr .., _ => by simp [ren, rep, Nm.via]
 | .accp .., _ => by simp [ren, rep, Nm.via]
 | .vsl .., _ => by simp [ren, rep, Nm.via]
 | .bfn f l, v => by
  simp only [ren, rep];exact ⟨fun ⟨vs, h1, h2⟩ => ⟨vs, h1, (zDb l vs).1 h2⟩, fun ⟨vs, h1, h2⟩ => ⟨vs, h1, (zDb l vs).2 h2⟩⟩
 | .gd c d, v => by
  simp only [ren, rep];exact ⟨fun ⟨h1, h2⟩ => ⟨fun hc => (zCx d v).1 (h1 hc), h2⟩, fun ⟨h1, h2⟩ => ⟨fun hc => (zCx d v).2 (h1 hc), h2⟩⟩
 | .tup l, v => by
  simp only [ren, rep];exact ⟨fun ⟨vs, h1, h2⟩ => ⟨vs, h1, (zDb l vs).1 h2⟩, fun ⟨vs, h1, h2⟩ => ⟨vs, h1, (zDb l vs).2 h2⟩⟩
 | .fn f l, v => by
  simp only [ren, rep];exact ⟨fun ⟨vs, h1, h2⟩ => ⟨vs, h1, (zDb l vs).1 h2⟩, fun ⟨vs, h1, h2⟩ => ⟨vs, h1, (zDb l vs).2 h2⟩⟩
 | .nilfn, _ => by simp [ren, rep]
 | .iface t d, v => by
  simp only [ren, rep];exact ⟨fun ⟨u, h1, h2⟩ => ⟨u, h1, (zCx d u).1 h2⟩, fun ⟨u, h1, h2⟩ => ⟨u, h1, (zCx d u).2 h2⟩⟩
 | .nilif, _ => by simp [ren, rep]
 | .omap .., _ => by simp [ren, rep, Nm.via]
 | .nilmap, _ => by simp [ren, rep]
 | .fmap .., _ => by simp only [ren, rep]
 | .yld .., _ => by simp only [ren, rep]
 | .val .., _ => by simp only [ren, rep]
theorem zGg {h : Hp} {e : Nm} {σ : Nat → Nat} : ∀ (l : List SD) (vs : List Value), repC h (zI7 σ l) e vs ↔ repC h l (e.via σ) vs
 | [], vs => by simp [zI7, repC]
 | d :: r, vs => by
  simp only [zI7, repC];exact ⟨fun ⟨v, vs', h1, h2, h3, h4⟩ => ⟨v, vs', h1, h2, (zCx d v).1 h3, (zGg r vs').1 h4⟩, fun ⟨v, vs', h1, h2, h3, h4⟩ => ⟨v, vs', h1, h2, (zCx d v).2 h3, (zGg r vs').2 h4⟩⟩
theorem zDb {h : Hp} {e : Nm} {σ : Nat → Nat} : ∀ (l : List SD) (vs : List Value), repT h (zI7 σ l) e vs ↔ repT h l (e.via σ) vs
 | [], vs => by simp [zI7, repT]
 | d :: r, vs => by
  simp only [zI7, repT];exact ⟨fun ⟨v, vs', h1, h3, h4⟩ => ⟨v, vs', h1, (zCx d v).1 h3, (zDb r vs').1 h4⟩, fun ⟨v, vs', h1, h3, h4⟩ => ⟨v, vs', h1, (zCx d v).2 h3, (zDb r vs').2 h4⟩⟩
end
mutual
def zDn (pb ph : Nat → Bool) : SD → Bool
 | .agg l => zC6 pb ph l
 | .loc j _ => pb j
 | .omap j => pb j
 | .acc j => ph j
 | .accH j _ => ph j
 | .aptr j _ _ _ => ph j
 | .accp j _ _ => ph j
 | .vsl j _ _ _ => pb j
 | .bfn _ l => zC6 pb ph l
 | .gd _ d => zDn pb ph d
 | .tup l => zC6 pb ph l
 | .fn _ l => zC6 pb ph l
 | .iface _ d => zDn pb ph d
 | _ => true
def zC6 (pb ph : Nat → Bool) : List SD → Bool
 | [] => true
 | d :: r => zDn pb ph d && zC6 pb ph r
end
structure Nm.agr (pb ph : Nat → Bool) (e e' : Nm) : Prop where
 bs : ∀ k, pb k = true → e'.bs k = e.bs k
 hd : ∀ k, ph k = true → e'.hd k = e.hd k
mutual
theorem zEo {h : Hp} {e e' : Nm} {pb ph : Nat → Bool} (he : e.agr pb ph e') : ∀ (d : SD) (v : Value), zDn pb ph d = true → rep h d e v → rep h d e' v
 | .any, _, _, _ => by simp [rep]
 | .int .., _, _, x => by simpa [rep] using x
 | .bool .., _, _, x => by simpa [rep] using x
 | .str .., _, _, x => by simpa [rep] using x
 | .agg l, v, hm, x => by
  simp only [rep] at x ⊢;obtain ⟨vs, h1, h2⟩ := x;exact ⟨vs, h1, zMe he l vs (by simpa [zDn] using hm) h2⟩
 | .list .., _, _, x => by simpa [rep] using x
 | .lng .., _, _, x => by simpa [rep] using x
 | .nils, _, _, x => by simpa [rep] using x
 | .fp .., _, _, x => by simpa [rep] using x
 | .nilp, _, _, x => by simpa [rep] using x
 | .loc j o, v, hm, x => by
  have := he.bs j (by simpa [zDn] using hm);simpa [rep, this] using x
 | .omap j, v, hm, x => by
  have := he.bs j (by simpa [zDn] using hm);simpa [rep, this] using x
 | .acc j, v, hm, x => by
  have := he.hd j (by simpa [zDn] using hm);simpa [rep, this] using x
 | .accH j _, v, hm, x => by
  have := he.hd j (by simpa [zDn] using hm);simpa [rep, this] using x
 | .aptr j _ _ _, v, hm, x => by
  have := he.hd j (by simpa [zDn] using hm);simpa [rep, this] using x
 | .accp j _ _, v, hm, x => by
  have := he.hd j (by simpa [zDn] using hm);simpa [rep, this] using x
 | .vsl j _ _ _, v, hm, x => by
  have := he.bs j (by simpa [zDn] using hm);simpa [rep, this] using x
 | .bfn f l, v, hm, x => by
  simp only [rep] at x ⊢;obtain ⟨vs, h1, h2⟩ := x;exact ⟨vs, h1, zGf he l vs (by simpa [zDn] using hm) h2⟩
 | .gd c d, v, hm, x => by
  simp only [rep] at x ⊢;exact ⟨fun hc => zEo he d v (by simpa [zDn] using hm) (x.1 hc), x.2⟩
 | .tup l, v, hm, x => by
  simp only [rep] at x ⊢;obtain ⟨vs, h1, h2⟩ := x;exact ⟨vs, h1, zGf he l vs (by simpa [zDn] using hm) h2⟩
 | .fn f l, v, hm, x => by
  simp only [rep] at x ⊢;obtain ⟨vs, h1, h2⟩ := x;exact ⟨vs, h1, zGf he l vs (by simpa [zDn] using hm) h2⟩
 | .nilfn, _, _, x => by simpa [rep] using x
 | .iface t d, v, hm, x => by
  simp only [rep] at x ⊢;obtain ⟨u, h1, h2⟩ := x;exact ⟨u, h1, zEo he d u (by simpa [zDn] using hm) h2⟩
 | .nilif, _, _, x => by simpa [rep] using x
 | .nilmap, _, _, x => by simpa [rep] using x
 | .fmap .., _, _, x => by simpa only [rep] using x
 | .yld .., _, _, x => by simpa only [rep] using x
 | .val .., _, _, x => by simpa only [rep] using x
theorem zMe {h : Hp} {e e' : Nm} {pb ph : Nat → Bool} (he : e.agr pb ph e') : ∀ (l : List SD) (vs : List Value), zC6 pb ph l = true → repC h l e vs → repC h l e' vs
 | [], _, _, x => by simpa [repC] using x
 | d :: r, vs, hm, x => by
  simp only [zC6, zz3] at hm;simp only [repC] at x ⊢;obtain ⟨v, vs', h1, h2, h3, h4⟩ := x;exact ⟨v, vs', h1, h2, zEo he d v hm.1 h3, zMe he r vs' hm.2 h4⟩
theorem zGf {h : Hp} {e e' : Nm} {pb ph : Nat → Bool} (he : e.agr pb ph e') : ∀ (l : List SD) (vs : List Value), zC6 pb ph l = true → repT h l e vs → repT h l e' vs
 | [], _, _, x => by simpa [repT] using x
 | d :: r, vs, hm, x => by
  simp only [zC6, zz3] at hm;simp only [repT] at x ⊢;obtain ⟨v, vs', h1, h2, h3⟩ := x;exact ⟨v, vs', h1, zEo he d v hm.1 h2, zGf he r vs' hm.2 h3⟩
end
def yBm (σ : Nat → Nat) : List (SD × SD) → List (SD × SD)
 | [] => []
 | (k, d) :: r => (ren σ k, d) :: yBm σ r
def zJo (σ : Nat → Nat) : OB → OB
 | .var l => .var (zI7 σ l)
 | .acc T es n f => .acc T es n f
 | .mp kd l => .mp kd (yBm σ l)
def zQk (pb ph : Nat → Bool) : List (SD × SD) → Bool
 | [] => true
 | (k, _) :: r => zDn pb ph k && zQk pb ph r
def zGa (pb ph : Nat → Bool) : OB → Bool
 | .var l => zC6 pb ph l
 | .acc .. => true
 | .mp _ l => zQk pb ph l
def OB.isAcc : OB → Bool
 | .acc .. => true
 | .mp m _ => match m.it with
  | some (.live ..) => true
  | _ => false
 | _ => false
theorem zH7 {h : Hp} {e : Nm} {w : World} {σ : Nat → Nat} {k : Nat} (o : OB) : zDp h e w (σ k) (zJo σ o) ↔ zDp h (e.via σ) w k o := by
 cases o with
 | var l => exact ⟨fun ⟨cs, T, h1, h2⟩ => ⟨cs, T, h1, (zGg l _).1 h2⟩, fun ⟨cs, T, h1, h2⟩ => ⟨cs, T, h1, (zGg l _).2 h2⟩⟩
 | acc T es n f => exact Iff.rfl
 | mp m l =>
  unfold zDp zJo;simp only;split
  ·refine ⟨fun x => zEb (k := σ k) (e := e) (e' := e.via σ) (k' := k) (l := yBm σ l) (l' := l) (Le.refl h) rfl (fun _ _ => rfl) (fun u hu d c r hlr => ?_) x, fun x => zEb (k := k) (e := e.via σ) (e' := e) (k' := σ k) (l := l) (l' := yBm σ l) (Le.refl h) rfl (fun _ _ => rfl) (fun u hu d c r hlr => ?_) x⟩
   ·subst hlr
    exact (zCx d u).1 (hu (ren σ d) c (yBm σ r) rfl)
   ·cases l with
    | nil => cases hlr
    | cons p q =>
     obtain ⟨d1, c1⟩ := p;simp only [yBm, List.cons.injEq, Prod.mk.injEq] at hlr;obtain ⟨⟨rfl, rfl⟩, rfl⟩ := hlr;exact (zCx d1 u).2 (hu d1 c1 q rfl)
  ·exact Iff.rfl
theorem zGi {h : Hp} {e e' : Nm} {w : World} {pb ph : Nat → Bool} (he : e.agr pb ph e') {k : Nat} (o : OB) (hk : (bif o.isAcc then ph k else pb k) = true) (hm : zGa pb ph o = true) (x : zDp h e w k o) : zDp h e' w k o := by
 cases o with
 | var l =>
  obtain ⟨cs, T, h1, h2⟩ := x;exact ⟨cs, T, by rw [he.bs k (by simpa [OB.isAcc] using hk)]; exact h1, zMe he l _ (by simpa [zGa] using hm) h2⟩
 | acc T es n f =>
  obtain ⟨xs, h1, h2⟩ := x;exact ⟨xs, by rw [he.hd k (by simpa [OB.isAcc] using hk)]; exact h1, h2⟩
 | mp m l =>
  unfold zDp at x ⊢;simp only at x ⊢;simp only [OB.isAcc] at hk;split at x
  ·rename_i hit
   simp only [hit, cond_true] at hk;refine zEb (Le.refl h) (he.hd k hk) (fun _ _ => rfl) (fun u hu d c r hlr => ?_) x;subst hlr;simp only [zGa, zQk, zz3] at hm;exact zEo he d u hm.1 (hu d c r rfl)
  ·rename_i hit
   obtain ⟨o, h1, h2⟩ := x
   have hb := he.bs k (by
    split at hk
    ·exact absurd ‹_› (hit _ _ _ _ _)
    ·exact hk)
   exact ⟨o, by rw [hb]; exact h1, by rw [hb]; exact h2⟩
theorem zKv {e e' : Nm} {pb ph : Nat → Bool} (he : e.agr pb ph e') {k : Nat} (o : OB) (hk : (bif o.isAcc then ph k else pb k) = true) : o.blk e' k = o.blk e k := by
 cases o with
 | var l => simp only [OB.isAcc, cond_false] at hk; simp only [OB.blk]; rw [he.bs k hk]
 | acc T es n f => simp only [OB.isAcc, cond_true] at hk; simp only [OB.blk]; rw [he.hd k hk]
 | mp m l =>
  simp only [OB.isAcc] at hk;simp only [OB.blk];split
  ·rename_i hit
   simp only [hit, cond_true] at hk;rw [he.hd k hk]
  ·rename_i hit
   rw [he.bs k (by
    split at hk
    ·exact absurd ‹_› (hit _ _ _ _ _)
    ·exact hk)]
theorem zSg {o : OB} (h : o.isAcc = false) (e : Nm) (k : Nat) : o.blk e k = some (e.bs k) := by
 cases o with
 | var l => rfl
 | acc T es n f => cases h
 | mp m l =>
  simp only [OB.isAcc] at h;simp only [OB.blk];split
  ·rename_i hit; simp only [hit] at h; cases h
  ·rfl
theorem yE5 {e e' : Nm} {σ : Nat → Nat} {k k' : Nat} (o : OB) (hb : e'.bs k' = e.bs k) (hh : e'.hd k' = e.hd k) : (zJo σ o).blk e' k' = o.blk e k := by
 cases o with
 | var l => simp only [zJo, OB.blk, hb]
 | acc T es n f => simp only [zJo, OB.blk, hh]
 | mp m l =>
  simp only [zJo, OB.blk, hb, hh]
theorem zWa (σ : Nat → Nat) (o : OB) : (zJo σ o).isAcc = o.isAcc := by cases o <;> rfl
theorem zQh {e : Nm} {σ : Nat → Nat} {k : Nat} (o : OB) : (zJo σ o).blk e (σ k) = o.blk (e.via σ) k := by cases o <;> rfl
mutual
theorem zEc {pb ph : Nat → Bool} : ∀ (d : SD), (∀ k, (pb k && ph k) = false → men k d = false) → zDn pb ph d = true
 | .any, _ => rfl
 | .int .., _ => rfl
 | .bool .., _ => rfl
 | .str .., _ => rfl
 | .agg l, h => by simp only [zDn]; exact zCt l fun k hk => by simpa [men] using h k hk
 | .list .., _ => rfl
 | .lng .., _ => rfl
 | .nils, _ => rfl
 | .fp .., _ => rfl
 | .nilp, _ => rfl
 | .loc j o, h => by
  simp only [zDn];cases hp : pb j
  ·have := h j (by simp [hp]); simp [men] at this
  ·rfl
 | .omap j, h => by
  simp only [zDn];cases hp : pb j
  ·have := h j (by simp [hp]); simp [men] at this
  ·rfl
 | .acc j, h => by
  simp only [zDn];cases hp : ph j
  ·have := h j (by simp [hp]); simp [men] at this
  ·rfl
 | .accH j _, h => by
  simp only [zDn];cases hp : ph j
  ·have := h j (by simp [hp]); simp [men] at this
  ·rfl
 | .aptr j _ _ _, h => by
  simp only [zDn];cases hp : ph j
  ·have := h j (by simp [hp]); simp [men] at this
  ·rfl
 | .accp j _ _, h => by
  simp only [zDn];cases hp : ph j
  ·have := h j (by simp [hp]); simp [men] at this
  ·rfl
 | .vsl j _ _ _, h => by
  simp only [zDn];cases hp : pb j
  ·have := h j (by simp [hp]); simp [men] at this
  ·rfl
 | .bfn f l, h => by simp only [zDn]; exact zCt l fun k hk => by simpa [men] using h k hk
 | .gd c d, h => by simp only [zDn]; exact zEc d fun k hk => by simpa [men] using h k hk
 | .tup l, h => by simp only [zDn]; exact zCt l fun k hk => by simpa [men] using h k hk
 | .fn f l, h => by simp only [zDn]; exact zCt l fun k hk => by simpa [men] using h k hk
 | .nilfn, _ => rfl
 | .iface t d, h => by simp only [zDn]; exact zEc d fun k hk => by simpa [men] using h k hk
 | .nilif, _ => rfl
 | .nilmap, _ => rfl
 | .fmap .., _ => rfl
 | .yld .., _ => rfl
 | .val .., _ => rfl
theorem zCt {pb ph : Nat → Bool} : ∀ (l : List SD), (∀ k, (pb k && ph k) = false → zGy k l = false) → zC6 pb ph l = true
 | [], _ => rfl
 | d :: r, h => by
  have h' : ∀ k, (pb k && ph k) = false → men k d = false ∧ zGy k r = false := fun k hk => by have := h k hk; simpa only [zGy, Bool.or_eq_false_iff] using this
  simp only [zC6, zz3];exact ⟨zEc d fun k hk => (h' k hk).1, zCt r fun k hk => (h' k hk).2⟩
end
theorem zJd {pb ph : Nat → Bool} : ∀ (l : List (SD × SD)), (∀ k, (pb k && ph k) = false → zC4 k l = false) → zQk pb ph l = true
 | [], _ => rfl
 | (x, d) :: r, h => by
  have h' : ∀ k, (pb k && ph k) = false → men k x = false ∧ zC4 k r = false := fun k hk => by have := h k hk; simpa only [zC4, Bool.or_eq_false_iff] using this
  simp only [zQk, zz3];exact ⟨zEc x fun k hk => (h' k hk).1, zJd r fun k hk => (h' k hk).2⟩
end Go.Sx
namespace Go.Sx
open Go.RowKit
def zB6 (k : Nat) : List OB → List (Nat × OB)
 | [] => []
 | o :: r => (k, o) :: zB6 (k + 1) r
def zC1 (e : Nm) : Nat → List OB → List Nat
 | _, [] => []
 | k, o :: r => (o.blk e k).toList ++ zC1 e (k + 1) r
theorem zDl : ∀ (os : List OB) (k j : Nat), lkO (zB6 k os) j = if k ≤ j then os[j - k]? else none
 | [], k, j => by simp [zB6, lkO]
 | o :: r, k, j => by
  have ih := zDl r (k + 1) j;simp only [zB6, lkO];by_cases h : k = j
  ·subst h; simp
  ·have : Nat.beq k j = false := zGu h
   simp only [this, cond_false, ih];by_cases hle : k ≤ j
   ·rw [if_pos (by omega), if_pos hle, show j - k = (j - (k + 1)) + 1 by omega]; simp
   ·rw [if_neg (by omega), if_neg hle]
theorem zDk {e : Nm} {b : Nat} : ∀ {os : List OB} {k : Nat}, b ∈ zC1 e k os ↔ ∃ (i : Nat) (o : OB), os[i]? = some o ∧ o.blk e (k + i) = some b
 | [], k => by simp [zC1]
 | o :: r, k => by
  simp only [zC1, List.mem_append, Option.mem_toList, zDk (os := r)]
  constructor
  ·rintro (h | ⟨i, o', h1, h2⟩)
   ·exact ⟨0, o, rfl, h⟩
   ·exact ⟨i + 1, o', by simpa using h1, by rw [show k + (i + 1) = k + 1 + i by omega]; exact h2⟩
  ·rintro ⟨i, o', h1, h2⟩
   cases i with
   | zero => simp only [List.getElem?_cons_zero, zz1] at h1; subst h1; exact .inl h2
   | succ i => exact .inr ⟨i, o', by simpa using h1, by rw [show k + 1 + i = k + (i + 1) by omega]; exact h2⟩
structure yAi (F : List Nat) (w0 : World) (ow : List (Nat × OB)) (h : Hp) (e : Nm) (w : World) : Prop where
 own : ∀ k o, lkO ow k = some o → zDp h e w k o
 ownb : ∀ k o b, lkO ow k = some o → o.blk e k = some b → (w0.heap.size ≤ b ∨ (b ∈ F ∧ 700 ≤ k)) ∧ h b = none
 apart : ∀ k k' o o' b, k ≠ k' → lkO ow k = some o → lkO ow k' = some o' → o.blk e k = some b → o'.blk e k' ≠ some b
def zA8 (F : List Nat) (w0 : zB0) (d : SD) (os' : List (Nat × OB)) : Ending → World → Prop := fun en w' => ∃ v h' e', en = .returned v ∧ Le w0.h h' ∧ Sub h' w' ∧ zEt F w0.w w' ∧
 (∀ b, b < w0.w.heap.size → h' b = w0.h b) ∧ (∀ i b, w0.fix[i]? = some b → e'.bs (1000 + i) = b) ∧ rep h' d e' v ∧ yAi F w0.w os' h' e' w'
def zIg (e : Nm) (os : List OB) : List Nat := (List.range os.length).map fun i => e.bs (1000 + i)
structure FnM (P : Program) (f : Nat) (R : List SD → List OB → SD → List (Nat × OB) → Prop) : Prop where
 call : ∀ args w, (callFunc f args).run P w = .ok (.enter f args) w
 ok : ∀ ds os d os', R ds os d os' → ∀ h e w vs (gh : GH h), Sub h w → repT h ds e vs → (∀ (i : Nat) (o : OB), os[i]? = some o → zDp h e w (1000 + i) o) → (∀ b, b ∈ zC1 e 1000 os → h b = none) →
  (∀ (i j : Nat) (o o' : OB) (b : Nat), i ≠ j → os[i]? = some o → os[j]? = some o' → o.blk e (1000 + i) = some b → o'.blk e (1000 + j) ≠ some b) →
  Calls P f vs.toArray w (zA8 (zC1 e 1000 os) ⟨w, h, zIg e os, gh⟩ d os')
section
variable {P : Program} {F : List Nat} {w0 : Base} {k : List It} {s : St}
theorem yC {b0 : zB0} {fn : Func} {l : List ResultVar} {ds : List SD} {d : SD} {os' : List (Nat × OB)} (hr : fn.results = l.toArray) (hq : zN7 P s l = some ds) (hd : SLe (zLm ds) d) (ho : zC2 s.ow os') :
  Run P F b0.std (bodyPost P fn (zA8 F b0 d os')) (.code .ret :: k) s := fun h e a w D => by
 refine wpIn_ret (zCc ?_)
 obtain ⟨vs, g1, g2⟩ := zKa (P := P) D hq
 have hres : (results fn a.tmps).run P w = .ok (if hz : vs.toArray.size = 1 then vs.toArray[0] else .tuple vs.toArray) w := by
  rw [zEe, hr];simp only [List.mapM_toArray, Sem.run_bind];rw [map_eq_pure_bind];simp only [Sem.run_bind, g2, Result.andThen_ok, Sem.run_pure]
 have hO : yAi F b0.w os' h e w := by
  have key : ∀ j o, lkO os' j = some o → ∃ o0, lkO s.ow j = some o0 ∧ OLe o0 o := fun j o hj => zFx ho j o hj;refine ⟨fun j o hj => ?_, fun j o b hj hb => ?_, fun j j' o o' b hne hj hj' hb => ?_⟩
  ·obtain ⟨o0, g1, g2⟩ := key j o hj
   exact g2.ok (D.own j o0 g1)
  ·obtain ⟨o0, g1, g2⟩ := key j o hj
   rw [g2.blk] at hb;exact D.ownb j o0 b g1 hb
  ·obtain ⟨o0, g1, g2⟩ := key j o hj
   obtain ⟨o1, g3, g4⟩ := key j' o' hj';rw [g2.blk] at hb;rw [g4.blk];exact D.apart j j' o0 o1 b hne g1 g3 hb
 refine bodyPost_ret hres D.defers ⟨_, h, e, rfl, D.le, D.sub, D.keeps, D.neww, D.fix, ?_, hO⟩
 refine hd h e _ ?_
 match ds, vs, g1 with
 | [], vs, g1 =>
  simp only [repT] at g1;subst g1;simp [zLm, rep, repT]
 | [d1], vs, g1 =>
  simp only [repT] at g1;obtain ⟨v, vs', rfl, g2, rfl⟩ := g1;simpa [zLm] using g2
 | d1 :: d2 :: r, vs, g1 =>
  have : vs.toArray.size ≠ 1 := by
   simp only [repT] at g1;obtain ⟨v, vs', rfl, _, v2, vs2, rfl, _⟩ := g1;simp
  rw [dif_neg this];simp only [zLm, rep];exact ⟨vs, rfl, g1⟩
theorem zBq {f : Nat} {fn : Func} {c : Code} {n : Nat} {R : List SD → List OB → SD → List (Nat × OB) → Prop} (hcall : ∀ args w, (callFunc f args).run P w = .ok (.enter f args) w) (hf : P.funcs[f]? = some fn) (hb : fn.body = some c) (hn : fn.ntmps = n)
  (hrun : ∀ ds os d os', R ds os d os' → ds.length ≤ n ∧ ∀ (F : List Nat) (w0 : zB0), Run P F w0.std (bodyPost P fn (zA8 F w0 d os')) [.code c] ⟨n, 0, zR4 0 ds, zB6 1000 os⟩) : FnM P f R := by
 refine ⟨hcall, fun ds os d os' hR h e w vs gh hs hr ho hb' hap => ?_⟩
 obtain ⟨hlen, hrun⟩ := hrun ds os d os' hR
 have hvl : vs.length = ds.length := by
  clear hR hrun hlen
  induction ds generalizing vs with
  | nil => simp only [repT] at hr; simp [hr]
  | cons d r ih => simp only [repT] at hr; obtain ⟨v, vs', rfl, _, h2⟩ := hr; simp [ih vs' h2]
 refine calls_of_wp hf hb ?_
 refine (wpIn_wide (n := 0)).1 ?_
 have hk : ∀ k o, lkO (zB6 1000 os) k = some o → ∃ i, k = 1000 + i ∧ os[i]? = some o := fun k o hk => by
  rw [zDl] at hk;split at hk
  ·exact ⟨k - 1000, by omega, hk⟩
  ·cases hk
 refine hrun (zC1 e 1000 os) ⟨w, h, zIg e os, gh⟩ h e _ w ⟨rfl, ?_, fun t => ?_, fun k o hko => ?_, fun k o b hko hbl => ?_, fun k k' o o' b hne hko hko' hbl => ?_, hs, zEt.refl _ _, Le.refl h, fun _ _ => rfl, fun i b hib => ?_⟩
 ·simp; omega
 ·have := zGl (e := e) 0 t hr
  simp only [Nat.zero_le, if_true, Nat.sub_zero] at this
  have e1 : (vs.toArray ++ Array.replicate (fn.ntmps - vs.toArray.size) undef).getD t undef = vs.getD t undef := by
   simp only [Array.getD_eq_getD_getElem?, Array.getElem?_append, zz2];by_cases ht : t < vs.length
   ·simp [ht]
   ·simp only [List.size_toArray, ht, if_false, Array.getElem?_replicate]
    rw [List.getElem?_eq_none (by omega)];split <;> simp
  rw [e1];exact this
 ·obtain ⟨i, rfl, hi⟩ := hk k o hko
  exact ho i o hi
 ·obtain ⟨i, rfl, hi⟩ := hk k o hko
  have hm : b ∈ zC1 e 1000 os := zDk.2 ⟨i, o, hi, hbl⟩;exact ⟨.inr ⟨hm, by omega⟩, hb' b hm⟩
 ·obtain ⟨i, rfl, hi⟩ := hk k o hko
  obtain ⟨j, rfl, hj⟩ := hk k' o' hko';exact hap i j o o' b (fun hc => hne (by rw [hc])) hi hj hbl
 ·change (zIg e os)[i]? = some b at hib
  simp only [zIg, List.getElem?_map] at hib;cases hr : (List.range os.length)[i]? with
  | none => rw [hr] at hib; cases hib
  | some j =>
   rw [hr] at hib
   have : j = i := by
    have := List.getElem?_eq_some_iff.1 hr;obtain ⟨h1, h2⟩ := this;simp at h2;exact h2.symm
   subst this;simpa using hib
end
def zC3 : List Nat → Nat → Nat
 | [], _ => 0
 | k :: _, 0 => k
 | _ :: r, i + 1 => zC3 r i
def zK2 : List Nat → Nat → Nat → Nat
 | [], _, i => i
 | j :: r, k, i => bif Nat.beq j k then i else zK2 r k (i + 1)
def tau (ks : List Nat) (k : Nat) : Nat := zK2 ks k 1000
def sgm (ks : List Nat) (m j : Nat) : Nat := bif Nat.blt j 1000 then m + j else zC3 ks (j - 1000)
def zCk (m B k : Nat) : Bool := Nat.ble m k && Nat.blt k (m + B)
def pbN (m B k : Nat) : Bool := !zCk m B k
def phN (m B : Nat) (A : List Nat) (k : Nat) : Bool := !zCk m B k && !zCq k A
def okb (ks : List Nat) (B k : Nat) : Bool := Nat.blt k B || (Nat.ble 1000 k && Nat.blt k (1000 + ks.length))
def okh (ks : List Nat) (B : Nat) (A : List Nat) (k : Nat) : Bool := Nat.blt k B || (Nat.ble 1000 k && Nat.blt k (1000 + ks.length) && zCq (zC3 ks (k - 1000)) A)
def zF2 (σ : Nat → Nat) : List (Nat × OB) → List (Nat × OB)
 | [] => []
 | (k, o) :: r => (σ k, zJo σ o) :: zF2 σ r
theorem zE1 {σ : Nat → Nat} : ∀ {os : List (Nat × OB)} {k : Nat} {o : OB}, lkO (zF2 σ os) k = some o → ∃ j o', σ j = k ∧ lkO os j = some o' ∧ o = zJo σ o'
 | [], _, _, h => by cases h
 | (j0, o0) :: r, k, o, h => by
  simp only [zF2, lkO] at h;cases hb : Nat.beq (σ j0) k
  ·rw [hb] at h
   obtain ⟨j, o', h1, h2, h3⟩ := zE1 h;refine ⟨j, o', h1, ?_, h3⟩;have : Nat.beq j0 j = false := zGu fun hc => by subst hc; exact zB2 hb h1
   simp only [lkO, this, cond_false, h2]
  ·rw [hb] at h
   simp only [cond_true, zz1] at h;exact ⟨j0, o0, zz4 hb, by simp [lkO], h.symm⟩
def zVn (ks : List Nat) (B : Nat) (A : List Nat) : List (Nat × OB) → Bool
 | [] => true
 | (k, o) :: r => (bif o.isAcc then okh ks B A k else (okb ks B k && (Nat.blt k B || !zCq (zC3 ks (k - 1000)) A))) && zGa (okb ks B) (okh ks B A) o && zVn ks B A r
theorem zMm {ks A : List Nat} {B : Nat} : ∀ {os : List (Nat × OB)}, zVn ks B A os = true → ∀ {j o}, lkO os j = some o →
  (bif o.isAcc then okh ks B A j else (okb ks B j && (Nat.blt j B || !zCq (zC3 ks (j - 1000)) A))) = true ∧ zGa (okb ks B) (okh ks B A) o = true
 | [], _, _, _, h => by cases h
 | (k, o) :: r, hk, j, o', h => by
  simp only [zVn, zz3] at hk;simp only [lkO] at h;cases hb : Nat.beq k j
  ·rw [hb] at h; exact zMm hk.2 h
  ·rw [hb] at h
   have := zz4 hb;subst this;simp only [cond_true, zz1] at h;subst h;exact hk.1
theorem zMz : ∀ (ks : List Nat) (i n : Nat), i < ks.length → ks.Nodup → zK2 ks (zC3 ks i) n = n + i
 | [], i, n, h, _ => absurd h (Nat.not_lt_zero i)
 | k :: r, 0, n, _, _ => by simp [zC3, zK2]
 | k :: r, i + 1, n, h, hn => by
  have hi : i < r.length := by simpa using h
  have hm : zC3 r i ∈ r := by
   have : ∀ (r : List Nat) i, i < r.length → zC3 r i ∈ r := by
    intro r
    induction r with
    | nil => intro i h; exact absurd h (Nat.not_lt_zero i)
    | cons a r ih => intro i h; cases i with
     | zero => simp [zC3]
     | succ i => simp only [zC3]; exact List.mem_cons_of_mem _ (ih i (by simpa using h))
   exact this r i hi
  have hne : k ≠ zC3 r i := fun hc => (List.nodup_cons.1 hn).1 (hc ▸ hm);simp only [zC3, zK2, zGu hne, cond_false];rw [zMz r i (n + 1) hi (List.nodup_cons.1 hn).2];omega
theorem zM1 : ∀ (ks : List Nat) (i : Nat), i < ks.length → ks[i]? = some (zC3 ks i)
 | [], i, h => absurd h (Nat.not_lt_zero i)
 | k :: r, 0, _ => rfl
 | k :: r, i + 1, h => by simp only [zC3, List.getElem?_cons_succ]; exact zM1 r i (by simpa using h)
theorem zM0 : ∀ (ks : List Nat) (k n : Nat), k ∈ ks → n ≤ zK2 ks k n ∧ zK2 ks k n < n + ks.length ∧ zC3 ks (zK2 ks k n - n) = k
 | [], _, _, h => by cases h
 | j :: r, k, n, h => by
  simp only [zK2];cases hb : Nat.beq j k
  ·have hk : k ∈ r := by
    rcases List.mem_cons.1 h with h | h
    ·exact absurd h.symm (zB2 hb)
    ·exact h
   obtain ⟨h1, h2, h3⟩ := zM0 r k (n + 1) hk;simp only [cond_false, List.length_cons];refine ⟨by omega, by omega, ?_⟩;rw [show zK2 r k (n + 1) - n = (zK2 r k (n + 1) - (n + 1)) + 1 by omega];exact h3
  ·simp only [cond_true, List.length_cons, Nat.sub_self, zC3]
   exact ⟨Nat.le_refl _, by omega, zz4 hb⟩
def Nm.back (e e' : Nm) (ks : List Nat) (m B : Nat) (A : List Nat) : Nm :=
 ⟨fun k => if zCk m B k = true then e'.bs (k - m) else e.bs k, fun k => if zCk m B k = true then e'.hd (k - m) else if zCq k A = true then e'.hd (tau ks k) else e.hd k⟩
def Nm.inn (e : Nm) (ks : List Nat) : Nm := ⟨fun j => e.bs (zC3 ks (j - 1000)), fun j => e.hd (zC3 ks (j - 1000))⟩
theorem Nm.agr_back {e e' : Nm} {ks : List Nat} {m B : Nat} {A : List Nat} : e.agr (pbN m B) (phN m B A) (e.back e' ks m B A) :=
 ⟨fun k hk => by simp only [pbN, Bool.not_eq_true'] at hk; simp [Nm.back, hk], fun k hk => by simp only [phN, zz3, Bool.not_eq_true'] at hk; simp [Nm.back, hk.1, hk.2]⟩
theorem Nm.agr_via {e e' : Nm} {ks : List Nat} {m B : Nat} {A : List Nat} (hnd : ks.Nodup) (hks : ∀ k ∈ ks, zCk m B k = false) (hB : B ≤ 1000) (hfix : ∀ i, i < ks.length → e'.bs (1000 + i) = e.bs (zC3 ks i)) :
  e'.agr (okb ks B) (okh ks B A) ((e.back e' ks m B A).via (sgm ks m)) := by
 have hnew : ∀ k, k < B → zCk m B (m + k) = true := fun k hk => by simp [zCk]; exact hk
 have hgm : ∀ k, 1000 ≤ k → k < 1000 + ks.length → zC3 ks (k - 1000) ∈ ks := fun k h1 h2 => by
  have := zM1 ks (k - 1000) (by omega);exact List.mem_of_getElem? this
 refine ⟨fun k hk => ?_, fun k hk => ?_⟩
 ·simp only [okb, Bool.or_eq_true, zz3] at hk
  rcases hk with hk | ⟨h1, h2⟩
  ·have hk := zAm hk
   have : Nat.blt k 1000 = true := Nat.ble_eq_true_of_le (by omega);simp only [Nm.via, sgm, this, cond_true, Nm.back, hnew k hk, if_true, Nat.add_sub_cancel_left]
  ·have h1 := Nat.le_of_ble_eq_true h1
   have h2 := zAm h2
   have : Nat.blt k 1000 = false := by
    cases hb : Nat.blt k 1000
    ·rfl
    ·have := zAm hb; omega
   have hf := hfix (k - 1000) (by omega);rw [show 1000 + (k - 1000) = k by omega] at hf;have hmem := hks _ (hgm k h1 h2);simp only [Nm.via, sgm, this, cond_false, Nm.back, hmem, hf, Bool.false_eq_true, if_false]
 ·simp only [okh, Bool.or_eq_true, zz3] at hk
  rcases hk with hk | ⟨⟨h1, h2⟩, h3⟩
  ·have hk := zAm hk
   have : Nat.blt k 1000 = true := Nat.ble_eq_true_of_le (by omega);simp only [Nm.via, sgm, this, cond_true, Nm.back, hnew k hk, if_true, Nat.add_sub_cancel_left]
  ·have h1 := Nat.le_of_ble_eq_true h1
   have h2 := zAm h2
   have : Nat.blt k 1000 = false := by
    cases hb : Nat.blt k 1000
    ·rfl
    ·have := zAm hb; omega
   have hmem := hks _ (hgm k h1 h2);have hidx := zMz ks (k - 1000) 1000 (by omega) hnd;rw [show 1000 + (k - 1000) = k by omega] at hidx;simp only [Nm.via, sgm, this, cond_false, Nm.back, hmem, Bool.false_eq_true, if_false, h3, if_true, tau, hidx]
end Go.Sx
namespace Go.Sx
open Go.RowKit
structure yHi (s : St) (ks : List Nat) (m B : Nat) (A : List Nat) (os : List OB) (d : SD) (os' : List (Nat × OB)) : Prop where
 nd : ks.Nodup
 lo : m + B ≤ 700
 notnew : ∀ k ∈ ks, zCk m B k = false
 len : os.length = ks.length
 obj : ∀ (i : Nat) (o : OB), os[i]? = some o → ∃ o0, lkO s.ow (zC3 ks i) = some o0 ∧ o = zJo (tau ks) o0 ∧ zGa (zCq · ks) (zCq · ks) o0 = true
 side : (∀ k ∈ ks, k < 700) ∨ ∀ k ∈ A, 700 ≤ k
 okd : zDn (okb ks B) (okh ks B A) d = true
 oko : zVn ks B A os' = true
 kind : ∀ (i : Nat) (o o' : OB), os[i]? = some o → lkO os' (1000 + i) = some o' → o'.isAcc = o.isAcc
theorem zEt.via {F Fc : List Nat} {w0 w w' : World} (h1 : zEt F w0 w) (h2 : zEt Fc w w') (hF : ∀ b, b ∈ Fc → w0.heap.size ≤ b ∨ b ∈ F) : zEt F w0 w' :=
 ⟨h2.os.trans h1.os, h2.tape.trans h1.tape, h2.output.trans h1.output, Nat.le_trans h1.size h2.size, Nat.le_trans h1.dr h2.dr, fun b hb hn => by
  rw [h2.block b (Nat.lt_of_lt_of_le hb h1.size) (fun hc => ?_)]
  ·exact h1.block b hb hn
  ·rcases hF b hc with h | h
   ·omega
   ·exact hn h⟩
section
variable {P : Program} {F : List Nat} {w0 : Base} {s : St} {h : Hp} {e : Nm} {a : Act} {w : World}
theorem zZ0 {ks : List Nat} {B k : Nat} (h : okb ks B k = true) : k < B ∨ (1000 ≤ k ∧ k - 1000 < ks.length) := by
 simp only [okb, Bool.or_eq_true, zz3] at h
 rcases h with h | h
 ·exact .inl (zAm h)
 ·have h1 := Nat.le_of_ble_eq_true h.1
  have h2 := zAm h.2;exact .inr ⟨h1, by omega⟩
theorem zZz {ks A : List Nat} {B k : Nat} (h : okh ks B A k = true) : k < B ∨ (1000 ≤ k ∧ k - 1000 < ks.length ∧ zCq (zC3 ks (k - 1000)) A = true) := by
 simp only [okh, Bool.or_eq_true, zz3] at h
 rcases h with h | h
 ·exact .inl (zAm h)
 ·have h1 := Nat.le_of_ble_eq_true h.1.1
  have h2 := zAm h.1.2;exact .inr ⟨h1, by omega, h.2⟩
theorem zEg {ks : List Nat} {i : Nat} (h : i < ks.length) : zC3 ks i ∈ ks := List.mem_of_getElem? (zM1 ks i h)
theorem Den.backM (D : Den F w0 s h e a w) {ks : List Nat} {m B : Nat} {A : List Nat} {os : List OB} {d : SD} {os' : List (Nat × OB)} (C : yHi s ks m B A os d os') {s' : St} {dst : Option Nat} (ht : ∀ t, dst = some t → t < s.n)
  (hn : s'.n = s.n) (hsl : ∀ i, dst ≠ some i → lkp s'.sl i = .any ∨ (lkp s'.sl i = lkp s.sl i ∧ zDn (pbN m B) (phN m B A) (lkp s.sl i) = true))
  (hst : ∀ t, dst = some t → lkp s'.sl t = ren (sgm ks m) d)
  (how : ∀ k o, lkO s'.ow k = some o → (∃ j o', sgm ks m j = k ∧ lkO os' j = some o' ∧ o = zJo (sgm ks m) o') ∨
   (k ∉ ks ∧ zCk m B k = false ∧ ∃ o0, lkO s.ow k = some o0 ∧ OLe o0 o ∧ zGa (pbN m B) (phN m B A) o = true))
  (hA : ∀ k, zCq k A = true → k ∈ ks)
  {en : Ending} {w' : World} (hp : zA8 (zC1 (e.inn ks) 1000 os) ⟨w, h, zIg (e.inn ks) os, D.gh⟩ d os' en w') : ∃ v h' e'', en = .returned v ∧ Den F w0 s' h' e'' (a.put dst v) w' := by
 obtain ⟨v, h', e', rfl, g1, g2, g3, g4, g5, g6, g7⟩ := hp
 simp only at g1 g3 g4 g5
 have hfix : ∀ i, i < ks.length → e'.bs (1000 + i) = e.bs (zC3 ks i) := fun i hi => by
  refine g5 i _ ?_;simp only [zIg, List.getElem?_map]
  have : (List.range os.length)[i]? = some i := by
   rw [List.getElem?_range (by rw [C.len]; exact hi)]
  rw [this];simp [Nm.inn]
 have hblk : ∀ b, b ∈ zC1 (e.inn ks) 1000 os → ∃ i o0, i < ks.length ∧ lkO s.ow (zC3 ks i) = some o0 ∧ o0.blk e (zC3 ks i) = some b := fun b hb => by
  obtain ⟨i, o, h1, h2⟩ := zDk.1 hb;obtain ⟨o0, k1, rfl, k3⟩ := C.obj i o h1;have hi : i < ks.length := by have := (List.getElem?_eq_some_iff.1 h1).1; rw [C.len] at this; exact this
  refine ⟨i, o0, hi, k1, ?_⟩;rw [← h2];exact (yE5 o0 (by simp [Nm.inn]) (by simp [Nm.inn])).symm
 have ag1 := Nm.agr_back (e := e) (e' := e') (ks := ks) (m := m) (B := B) (A := A)
 have ag2 := Nm.agr_via (e := e) (e' := e') (A := A) C.nd C.notnew (by have := C.lo; omega) hfix
 have hself : ∀ (k : Nat) (o : OB), zCk m B k = false → k ∉ ks → (bif o.isAcc then phN m B A k else pbN m B k) = true := fun k o h1 h2 => by
  have : zCq k A = false := by
   cases hm : zCq k A
   ·rfl
   ·exact absurd (hA k hm) h2
  cases o.isAcc <;> simp [phN, pbN, h1, this]
 have hkey : ∀ (j : Nat) (o' : OB), lkO os' j = some o' → (bif o'.isAcc then okh ks B A j else okb ks B j) = true := fun j o' hj => by
  have := (zMm C.oko hj).1;cases hia : o'.isAcc
  ·rw [hia] at this; simp only [cond_false, zz3] at this ⊢; exact this.1
  ·rw [hia] at this; simpa using this
 have hbk : ∀ (j : Nat) (o' : OB), lkO os' j = some o' → (zJo (sgm ks m) o').blk (e.back e' ks m B A) (sgm ks m j) = o'.blk e' j := fun j o' hj => by
  rw [zQh]; exact zKv ag2 o' (hkey j o' hj)
 have hold : ∀ (k : Nat) (o : OB), lkO s.ow k = some o → ∀ b, o.blk e k = some b → b < w.heap.size := fun k o ho b hb => zD9 (D.own k o ho) hb
 have hnotin : ∀ (k : Nat) (o0 : OB) (b : Nat), k ∉ ks → lkO s.ow k = some o0 → o0.blk e k = some b → b ∉ zC1 (e.inn ks) 1000 os := fun k o0 b hk ho hb hc => by
  obtain ⟨i, o1, hi, h1, h2⟩ := hblk b hc;exact D.apart k (zC3 ks i) o0 o1 b (fun hc => hk (hc ▸ zEg hi)) ho h1 hb h2
 refine ⟨v, h', e.back e' ks m B A, rfl, by have := D.defers; cases dst <;> exact this, by have := D.size; cases dst <;> simp [Act.put, this, hn], fun i => ?_, fun k o hk => ?_, fun k o b hk hb => ?_, fun k k' o o' b hne hk hk' hb => ?_, g2, ?_, D.le.trans g1, fun b hb => (g4 b (Nat.lt_of_lt_of_le hb D.keeps.size)).trans (D.neww b hb), fun i b hib => ?_⟩
 ·by_cases hit : dst = some i
  ·subst hit
   simp only [Act.put];rw [zJx _ _ _ _ (by rw [D.size]; exact ht i rfl)];simp only [if_true, hst i rfl];exact (zCx d v).2 (zEo ag2 d v C.okd g6)
  ·have hput : (a.put dst v).tmps.getD i undef = a.tmps.getD i undef := by
    cases dst with
    | none => rfl
    | some t =>
     simp only [Act.put];rw [zJx _ _ _ _ (by rw [D.size]; exact ht t rfl)];have : ¬ i = t := fun hc => hit (by rw [hc]);simp [this]
   rw [hput]
   rcases hsl i hit with h1 | ⟨h1, h2⟩
   ·rw [h1]; simp [rep]
   ·rw [h1]; exact zEo ag1 _ _ h2 (zBa g1 _ e _ (D.slot i))
 ·rcases how k o hk with ⟨j, o', rfl, hj, rfl⟩ | ⟨h1, h2, o0, h3, h4, h5⟩
  ·exact (zH7 o').2 (zGi ag2 o' (hkey j o' hj) (zMm C.oko hj).2 (g7.own j o' hj))
  ·refine zGi ag1 o (hself k o h2 h1) h5 (h4.ok ?_)
   refine zDi g1 (fun b hb => ?_) (D.own k o0 h3);exact g3.block b (hold k o0 h3 b hb) (hnotin k o0 b h1 h3 hb)
 ·rcases how k o hk with ⟨j, o', rfl, hj, rfl⟩ | ⟨h1, h2, o0, h3, h4, h5⟩
  ·rw [hbk j o' hj] at hb
   obtain ⟨q1, q2⟩ := g7.ownb j o' b hj hb;refine ⟨?_, q2⟩
   rcases q1 with q1 | ⟨q1, q3⟩
   ·exact .inl (Nat.le_trans D.keeps.size q1)
   ·have hj2 := (zMm C.oko hj).1
    have h1000 : 1000 ≤ j := by
     have hlo := C.lo;have hj2' := hj2;cases hia0 : o'.isAcc
     ·rw [hia0] at hj2'
      simp only [cond_false, zz3] at hj2'
      rcases zZ0 hj2'.1 with hh | ⟨hh, _⟩
      ·omega
      ·exact hh
     ·rw [hia0] at hj2'
      simp only [cond_true] at hj2'
      rcases zZz hj2' with hh | ⟨hh, _⟩
      ·omega
      ·exact hh
    have hnl : ∀ x : Prop, ¬ (Nat.blt j B = true) := fun _ hc => by have := zAm hc; have := C.lo; omega
    have hsg : sgm ks m j = zC3 ks (j - 1000) := by
     have : Nat.blt j 1000 = false := by
      cases hb : Nat.blt j 1000
      ·rfl
      ·have := zAm hb; omega
     simp [sgm, this]
    rw [hsg];cases hia : o'.isAcc
    ·rw [hia] at hj2
     simp only [cond_false, zz3, Bool.or_eq_true, Bool.not_eq_true'] at hj2;obtain ⟨hj3, hj4⟩ := hj2
     rcases hj4 with hj4 | hj4
     ·exact absurd hj4 (hnl True)
     ·rcases zZ0 hj3 with hh | ⟨_, hi⟩
      ·exact absurd (Nat.ble_eq_true_of_le hh) (hnl True)
      ·have hb' : o'.blk e' j = some (e.bs (zC3 ks (j - 1000))) := by
        have hf := hfix (j - 1000) hi;rw [show 1000 + (j - 1000) = j by omega] at hf;rw [zSg hia, hf]
       rw [hb'] at hb;simp only [zz1] at hb;subst hb;have hi2 : ∃ o, os[j - 1000]? = some o := ⟨os[j - 1000]'(by rw [C.len]; exact hi), List.getElem?_eq_getElem _⟩;obtain ⟨o, ho⟩ := hi2;obtain ⟨i, o1, hi1, h1, h2⟩ := hblk _ q1;obtain ⟨q4, _⟩ := D.ownb _ _ _ h1 h2
       rcases C.side with hs | hs
       ·rcases q4 with q4 | ⟨_, q4⟩
        ·exact .inl q4
        ·have := hs _ (zEg hi1); omega
       ·
        obtain ⟨o2, k1, k2, _⟩ := C.obj (j - 1000) o ho;have hkd := C.kind (j - 1000) o o' ho (by rw [show 1000 + (j - 1000) = j by omega]; exact hj);cases hia2 : o2.isAcc
        ·have hb2 : o2.blk e (zC3 ks (j - 1000)) = some (e.bs (zC3 ks (j - 1000))) := by
          exact zSg hia2 _ _
         obtain ⟨q5, _⟩ := D.ownb _ _ _ k1 hb2
         rcases q5 with q5 | ⟨q5, q6⟩
         ·exact .inl q5
         ·exact .inr ⟨q5, q6⟩
        ·rw [hia, k2] at hkd
         rw [zWa, hia2] at hkd;cases hkd
    ·rw [hia] at hj2
     simp only [cond_true] at hj2
     rcases zZz hj2 with hh | ⟨_, hi, hm⟩
     ·exact absurd (Nat.ble_eq_true_of_le hh) (hnl True)
     ·obtain ⟨i, o1, hi1, h1, h2⟩ := hblk _ q1
      obtain ⟨q4, _⟩ := D.ownb _ _ _ h1 h2
      rcases C.side with hs | hs
      ·rcases q4 with q4 | ⟨_, q4⟩
       ·exact .inl q4
       ·have := hs _ (zEg hi1); omega
      ·rcases q4 with q4 | ⟨q4, _⟩
       ·exact .inl q4
       ·exact .inr ⟨q4, hs _ (zCd.1 hm)⟩
  ·rw [h4.blk, zKv ag1 o0 (hself k o0 h2 h1)] at hb
   obtain ⟨q1, q2⟩ := D.ownb k o0 b h3 hb;exact ⟨q1, (g4 b (hold k o0 h3 b hb)).trans q2⟩
 ·have old : ∀ k o, (k ∉ ks ∧ zCk m B k = false ∧ ∃ o0, lkO s.ow k = some o0 ∧ OLe o0 o ∧ zGa (pbN m B) (phN m B A) o = true) → ∀ b, o.blk (e.back e' ks m B A) k = some b → ∃ o0, lkO s.ow k = some o0 ∧ o0.blk e k = some b ∧ b < w.heap.size ∧ b ∉ zC1 (e.inn ks) 1000 os := fun k o hx b hb => by
   obtain ⟨h1, h2, o0, h3, h4, h5⟩ := hx;rw [h4.blk, zKv ag1 o0 (hself k o0 h2 h1)] at hb;exact ⟨o0, h3, hb, hold k o0 h3 b hb, hnotin k o0 b h1 h3 hb⟩
  have new : ∀ j o', lkO os' j = some o' → ∀ b, o'.blk e' j = some b → w.heap.size ≤ b ∨ b ∈ zC1 (e.inn ks) 1000 os := fun j o' hj b hb => by
   rcases (g7.ownb j o' b hj hb).1 with q | q
   ·exact .inl q
   ·exact .inr q.1
  intro hc
  rcases how k o hk with ⟨j, o1, rfl, hj, rfl⟩ | hx
  ·rw [hbk j o1 hj] at hb
   rcases how k' o' hk' with ⟨j', o2, rfl, hj', rfl⟩ | hy
   ·rw [hbk j' o2 hj'] at hc
    exact g7.apart j j' o1 o2 b (fun hcc => hne (by rw [hcc])) hj hj' hb hc
   ·obtain ⟨o0, _, _, y3, y4⟩ := old k' o' hy b hc
    rcases new j o1 hj b hb with q | q
    ·omega
    ·exact y4 q
  ·obtain ⟨o0, x1, x2, x3, x4⟩ := old k o hx b hb
   rcases how k' o' hk' with ⟨j', o2, rfl, hj', rfl⟩ | hy
   ·rw [hbk j' o2 hj'] at hc
    rcases new j' o2 hj' b hc with q | q
    ·omega
    ·exact x4 q
   ·obtain ⟨o3, y1, y2, _, _⟩ := old k' o' hy b hc
    exact D.apart k k' o0 o3 b hne x1 y1 x2 y2
 ·refine D.keeps.via g3 fun b hb => ?_
  obtain ⟨i, o0, hi, h1, h2⟩ := hblk b hb
  rcases (D.ownb _ o0 b h1 h2).1 with q | q
  ·exact .inl q
  ·exact .inr q.1
 ·have hnn : zCk m B (1000 + i) = false := by
   cases hb : zCk m B (1000 + i)
   ·rfl
   ·simp only [zCk, zz3] at hb
    have := zAm hb.2;have := C.lo;omega
  simp only [Nm.back, hnn, Bool.false_eq_true, if_false];exact D.fix i b hib
end
end Go.Sx
namespace Go.Sx
open Go.RowKit
def zPd (s : St) (ks : List Nat) : List Nat → Option (List OB)
 | [] => some []
 | k :: r => match lkO s.ow k, zPd s ks r with
  | some o, some l => bif zGa (fun x => zCq x ks) (fun x => zCq x ks) o then some (zJo (tau ks) o :: l) else none
  | _, _ => none
def zBt (s : St) (os' : List (Nat × OB)) : Nat → List Nat → List Nat
 | _, [] => []
 | i, k :: r => match lkO s.ow k, lkO os' i with
  | some (.acc ..), some _ => k :: zBt s os' (i + 1) r
  | _, _ => zBt s os' (i + 1) r
def zFr : List (Nat × OB) → Nat
 | [] => 0
 | (k, _) :: r => bif Nat.blt k 1000 && Nat.ble (zFr r) k then k + 1 else zFr r
def zLa (os' : List (Nat × OB)) : Nat → List OB → Bool
 | _, [] => true
 | i, o :: r => (match lkO os' i with
  | some o' => bif o.isAcc then o'.isAcc else !o'.isAcc
  | none => true) && zLa os' (i + 1) r
def nodupB : List Nat → Bool
 | [] => true
 | k :: r => !zCq k r && nodupB r
def allB (p : Nat → Bool) : List Nat → Bool
 | [] => true
 | k :: r => p k && allB p r
def zPs (pb ph : Nat → Bool) : List (Nat × SD) → List (Nat × SD)
 | [] => []
 | (i, d) :: r => (i, bif zDn pb ph d then d else .any) :: zPs pb ph r
def yBp (pb ph : Nat → Bool) : List SD → List SD
 | [] => []
 | d :: r => (bif zDn pb ph d then d else .any) :: yBp pb ph r
def zS2 (pb ph : Nat → Bool) (ks : List Nat) (m B : Nat) : List (Nat × OB) → List (Nat × OB)
 | [] => []
 | (k, o) :: r => bif zCq k ks || zCk m B k then zS2 pb ph ks m B r else (k, match o with
  | .var l => .var (yBp pb ph l)
  | o => o) :: zS2 pb ph ks m B r
def zEa (pb ph : Nat → Bool) : List (Nat × OB) → Bool
 | [] => true
 | (_, .mp _ l) :: r => zQk pb ph l && zEa pb ph r
 | _ :: r => zEa pb ph r
def zJa (s : St) (t : Nat) (ks : List Nat) (os : List OB) (d : SD) (os' : List (Nat × OB)) : Option St :=
 bif Nat.blt t s.n && nodupB ks && Nat.ble (s.nx + zFr os') 700 && allB (fun k => !zCk s.nx (zFr os') k) ks && (allB (fun k => Nat.blt k 700) ks || allB (fun k => Nat.ble 700 k) (zBt s os' 1000 ks)) &&
  zDn (okb ks (zFr os')) (okh ks (zFr os') (zBt s os' 1000 ks)) d && zVn ks (zFr os') (zBt s os' 1000 ks) os' && zLa os' 1000 os && zEa (pbN s.nx (zFr os')) (phN s.nx (zFr os') (zBt s os' 1000 ks)) s.ow then
  some ⟨s.n, s.nx + zFr os', upd (zPs (pbN s.nx (zFr os')) (phN s.nx (zFr os') (zBt s os' 1000 ks)) s.sl) t (ren (sgm ks s.nx) d),
   zF2 (sgm ks s.nx) os' ++ zS2 (pbN s.nx (zFr os')) (phN s.nx (zFr os') (zBt s os' 1000 ks)) ks s.nx (zFr os') s.ow⟩
 else none
theorem zE0 : ∀ {l : List Nat}, nodupB l = true → l.Nodup
 | [], _ => List.nodup_nil
 | k :: r, h => by
  simp only [nodupB, zz3, Bool.not_eq_true'] at h;refine List.nodup_cons.2 ⟨fun hc => ?_, zE0 h.2⟩;have := zCd.2 hc;rw [h.1] at this;cases this
theorem zGb {p : Nat → Bool} : ∀ {l : List Nat}, allB p l = true → ∀ k ∈ l, p k = true
 | [], _, _, h => by cases h
 | j :: r, hp, k, h => by
  simp only [allB, zz3] at hp
  rcases List.mem_cons.1 h with rfl | h
  ·exact hp.1
  ·exact zGb hp.2 k h
theorem zGk (pb ph : Nat → Bool) : ∀ (l : List (Nat × SD)) (t : Nat), lkp (zPs pb ph l) t = bif zDn pb ph (lkp l t) then lkp l t else .any
 | [], t => rfl
 | (i, d) :: r, t => by
  simp only [zPs, lkp];cases Nat.beq i t
  ·exact zGk pb ph r t
  ·rfl
theorem zVd {h : Hp} {e : Nm} (pb ph : Nat → Bool) : ∀ (l : List SD) (vs : List Value), repC h l e vs → repC h (yBp pb ph l) e vs
 | [], _, x => x
 | d :: r, vs, x => by
  simp only [yBp, repC] at x ⊢;obtain ⟨v, vs', h1, h2, h3, h4⟩ := x;refine ⟨v, vs', h1, h2, ?_, zVd pb ph r vs' h4⟩;cases zDn pb ph d
  ·simp [rep]
  ·exact h3
theorem zQ7 (pb ph : Nat → Bool) : ∀ (l : List SD), zC6 pb ph (yBp pb ph l) = true
 | [] => rfl
 | d :: r => by
  simp only [yBp, zC6, zQ7 pb ph r, Bool.and_true];cases h : zDn pb ph d
  ·rfl
  ·exact h
theorem zGm {pb ph : Nat → Bool} {ks : List Nat} {m B : Nat} : ∀ {l : List (Nat × OB)}, zEa pb ph l = true → ∀ {k : Nat} {o : OB}, lkO (zS2 pb ph ks m B l) k = some o →
  k ∉ ks ∧ zCk m B k = false ∧ ∃ o0, lkO l k = some o0 ∧ OLe o0 o ∧ zGa pb ph o = true
 | [], _, _, _, h => by cases h
 | (j, o0) :: r, hm, k, o, h => by
  have hm2 : zEa pb ph r = true := by
   cases o0 <;> simp only [zEa, zz3] at hm <;> first | exact hm | exact hm.2
  simp only [zS2] at h;cases hb : (zCq j ks || zCk m B j)
  ·rw [hb] at h
   simp only [cond_false, lkO] at h;cases hj : Nat.beq j k
   ·rw [hj] at h
    obtain ⟨h1, h2, o1, h3, h4⟩ := zGm hm2 h;exact ⟨h1, h2, o1, by simp only [lkO, hj, cond_false, h3], h4⟩
   ·rw [hj] at h
    have := zz4 hj;subst this;simp only [cond_true, zz1] at h;simp only [Bool.or_eq_false_iff] at hb
    have hnm : j ∉ ks := fun hc => by
     have := zCd.2 hc;rw [hb.1] at this;cases this
    refine ⟨hnm, hb.2, o0, by simp only [lkO, Nat.beq_refl, cond_true], ?_⟩;subst h;cases o0 with
    | var l => exact ⟨fun h e vs x => zVd pb ph l vs x, zQ7 pb ph l⟩
    | acc T es n f => exact ⟨OLe.refl _, rfl⟩
    | mp kd l =>
     simp only [zEa, zz3] at hm;exact ⟨OLe.refl _, hm.1⟩
  ·rw [hb] at h
   simp only [cond_true] at h;obtain ⟨h1, h2, o1, h3, h4⟩ := zGm hm2 h
   have hj : Nat.beq j k = false := zGu fun hc => by
    subst hc;simp only [Bool.or_eq_true] at hb
    rcases hb with hb | hb
    ·exact h1 (zCd.1 hb)
    ·rw [h2] at hb; cases hb
   exact ⟨h1, h2, o1, by simp only [lkO, hj, cond_false, h3], h4⟩
theorem zIw : ∀ (a b : List (Nat × OB)) (k : Nat), lkO (a ++ b) k = match lkO a k with
  | some o => some o
  | none => lkO b k
 | [], b, k => rfl
 | (j, o) :: r, b, k => by
  simp only [List.cons_append, lkO];cases Nat.beq j k
  ·exact zIw r b k
  ·rfl
theorem zFb {s : St} {ks : List Nat} : ∀ {l : List Nat} {os : List OB}, zPd s ks l = some os → os.length = l.length ∧ ∀ (i : Nat) (o : OB), os[i]? = some o → ∃ o0, lkO s.ow (zC3 l i) = some o0 ∧ o = zJo (tau ks) o0 ∧ zGa (fun x => zCq x ks) (fun x => zCq x ks) o0 = true
 | [], os, h => by simp only [zPd, zz1] at h; subst h; exact ⟨rfl, fun i o h => by simp at h⟩
 | k :: r, os, h => by
  simp only [zPd] at h;split at h
  ·rename_i o l h1 h2
   cases hb : zGa (fun x => zCq x ks) (fun x => zCq x ks) o
   ·rw [hb] at h; cases h
   ·rw [hb] at h
    simp only [cond_true, zz1] at h;subst h;obtain ⟨k1, k2⟩ := zFb h2;refine ⟨by simp [k1], fun i o' hi => ?_⟩;cases i with
    | zero => simp only [List.getElem?_cons_zero, zz1] at hi; exact ⟨o, h1, hi.symm, hb⟩
    | succ i => exact k2 i o' (by simpa using hi)
  ·cases h
theorem zFm {s : St} {os' : List (Nat × OB)} : ∀ {ks : List Nat} {i k : Nat}, zCq k (zBt s os' i ks) = true → k ∈ ks
 | [], _, _, h => by cases h
 | j :: r, i, k, h => by
  simp only [zBt] at h;split at h
  ·simp only [zCq, Bool.or_eq_true] at h
   rcases h with h | h
   ·have := zz4 h; subst this; exact List.mem_cons_self
   ·exact List.mem_cons_of_mem _ (zFm h)
  ·exact List.mem_cons_of_mem _ (zFm h)
theorem zJv {os' : List (Nat × OB)} : ∀ {os : List OB} {n : Nat}, zLa os' n os = true → ∀ (i : Nat) (o o' : OB), os[i]? = some o → lkO os' (n + i) = some o' → o'.isAcc = o.isAcc
 | [], _, _, i, o, _, h, _ => by simp at h
 | x :: r, n, hk, i, o, o', h, h' => by
  simp only [zLa, zz3] at hk;cases i with
  | zero =>
   simp only [List.getElem?_cons_zero, zz1] at h;subst h;rw [Nat.add_zero] at h';rw [h'] at hk;cases hx : x.isAcc <;> rw [hx] at hk <;> simpa using hk.1
  | succ i => exact zJv hk.2 i o o' (by simpa using h) (by rw [show n + 1 + i = n + (i + 1) by omega]; exact h')
section
variable {P : Program} {F : List Nat} {w0 : Base} {s : St} {h : Hp} {e : Nm} {a : Act} {w : World}
structure yC4 (s : St) (ks : List Nat) (ds0 ds : List SD) (os : List OB) : Prop where
 nd : ks.Nodup
 arg : zC6 (fun x => zCq x ks) (fun x => zCq x ks) ds0 = true
 ds : ds = zI7 (tau ks) ds0
 len : os.length = ks.length
 obj : ∀ (i : Nat) (o : OB), os[i]? = some o → ∃ o0, lkO s.ow (zC3 ks i) = some o0 ∧ o = zJo (tau ks) o0 ∧ zGa (fun x => zCq x ks) (fun x => zCq x ks) o0 = true
theorem zWb {ks : List Nat} : e.agr (fun x => zCq x ks) (fun x => zCq x ks) ((e.inn ks).via (tau ks)) := by
 have key : ∀ k, zCq k ks = true → zC3 ks (tau ks k - 1000) = k := fun k hk => (zM0 ks k 1000 (zCd.1 hk)).2.2
 exact ⟨fun k hk => by simp [Nm.via, Nm.inn, key k hk], fun k hk => by simp [Nm.via, Nm.inn, key k hk]⟩
theorem Den.pass (D : Den F w0 s h e a w) {ks : List Nat} {ds0 ds : List SD} {os : List OB} (C : yC4 s ks ds0 ds os) {f : Nat} {R : List SD → List OB → SD → List (Nat × OB) → Prop} (hf : FnM P f R) {d : SD} {os' : List (Nat × OB)} (hR : R ds os d os')
  {vs : List Value} (hv : repT h ds0 e vs) : Calls P f vs.toArray w (zA8 (zC1 (e.inn ks) 1000 os) ⟨w, h, zIg (e.inn ks) os, D.gh⟩ d os') := by
 have hag := zWb (e := e) (ks := ks)
 have hi : ∀ {i : Nat} {o : OB}, os[i]? = some o → i < ks.length := fun {i o} ho => by have := (List.getElem?_eq_some_iff.1 ho).1; rw [C.len] at this; exact this
 have hidx : ∀ i, i < ks.length → tau ks (zC3 ks i) = 1000 + i := fun i hi => zMz ks i 1000 hi C.nd
 have hb : ∀ {i : Nat} {o : OB} {b : Nat}, os[i]? = some o → o.blk (e.inn ks) (1000 + i) = some b → ∃ o0, lkO s.ow (zC3 ks i) = some o0 ∧ o0.blk e (zC3 ks i) = some b := fun {i o b} ho hb => by
  obtain ⟨o0, h1, rfl, h3⟩ := C.obj i o ho;refine ⟨o0, h1, ?_⟩;cases o0 <;> simpa [zJo, OB.blk, Nm.inn] using hb
 refine hf.ok ds os d os' hR h (e.inn ks) w vs D.gh D.sub ?_ (fun i o ho => ?_) (fun b hbb => ?_) fun i j o o' b hij ho ho' hbl => ?_
 ·rw [C.ds]
  exact (zDb ds0 vs).2 (zGf hag ds0 vs C.arg hv)
 ·obtain ⟨o0, h1, rfl, h3⟩ := C.obj i o ho
  rw [← hidx i (hi ho)];refine (zH7 o0).2 (zGi hag o0 ?_ h3 (D.own _ o0 h1));have := zCd.2 (zEg (hi ho));cases o0.isAcc
  ·exact this
  ·exact this
 ·obtain ⟨i, o, h1, h2⟩ := zDk.1 hbb
  obtain ⟨o0, h3, h4⟩ := hb h1 h2;exact (D.ownb _ o0 b h3 h4).2
 ·obtain ⟨o0, h3, h4⟩ := hb ho hbl
  intro hc;obtain ⟨o1, h5, h6⟩ := hb ho' hc;refine D.apart _ _ o0 o1 b (fun hc => hij ?_) h3 h5 h4 h6;have h7 := hidx i (hi ho);have h8 := hidx j (hi ho');rw [hc, h8] at h7;omega
theorem zS3 {ks : List Nat} {ds0 ds : List SD} {os : List OB} (hnd : nodupB ks = true) (ha : zI7 (tau ks) ds0 = ds) (hal : zC6 (fun x => zCq x ks) (fun x => zCq x ks) ds0 = true) (ho : zPd s ks ks = some os) : yC4 s ks ds0 ds os :=
 ⟨zE0 hnd, hal, ha.symm, (zFb ho).1, (zFb ho).2⟩
theorem Den.afterM (D : Den F w0 s h e a w) {ks : List Nat} {t : Nat} {os : List OB} {d : SD} {os' : List (Nat × OB)} {s' : St} (ho : zPd s ks ks = some os) (hs : zJa s t ks os d os' = some s')
  {en : Ending} {w' : World} (hp : zA8 (zC1 (e.inn ks) 1000 os) ⟨w, h, zIg (e.inn ks) os, D.gh⟩ d os' en w') : ∃ v h' e'', en = .returned v ∧ Den F w0 s' h' e'' (a.put (some t) v) w' := by
 unfold zJa at hs
 generalize hA : zBt s os' 1000 ks = A at hs
 generalize hB : zFr os' = B at hs
 generalize hcb : (Nat.blt t s.n && nodupB ks && Nat.ble (s.nx + B) 700 && allB (fun k => !zCk s.nx B k) ks && (allB (fun k => Nat.blt k 700) ks || allB (fun k => Nat.ble 700 k) A) &&
  zDn (okb ks B) (okh ks B A) d && zVn ks B A os' && zLa os' 1000 os && zEa (pbN s.nx B) (phN s.nx B A) s.ow) = cb at hs
 cases cb
 ·cases hs
 simp only [cond_true, zz1] at hs
 simp only [zz3] at hcb
 obtain ⟨⟨⟨⟨⟨⟨⟨⟨c1, c2⟩, c3⟩, c4⟩, c5⟩, c6⟩, c7⟩, c8⟩, c9⟩ := hcb
 subst hs
 refine D.backM (s' := ⟨s.n, s.nx + B, upd (zPs (pbN s.nx B) (phN s.nx B A) s.sl) t (ren (sgm ks s.nx) d), zF2 (sgm ks s.nx) os' ++ zS2 (pbN s.nx B) (phN s.nx B A) ks s.nx B s.ow⟩) (ks := ks) (m := s.nx) (B := B) (A := A) (os := os) (d := d) (os' := os') ⟨zE0 c2, Nat.le_of_ble_eq_true c3, fun k hk => by have := zGb c4 k hk; simpa only [Bool.not_eq_true'] using this, (zFb ho).1, (zFb ho).2, ?_, c6, c7, fun i o o' => zJv c8 i o o'⟩
  (dst := some t) (fun t' h => by cases h; exact zAm c1) rfl (fun i hi => ?_) (fun t' h => ?_) (fun k o hk => ?_) (fun k hk => zFm (by rw [hA]; exact hk)) hp
 ·simp only [Bool.or_eq_true] at c5
  rcases c5 with c5 | c5
  ·exact .inl fun k hk => zAm (zGb c5 k hk)
  ·exact .inr fun k hk => Nat.le_of_ble_eq_true (zGb c5 k hk)
 ·have hi : ¬ i = t := fun hc => hi (by rw [hc])
  simp only [zCg, hi, if_false, zGk];cases hx : zDn (pbN s.nx B) (phN s.nx B A) (lkp s.sl i)
  ·exact .inl rfl
  ·exact .inr ⟨rfl, rfl⟩
 ·cases h; simp only [zCg, if_true]
 ·simp only [zIw] at hk
  split at hk
  ·rename_i o1 h1
   simp only [zz1] at hk;subst hk;exact .inl (zE1 h1)
  ·exact .inr (zGm c9 hk)
variable {Q : Exit → Act → World → Prop} {ops : Array Oper} {rest : List Oper}
theorem zI3 {f : Nat} (hf : ∀ args w, (callFunc f args).run P w = .ok (.enter f args) w) {a : Act} {w : World} {t : Option Nat} {args : Array Operand} {tys : Array Nat} {ty : Nat} {pos : String} {af : Array Edge} {g : Option (Nat × Bool)} :
  (execOp a.eval ⟨t, .call ⟨.value (.func f), args, tys⟩, ty, pos, af, g⟩).run P w = .ok (.enter f (args.toList.map a.eval).toArray) w := by
 have : (args.toList.map a.eval).toArray = args.map a.eval := by apply Array.ext'; simp
 rw [this]
 simp [execOp, resolve, Deferred.ofValue, Act.eval, invoke, hf]
theorem zW {f t : Nat} {args : Array Operand} {tys : Array Nat} {ty : Nat} {pos : String} {af : Array Edge} {R : List SD → List OB → SD → List (Nat × OB) → Prop} (ks : List Nat) {ds : List SD} {os : List OB} {d : SD} {os' : List (Nat × OB)} {s' : St} (hf : FnM P f R)
  (hnd : nodupB ks = true) (ha : zI7 (tau ks) (args.toList.map (unG s)) = ds) (hal : zC6 (fun x => zCq x ks) (fun x => zCq x ks) (args.toList.map (unG s)) = true) (ho : zPd s ks ks = some os) (hg : zAn (gCs s args.toList [])) (hR : R ds os d os')
  (hs : zJa s t ks os d os' = some s') (hn : zAi P F w0 ops Q rest s') : zAi P F w0 ops Q (⟨some t, .call ⟨.value (.func f), args, tys⟩, ty, pos, af, none⟩ :: rest) s := fun h e a w D => by
 refine zAf rfl fun K hK => ?_
 unfold Oper.wp
 rw [zI3 hf.call]
 refine (D.pass (zS3 hnd ha hal ho) hf hR (zA1 D (zAt hg).1 fun _ hx => hx)).mono fun en w' hq => ?_
 obtain ⟨v, h', e', rfl, D'⟩ := D.afterM ho hs hq
 exact hK _ _ (hn _ _ _ _ D')
end
end Go.Sx
