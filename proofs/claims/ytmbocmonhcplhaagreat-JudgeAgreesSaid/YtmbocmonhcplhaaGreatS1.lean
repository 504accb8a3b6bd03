/- Part of the proof that the laws of the judge return true for every input: SxA, SxDw, SxB, SxC, SxD, SxE, SxEb, SxF, SxG, SxH, SxI, SxHb, SxJ, SxK. -/
import Derived.Calls
import Derived.Orders
import Derived.Below
import Derived.Maps.AppendAt
import Derived.Laws.Cells
import Derived.Laws.Rows
import Derived.Deep.MidRow
import Derived.Attr
import Derived.KernelRfl
import Derived.Laws.StructEq
import Derived.Great.BuildSlice
import Derived.Laws.Tables
import Derived.Laws.Concat
import Derived.Laws.Pointers
import Derived.Laws.Cover3
import Derived.Tactics
import Derived.OwnWalk
import Derived.TacticsIn
import Derived.OrdersIn
import Derived.RangeFuncCalls
import Derived.LoopNIn
import Derived.Deep.LoopGhost
set_option linter.all false
namespace Go.Sx
theorem zz0 : True := True.intro
theorem zz1 {α : Type _} (a b : α) : (some a = some b) = (a = b) := Option.some.injEq a b
theorem zz2 {α : Type _} {l : List α} {i : Nat} {a : α} : l.getD i a = l[i]?.getD a := List.getD_eq_getElem?_getD
theorem zz3 (a b : Bool) : ((a && b) = true) = (a = true ∧ b = true) := Bool.and_eq_true a b
theorem zz4 {n m : Nat} (h : Nat.beq n m = true) : n = m := Nat.eq_of_beq_eq_true h
abbrev Hp := Nat → Option Obj
structure Nm where
 bs : Nat → Nat
 hd : Nat → Value
inductive MK where
 | i (n : Int)
 | s (b : ByteArray)
def MK.val : Option IntKind → MK → Value
 | some k, .i n => .int k n
 | none, .s b => .string b
 | _, _ => .nilIface
def MK.ok : Option IntKind → MK → Bool
 | some _, .i _ => true
 | none, .s _ => true
 | _, _ => false
structure yFo (kk : Option IntKind) (dom : MK → Bool) (es : Array MapEntry) (clock : Nat) : Prop where
 born : ∀ x ∈ es, x.born < clock
 nodup : (es.toList.map (·.born)).Nodup
 key : ∀ x ∈ es, ∃ q : MK, q.ok kk = true ∧ x.key = q.val kk ∧ dom q = true
 all : ∀ q : MK, dom q = true → q.ok kk = true ∧ ∃ x ∈ es, x.key = q.val kk
 apart : es.toList.Pairwise fun x y => x.key ≠ y.key
inductive SD where
 | any
 | int (k : IntKind) (n : Int)
 | bool (b : Bool)
 | str (s : ByteArray)
 | agg (l : List SD)
 | list (es n : Nat) (f : Nat → SD)
 | nils
 | fp (l : List SD)
 | nilp
 | loc (k off : Nat)
 | acc (k : Nat)
 | accH (k n : Nat)
 | aptr (k es i off : Nat)
 | accp (k es lo : Nat)
 | vsl (k off n cap : Nat)
 | bfn (fn : Fn) (l : List SD)
 | gd (c : Bool) (d : SD)
 | tup (l : List SD)
 | fn (f : Nat) (caps : List SD)
 | nilfn
 | iface (t : Nat) (d : SD)
 | nilif
 | omap (k : Nat)
 | nilmap
 | fmap (kk : Option IntKind) (n : Nat) (dom : MK → Bool) (f : MK → SD)
 | yld (l : Nat)
 | val (v : Value)
 | lng (n : Nat) (f : Nat → Int)
instance : Inhabited SD := ⟨.any⟩
def maxN : Nat := 68719476736
def maxL : Nat := 68719476736
theorem zOh {n : Nat} (h : n ≤ maxN) : n ≤ maxL := Nat.le_trans h (by simp [maxN, maxL])
def cut (cs : List Value) (o n : Nat) : List Value := (cs.drop o).take n
mutual
def rep (h : Hp) : SD → Nm → Value → Prop
 | .any, _, _ => True
 | .int k n, _, v => v = .int k n
 | .bool b, _, v => v = .bool b
 | .str s, _, v => v = .string s
 | .agg l, e, v => ∃ vs : List Value, v = .agg vs.toArray ∧ repC h l e vs
 | .list es n f, _, v => ∃ a cap, v = .slice a n cap ∧ n ≤ cap ∧ (cap ≤ maxLen ∧ n ≤ maxL) ∧ (0 < n → ∃ ad cs T fr, a = some ad ∧ ad.spot = none ∧
   h ad.block = some (.cells cs T fr) ∧ ∀ i, i < n → ∃ u, (∀ e, rep h (f i) e u) ∧ u.cells.toList = cut cs.toList (ad.off + i * es) es ∧ u.cells.size = es ∧ ∀ c ∈ u.cells, c.oneCell' = true)
 | .nils, _, v => v = .slice none 0 0
 | .fp l, _, v => ∃ ad cs T fr, v = .pointer (some ad) ∧ ad.spot = none ∧ h ad.block = some (.cells cs T fr) ∧ ∀ e, repC h l e (cut cs.toList ad.off l.length)
 | .nilp, _, v => v = .pointer none
 | .loc k off, e, v => v = .pointer (some ⟨e.bs k, off, none⟩)
 | .acc k, e, v => v = e.hd k ∧ ∃ a n c, v = .slice a n c
 | .accH k n, e, v => v = e.hd k ∧ ∃ a c, v = .slice a n c
 | .aptr k es i off, e, v => ∃ b n c, e.hd k = .slice (some ⟨b, 0, none⟩) n c ∧ i < n ∧ v = .pointer (some ⟨b, i * es + off, none⟩)
 | .accp k es lo, e, v => ∃ b n c, e.hd k = .slice (some ⟨b, 0, none⟩) n c ∧ lo ≤ n ∧ n ≤ c ∧ v = .slice (some (if c = lo then ⟨b, 0, none⟩ else ⟨b, lo * es, none⟩)) (n - lo) (c - lo)
 | .vsl k off n cap, e, v => v = .slice (some ⟨e.bs k, off, none⟩) n cap ∧ n ≤ cap ∧ cap ≤ maxLen ∧ n ≤ maxN
 | .bfn fn l, e, v => ∃ vs : List Value, v = .func fn vs.toArray #[] ∧ repT h l e vs
 | .gd c d, e, v => (c = true → rep h d e v) ∧ (c = false → v = undef)
 | .tup l, e, v => ∃ vs : List Value, v = .tuple vs.toArray ∧ repT h l e vs
 | .fn f caps, e, v => ∃ vs : List Value, v = .func (.func f) #[] vs.toArray ∧ repT h caps e vs
 | .nilfn, _, v => v = .nilFunc
 | .iface t d, e, v => ∃ u, v = .iface t u ∧ rep h d e u
 | .nilif, _, v => v = .nilIface
 | .omap k, e, v => v = .map (some (e.bs k))
 | .nilmap, _, v => v = .map none
 | .yld l, _, v => v = .func (.yield l) #[] #[]
 | .val x, _, v => v = x
 | .lng n f, _, v => ∃ a cap, v = .slice a n cap ∧ n ≤ cap ∧ (cap ≤ maxLen ∧ n ≤ 17592186044416) ∧ (0 < n → ∃ ad cs T fr, a = some ad ∧ ad.spot = none ∧ h ad.block = some (.cells cs T fr) ∧ ∀ i, i < n → cs.toList[ad.off + i]? = some (.int .i64 (f i)))
 | .fmap kk n dom f, _, v => ∃ b es clock, v = .map (some b) ∧ h b = some (.map es clock) ∧ es.size = n ∧ n ≤ maxN ∧ yFo kk dom es clock ∧ ∀ x, x ∈ es → ∀ q : MK, x.key = q.val kk → q.ok kk = true → ∀ e, rep h (f q) e x.val
def repC (h : Hp) : List SD → Nm → List Value → Prop
 | [], _, vs => vs = []
 | d :: r, e, vs => ∃ v vs', vs = v :: vs' ∧ v.oneCell' = true ∧ rep h d e v ∧ repC h r e vs'
def repT (h : Hp) : List SD → Nm → List Value → Prop
 | [], _, vs => vs = []
 | d :: r, e, vs => ∃ v vs', vs = v :: vs' ∧ rep h d e v ∧ repT h r e vs'
end
theorem zAq {h : Hp} {e : Nm} : ∀ {l : List SD} {vs : List Value}, repC h l e vs → vs.length = l.length
 | [], _, hr => by simp [repC] at hr; simp [hr]
 | d :: r, _, hr => by
  obtain ⟨v, vs', rfl, _, _, h2⟩ := (by simpa only [repC] using hr : ∃ v vs', _ = v :: vs' ∧ v.oneCell' = true ∧ rep h d e v ∧ repC h r e vs');simp [zAq h2]
def Sub (h : Hp) (w : World) : Prop := ∀ b o, h b = some o → w.heap[b]? = some o
def Le (h h' : Hp) : Prop := ∀ b o, h b = some o → h' b = some o
theorem Le.refl (h : Hp) : Le h h := fun _ _ x => x
theorem Le.trans {a b c : Hp} (x : Le a b) (y : Le b c) : Le a c := fun _ _ z => y _ _ (x _ _ z)
mutual
theorem zBa {h h' : Hp} (hl : Le h h') : ∀ (d : SD) (e : Nm) (v : Value), rep h d e v → rep h' d e v
 | .any, _, _, _ => by simp [rep]
 | .int .., _, _, x => by simpa [rep] using x
 | .bool .., _, _, x => by simpa [rep] using x
 | .str .., _, _, x => by simpa [rep] using x
 | .agg l, e, v, x => by
  simp only [rep] at x ⊢;obtain ⟨vs, h1, h2⟩ := x;exact ⟨vs, h1, zF1 hl l e vs h2⟩
 | .lng n f, e, v, x => by
  simp only [rep] at x ⊢
  obtain ⟨a, cap, h1, h2, h3, h4⟩ := x
  exact ⟨a, cap, h1, h2, h3, fun hn => let ⟨ad, cs, T, fr, g1, g2, g3, g4⟩ := h4 hn; ⟨ad, cs, T, fr, g1, g2, hl _ _ g3, g4⟩⟩
 | .list es n f, e, v, x => by
  simp only [rep] at x ⊢;obtain ⟨a, cap, h1, h2, h3, h4⟩ := x;refine ⟨a, cap, h1, h2, h3, fun hn => ?_⟩;obtain ⟨ad, cs, T, fr, g1, g2, g3, g4⟩ := h4 hn;refine ⟨ad, cs, T, fr, g1, g2, hl _ _ g3, fun i hi => ?_⟩;obtain ⟨u, u1, u2⟩ := g4 i hi;exact ⟨u, fun e => zBa hl (f i) e u (u1 e), u2⟩
 | .nils, _, _, x => by simpa [rep] using x
 | .fp l, _, _, x => by
  simp only [rep] at x ⊢;obtain ⟨ad, cs, T, fr, g1, g2, g3, g4⟩ := x;exact ⟨ad, cs, T, fr, g1, g2, hl _ _ g3, fun e => zF1 hl l e _ (g4 e)⟩
 | .nilp, _, _, x => by simpa [rep] using x
 | .loc .., _, _, x => by simpa [rep] using x
 | .acc .., _, _, x => by simpa [rep] using x
 | .accH .., _, _, x => by simpa [rep] using x
 | .aptr .., _, _, x => by simpa [rep] using x
 | .accp .., _, _, x => by simpa [rep] using x
 | .vsl .., _, _, x => by simpa [rep] using x
 | .bfn fn l, e, v, x => by
  simp only [rep] at x ⊢;obtain ⟨vs, h1, h2⟩ := x;exact ⟨vs, h1, zH1 hl l e vs h2⟩
 | .gd c d, e, v, x => by
  simp only [rep] at x ⊢;exact ⟨fun hc => zBa hl d e v (x.1 hc), x.2⟩
 | .tup l, e, v, x => by
  simp only [rep] at x ⊢;obtain ⟨vs, h1, h2⟩ := x;exact ⟨vs, h1, zH1 hl l e vs h2⟩
 | .fn f l, e, v, x => by
  simp only [rep] at x ⊢;obtain ⟨vs, h1, h2⟩ := x;exact ⟨vs, h1, zH1 hl l e vs h2⟩
 | .nilfn, _, _, x => by simpa [rep] using x
 | .iface t d, e, v, x => by
  simp only [rep] at x ⊢;obtain ⟨u, h1, h2⟩ := x;exact ⟨u, h1, zBa hl d e u h2⟩
 | .nilif, _, _, x => by simpa [rep] using x
 | .omap .., _, _, x => by simpa [rep] using x
 | .nilmap, _, _, x => by simpa [rep] using x
 | .yld .., _, _, x => by simpa [rep] using x
 | .val .., _, _, x => by simpa [rep] using x
 | .fmap kk n dom f, e, v, x => by
  simp only [rep] at x ⊢;obtain ⟨b, es, clock, h1, h2, h3, h4, h5, h6⟩ := x;exact ⟨b, es, clock, h1, hl _ _ h2, h3, h4, h5, fun x hx q hq hk e => zBa hl (f q) e _ (h6 x hx q hq hk e)⟩
theorem zF1 {h h' : Hp} (hl : Le h h') : ∀ (l : List SD) (e : Nm) (vs : List Value), repC h l e vs → repC h' l e vs
 | [], _, _, x => by simpa [repC] using x
 | d :: r, e, vs, x => by
  simp only [repC] at x ⊢;obtain ⟨v, vs', h1, h2, h3, h4⟩ := x;exact ⟨v, vs', h1, h2, zBa hl d e v h3, zF1 hl r e vs' h4⟩
theorem zH1 {h h' : Hp} (hl : Le h h') : ∀ (l : List SD) (e : Nm) (vs : List Value), repT h l e vs → repT h' l e vs
 | [], _, _, x => by simpa [repT] using x
 | d :: r, e, vs, x => by
  simp only [repT] at x ⊢;obtain ⟨v, vs', h1, h2, h3⟩ := x;exact ⟨v, vs', h1, zBa hl d e v h2, zH1 hl r e vs' h3⟩
end
mutual
def men (k : Nat) : SD → Bool
 | .agg l => zGy k l
 | .loc j _ => Nat.beq j k
 | .acc j => Nat.beq j k
 | .accH j _ => Nat.beq j k
 | .aptr j _ _ _ => Nat.beq j k
 | .accp j _ _ => Nat.beq j k
 | .vsl j _ _ _ => Nat.beq j k
 | .bfn _ l => zGy k l
 | .gd _ d => men k d
 | .tup l => zGy k l
 | .fn _ l => zGy k l
 | .iface _ d => men k d
 | .omap j => Nat.beq j k
 | _ => false
def zGy (k : Nat) : List SD → Bool
 | [] => false
 | d :: r => men k d || zGy k r
end
def Nm.but (e e' : Nm) (k : Nat) : Prop := ∀ j, j ≠ k → e'.bs j = e.bs j ∧ e'.hd j = e.hd j
theorem zB2 {j k : Nat} (h : Nat.beq j k = false) : j ≠ k := Nat.ne_of_beq_eq_false h
mutual
theorem zDo {h : Hp} {e e' : Nm} {k : Nat} (he : e.but e' k) : ∀ (d : SD) (v : Value), men k d = false → rep h d e v → rep h d e' v
 | .any, _, _, _ => by simp [rep]
 | .int .., _, _, x => by simpa [rep] using x
 | .bool .., _, _, x => by simpa [rep] using x
 | .str .., _, _, x => by simpa [rep] using x
 | .agg l, v, hm, x => by
  simp only [rep] at x ⊢;obtain ⟨vs, h1, h2⟩ := x;exact ⟨vs, h1, zJm he l vs (by simpa [men] using hm) h2⟩
 | .list .., _, _, x => by simpa [rep] using x
 | .lng .., _, _, x => by simpa [rep] using x
 | .nils, _, _, x => by simpa [rep] using x
 | .fp .., _, _, x => by simpa [rep] using x
 | .nilp, _, _, x => by simpa [rep] using x
 | .loc j o, v, hm, x => by
  have := (he j (zB2 (by simpa [men] using hm))).1;simpa [rep, this] using x
 | .acc j, v, hm, x => by
  have := (he j (zB2 (by simpa [men] using hm))).2;simpa [rep, this] using x
 | .accH j _, v, hm, x => by
  have := (he j (zB2 (by simpa [men] using hm))).2;simpa [rep, this] using x
 | .aptr j _ _ _, v, hm, x => by
  have := (he j (zB2 (by simpa [men] using hm))).2;simpa [rep, this] using x
 | .accp j _ _, v, hm, x => by
  have := (he j (zB2 (by simpa [men] using hm))).2;simpa [rep, this] using x
 | .vsl j _ _ _, v, hm, x => by
  have := (he j (zB2 (by simpa [men] using hm))).1;simpa [rep, this] using x
 | .bfn f l, v, hm, x => by
  simp only [rep] at x ⊢;obtain ⟨vs, h1, h2⟩ := x;exact ⟨vs, h1, zGe he l vs (by simpa [men] using hm) h2⟩
 | .gd c d, v, hm, x => by
  simp only [rep] at x ⊢;exact ⟨fun hc => zDo he d v (by simpa [men] using hm) (x.1 hc), x.2⟩
 | .tup l, v, hm, x => by
  simp only [rep] at x ⊢;obtain ⟨vs, h1, h2⟩ := x;exact ⟨vs, h1, zGe he l vs (by simpa [men] using hm) h2⟩
 | .fn f l, v, hm, x => by
  simp only [rep] at x ⊢;obtain ⟨vs, h1, h2⟩ := x;exact ⟨vs, h1, zGe he l vs (by simpa [men] using hm) h2⟩
 | .nilfn, _, _, x => by simpa [rep] using x
 | .iface t d, v, hm, x => by
  simp only [rep] at x ⊢;obtain ⟨u, h1, h2⟩ := x;exact ⟨u, h1, zDo he d u (by simpa [men] using hm) h2⟩
 | .nilif, _, _, x => by simpa [rep] using x
 | .omap j, v, hm, x => by
  have := (he j (zB2 (by simpa [men] using hm))).1;simpa [rep, this] using x
 | .nilmap, _, _, x => by simpa [rep] using x
 | .fmap .., _, _, x => by simpa only [rep] using x
 | .yld .., _, _, x => by simpa only [rep] using x
 | .val .., _, _, x => by simpa only [rep] using x
theorem zJm {h : Hp} {e e' : Nm} {k : Nat} (he : e.but e' k) : ∀ (l : List SD) (vs : List Value), zGy k l = false → repC h l e vs → repC h l e' vs
 | [], _, _, x => by simpa [repC] using x
 | d :: r, vs, hm, x => by
  simp only [repC] at x ⊢;simp only [zGy, Bool.or_eq_false_iff] at hm;obtain ⟨v, vs', h1, h2, h3, h4⟩ := x;exact ⟨v, vs', h1, h2, zDo he d v hm.1 h3, zJm he r vs' hm.2 h4⟩
theorem zGe {h : Hp} {e e' : Nm} {k : Nat} (he : e.but e' k) : ∀ (l : List SD) (vs : List Value), zGy k l = false → repT h l e vs → repT h l e' vs
 | [], _, _, x => by simpa [repT] using x
 | d :: r, vs, hm, x => by
  simp only [repT] at x ⊢;simp only [zGy, Bool.or_eq_false_iff] at hm;obtain ⟨v, vs', h1, h2, h3⟩ := x;exact ⟨v, vs', h1, zDo he d v hm.1 h2, zGe he r vs' hm.2 h3⟩
end
end Go.Sx
namespace Go.Sx
open Go.RowKit
theorem zW0 {α : Type} : ∀ (x : Ask α) (w : World), w.drawn ≤ (w.ask x).2.drawn
 | .done _, _ => Nat.le_refl _
 | .ask what range k, w => by
  simp only [World.ask];split
  ·exact zW0 (k 0) w
  ·exact Nat.le_trans (Nat.le_succ _) (zW0 (k _) { w with drawn := w.drawn + 1 })
theorem yDt (w : World) (c : Sys) : w.drawn ≤ (w.sys c).2.drawn := by
 have h := zW0 (Kernel.perform c w.os) w
 unfold World.sys
 split
 ·exact Nat.le_refl _
 ·rename_i heq
  rw [heq] at h;exact h
theorem yAt {p : Program} {w w' : World} {at_ : Addr} {u : TypeId} {k : Addr} {v : Value} {at' : Bool} {l : List Addr} (h : w.viewStore p at_ u k v at' = .ok (w', l)) : w'.drawn = w.drawn := by
 unfold World.viewStore at h
 simp only [bind, Except.bind, pure, Except.pure] at h
 repeat' split at h
 all_goals first | (cases h; done) | (simp only [Except.ok.injEq, Prod.mk.injEq] at h; rw [← h.1]; done) | skip
theorem yEs {p : Program} {w w' : World} {a : Addr} {v : Value} {at' : Bool} {l : List Addr} (h : w.farStore p a v at' = .ok (w', l)) : w'.drawn = w.drawn := by
 unfold World.farStore at h
 split at h
 ·split at h
  ·rename_i heq
   cases h;exact yAt heq
  ·cases h
 ·cases h
theorem zUx {P : Program} {α : Type} : ∀ (s : Sem α) (w : World) (a : α) (w' : World), s.run P w = .ok a w' → w.drawn ≤ w'.drawn := by
 intro s
 induction s with
 | pure a => intro w a' w' h; simp only [Sem.run, Result.ok.injEq] at h; rw [h.2]; exact Nat.le_refl _
 | load m a k ih =>
  intro w a' w' h;simp only [Sem.run] at h;split at h
  ·exact ih _ _ _ _ h
  ·split at h
   ·exact ih _ _ _ _ h
   ·cases h
 | store m a v k ih =>
  intro w a' w' h;cases v <;> simp only [Sem.run] at h
  all_goals try (cases h; done)
  all_goals
   split at h
   ·split at h
    ·cases h
    ·have := ih _ _ _ h
     exact this
   ·split at h
    ·rename_i heq
     rw [← yEs heq];exact ih _ _ _ h
    ·cases h
 | new o k ih =>
  intro w a' w' h;simp only [Sem.run] at h;have := ih _ _ _ _ h;exact this
 | shape r k ih => intro w a' w' h; simp only [Sem.run] at h; exact ih _ _ _ _ h
 | freeze a n k ih =>
  intro w a' w' h;simp only [Sem.run] at h;have := ih _ _ _ h
  have e : (w.freeze a n).drawn = w.drawn := by
   unfold World.freeze
   repeat' split
   all_goals rfl
  rw [e] at this;exact this
 | frozen a k ih => intro w a' w' h; simp only [Sem.run] at h; exact ih _ _ _ _ h
 | getObj r k ih =>
  intro w a' w' h;simp only [Sem.run] at h;split at h
  ·cases h
  ·exact ih _ _ _ _ h
  ·cases h
 | setObj r o k ih =>
  intro w a' w' h;simp only [Sem.run] at h;split at h
  ·cases h
  ·have := ih _ _ _ h
   exact this
  ·cases h
 | choose q k ih =>
  intro w a' w' h;simp only [Sem.run] at h;split at h
  ·exact ih _ _ _ _ h
  ·exact Nat.le_trans (Nat.le_succ _) (ih _ _ _ _ h)
 | sys c k ih =>
  intro w a' w' h;simp only [Sem.run] at h;exact Nat.le_trans (yDt w c) (ih _ _ _ _ h)
 | program k ih => intro w a' w' h; simp only [Sem.run] at h; exact ih _ _ _ _ h
 | mark m k ih => intro w a' w' h; simp only [Sem.run] at h; exact ih _ _ _ h
 | halt h => intro w a' w' h; simp only [Sem.run] at h; cases h
structure Below (B : Nat) (w w' : World) : Prop extends Go.RowKit.Below B w w' where
 dr : w.drawn ≤ w'.drawn
theorem Below.refl (B : Nat) (w : World) : Below B w w := ⟨Go.RowKit.Below.refl B w, Nat.le_refl _⟩
theorem Below.trans {B : Nat} {a b c : World} (h : Below B a b) (k : Below B b c) : Below B a c := ⟨h.toBelow.trans k.toBelow, Nat.le_trans h.dr k.dr⟩
theorem Below.drew {B : Nat} {a w : World} (h : Below B a w) : Below B a w.drew := ⟨h.toBelow.drew, Nat.le_trans h.dr (Nat.le_succ _)⟩
theorem Below.alloc {B : Nat} {a w : World} (h : Below B a w) (hB : B ≤ w.heap.size) (o : Obj) : Below B a (w.alloc o) := ⟨h.toBelow.alloc hB o, h.dr⟩
structure Grw (w w' : World) (row : Option Nat) : Prop extends World.grownBy w w' row where
 dr : w.drawn ≤ w'.drawn
theorem Grw.alloc (w : World) (o : Obj) (row : Option Nat) : Grw w (w.alloc o) row := ⟨World.grownBy_alloc w o row, Nat.le_refl _⟩
end Go.Sx
namespace Go.Sx
open Go.RowKit
inductive ITD where
 | iter (c : Nat) (V : MK → Bool) (cur : Option MK)
 | raw (o : Obj) (K : Option Nat)
 | live (T es n : Nat) (f : Nat → SD) (i : Nat)
structure MD where
 kk : Option IntKind
 n : Nat
 dom : MK → Bool
 f : MK → SD
 it : Option ITD
inductive OB where
 | var (l : List SD)
 | acc (T : Nat) (es n : Nat) (f : Nat → SD)
 | mp (m : MD) (l : List (SD × SD))
structure St where
 n : Nat
 nx : Nat
 sl : List (Nat × SD)
 ow : List (Nat × OB)
def lkp : List (Nat × SD) → Nat → SD
 | [], _ => .any
 | (j, d) :: r, i => bif Nat.beq j i then d else lkp r i
def lkO : List (Nat × OB) → Nat → Option OB
 | [], _ => none
 | (j, d) :: r, i => bif Nat.beq j i then some d else lkO r i
def upd {α : Type} : List (Nat × α) → Nat → α → List (Nat × α)
 | [], i, x => [(i, x)]
 | (j, d) :: r, i, x => bif Nat.beq j i then (i, x) :: r else (j, d) :: upd r i x
def del {α : Type} : List (Nat × α) → Nat → List (Nat × α)
 | [], _ => []
 | (j, d) :: r, i => bif Nat.beq j i then del r i else (j, d) :: del r i
theorem zGu {i j : Nat} (h : i ≠ j) : Nat.beq i j = false := by
 cases hb : Nat.beq i j
 ·rfl
 ·exact absurd (zz4 hb) h
theorem zCg (l : List (Nat × SD)) (i j : Nat) (x : SD) : lkp (upd l i x) j = if j = i then x else lkp l j := by
 induction l with
 | nil =>
  by_cases h : j = i
  ·subst h; simp [upd, lkp]
  ·have : Nat.beq i j = false := zGu fun e => h e.symm
   simp [upd, lkp, this, h]
 | cons p r ih =>
  obtain ⟨m, d⟩ := p;by_cases hm : m = i
  ·subst hm
   by_cases h : j = m
   ·subst h; simp [upd, lkp]
   ·have : Nat.beq m j = false := zGu fun e => h e.symm
    simp [upd, lkp, this, h]
  ·have hmi : Nat.beq m i = false := zGu hm
   simp only [upd, hmi, cond_false, lkp, ih];by_cases hj : m = j
   ·subst hj; simp [hm]
   ·have : Nat.beq m j = false := zGu hj
    simp [this]
theorem zA2 (l : List (Nat × OB)) (i j : Nat) (x : OB) : lkO (upd l i x) j = if j = i then some x else lkO l j := by
 induction l with
 | nil =>
  by_cases h : j = i
  ·subst h; simp [upd, lkO]
  ·have : Nat.beq i j = false := zGu fun e => h e.symm
   simp [upd, lkO, this, h]
 | cons p r ih =>
  obtain ⟨m, d⟩ := p;by_cases hm : m = i
  ·subst hm
   by_cases h : j = m
   ·subst h; simp [upd, lkO]
   ·have : Nat.beq m j = false := zGu fun e => h e.symm
    simp [upd, lkO, this, h]
  ·have hmi : Nat.beq m i = false := zGu hm
   simp only [upd, hmi, cond_false, lkO, ih];by_cases hj : m = j
   ·subst hj; simp [hm]
   ·have : Nat.beq m j = false := zGu hj
    simp [this]
theorem zP2 (l : List (Nat × OB)) (i j : Nat) : lkO (del l i) j = if j = i then none else lkO l j := by
 induction l with
 | nil => simp [del, lkO]
 | cons p r ih =>
  obtain ⟨m, d⟩ := p;by_cases hm : m = i
  ·subst hm
   simp only [del, Nat.beq_refl, cond_true, ih];by_cases h : j = m
   ·simp [h]
   ·have : Nat.beq m j = false := zGu fun e => h e.symm
    simp [lkO, this, h]
  ·have hmi : Nat.beq m i = false := zGu hm
   simp only [del, hmi, cond_false, lkO, ih];by_cases hj : m = j
   ·subst hj; simp [hm]
   ·have : Nat.beq m j = false := zGu hj
    simp [this]
def OB.blk (e : Nm) (k : Nat) : OB → Option Nat
 | .var _ => some (e.bs k)
 | .acc .. => (e.hd k).ownBlock
 | .mp m _ => match m.it with
  | some (.live ..) => (e.hd k).ownBlock
  | _ => some (e.bs k)
def zG8 (h : Hp) (m : MD) (es : Array MapEntry) (clock : Nat) : Prop :=
 es.size = m.n ∧ m.n ≤ maxN ∧ yFo m.kk m.dom es clock ∧ ∀ x, x ∈ es → ∀ q : MK, x.key = q.val m.kk → q.ok m.kk = true → ∀ e, rep h (m.f q) e x.val
theorem zLt {h h' : Hp} (hl : Le h h') {m : MD} {es : Array MapEntry} {clock : Nat} (x : zG8 h m es clock) : zG8 h' m es clock :=
 ⟨x.1, x.2.1, x.2.2.1, fun y hy q hq hk e => zBa hl _ e _ (x.2.2.2 y hy q hq hk e)⟩
def zLx (h : Hp) (m : MD) (c : Nat) (V : MK → Bool) (cur : Option MK) (o : Obj) : Prop :=
 ∃ b es clock seen, o = .mapIter (some b) clock seen clock ∧ h b = some (.map es clock) ∧ zG8 h m es clock ∧ (es.filter fun e => !seen.contains e.born).size = c ∧ (∀ x ∈ es, ∀ q : MK, x.key = q.val m.kk → q.ok m.kk = true → V q = seen.contains x.born) ∧
  ∀ q, cur = some q → q.ok m.kk = true ∧ ∃ x ∈ es, x.key = q.val m.kk ∧ seen.back? = some x.born
theorem zP7 {h h' : Hp} (hl : Le h h') {m : MD} {c : Nat} {V : MK → Bool} {cur : Option MK} {o : Obj} (x : zLx h m c V cur o) : zLx h' m c V cur o := by
 obtain ⟨b, es, clock, seen, h1, h2, h3, h4⟩ := x
 exact ⟨b, es, clock, seen, h1, hl _ _ h2, zLt hl h3, h4⟩
def zIa (h : Hp) (m : MD) (b : Nat) (o : Obj) : Prop :=
 match m.it with
 | none => ∃ es clock, o = .map es clock ∧ zG8 h m es clock
 | some (.iter c V cur) => zLx h m c V cur o
 | some (.raw x K) => o = x ∧ ∀ b', K = some b' → b = b'
 | some (.live ..) => True
theorem zS7 {h h' : Hp} (hl : Le h h') {m : MD} {b : Nat} {o : Obj} (x : zIa h m b o) : zIa h' m b o := by
 unfold zIa at x ⊢
 split at x
 ·obtain ⟨es, clock, h1, h2⟩ := x
  exact ⟨es, clock, h1, zLt hl h2⟩
 ·exact zP7 hl x
 ·exact x
 ·exact x
def yEv (h : Hp) (d : SD) (cs : List Value) (es j : Nat) : Prop := ∃ u : Value, (∀ e, rep h d e u) ∧ u.cells.toList = cut cs (j * es) es ∧ u.cells.size = es ∧ ∀ c ∈ u.cells, c.oneCell' = true
def yGs (h : Hp) (e : Nm) (l : List (SD × SD)) (cs : List Value) (es j : Nat) : Prop := ∃ u : Value, (∀ d c r, l = (d, c) :: r → rep h d e u) ∧ u.cells.toList = cut cs (j * es) es ∧ u.cells.size = es ∧ ∀ c ∈ u.cells, c.oneCell' = true
def zV2 (h : Hp) (e : Nm) (w : World) (k : Nat) (T es n : Nat) (f : Nat → SD) (i : Nat) (l : List (SD × SD)) : Prop :=
 ∃ xs, w.ownsRow 0 T es (e.hd k) n xs ∧ n ≤ maxN ∧ i < n ∧ (∀ j, j < n → j ≠ i → yEv h (f j) xs es j) ∧ yGs h e l xs es i
def zDp (h : Hp) (e : Nm) (w : World) (k : Nat) : OB → Prop
 | .var l => ∃ cs T, w.heap[e.bs k]? = some (.cells cs T (0, 0)) ∧ repC h l e cs.toList
 | .acc T es n f => ∃ xs, w.ownsRow 0 T es (e.hd k) n xs ∧ n ≤ maxN ∧
   ∀ i, i < n → ∃ u, (∀ e, rep h (f i) e u) ∧ u.cells.toList = cut xs (i * es) es ∧ u.cells.size = es ∧ ∀ c ∈ u.cells, c.oneCell' = true
 | .mp m l => match m.it with
  | some (.live T es n f i) => zV2 h e w k T es n f i l
  | _ => ∃ o, w.heap[e.bs k]? = some o ∧ zIa h m (e.bs k) o
theorem zWi {h h' : Hp} (hl : Le h h') {d : SD} {cs : List Value} {es j : Nat} (x : yEv h d cs es j) : yEv h' d cs es j := by
 obtain ⟨u, u1, u2⟩ := x
 exact ⟨u, fun e => zBa hl _ e u (u1 e), u2⟩
theorem zEb {h h' : Hp} {e e' : Nm} {w w' : World} {k k' T es n i : Nat} {f : Nat → SD} {l l' : List (SD × SD)} (hl : Le h h') (hh : e'.hd k' = e.hd k) (hw : ∀ b, (e.hd k).ownBlock = some b → w'.heap[b]? = w.heap[b]?)
  (hn : ∀ u, (∀ d c r, l = (d, c) :: r → rep h d e u) → ∀ d c r, l' = (d, c) :: r → rep h' d e' u) (x : zV2 h e w k T es n f i l) : zV2 h' e' w' k' T es n f i l' := by
 obtain ⟨xs, g1, g2, g3, g4, u, u1, u2⟩ := x
 refine ⟨xs, ⟨g1.1, ?_⟩, g2, g3, fun j hj hne => zWi hl (g4 j hj hne), u, hn u u1, u2⟩
 rw [hh]
 rcases g1.2 with hx | ⟨g, cap, cur, hv, hbase, hg, rest⟩
 ·exact .inl hx
 ·exact .inr ⟨g, cap, cur, hv, hbase, (hw g (by simp [hv, Value.ownBlock])).trans hg, rest⟩
def MD.lv (m : MD) : Bool := match m.it with
 | some (.live ..) => true
 | _ => false
theorem MD.nlv {m : MD} (h : m.lv = false) : ∀ T es n f i, m.it ≠ some (.live T es n f i) := fun T es n f i hc => by
 simp only [MD.lv, hc] at h; cases h
theorem zVp {h : Hp} {e : Nm} {w : World} {k : Nat} {m : MD} {l : List (SD × SD)} (hm : m.lv = false) : zDp h e w k (.mp m l) ↔ ∃ o, w.heap[e.bs k]? = some o ∧ zIa h m (e.bs k) o := by
 unfold zDp
 simp only
 split
 ·exact absurd ‹_› (MD.nlv hm _ _ _ _ _)
 ·exact Iff.rfl
theorem zO3 {e : Nm} {k : Nat} {m : MD} {l : List (SD × SD)} (hm : m.lv = false) : (OB.mp m l).blk e k = some (e.bs k) := by
 simp only [OB.blk]
 split
 ·exact absurd ‹_› (MD.nlv hm _ _ _ _ _)
 ·rfl
structure zEt (F : List Nat) (w0 w : World) : Prop where
 os : w.os = w0.os
 tape : w.tape = w0.tape
 output : w.output = w0.output
 size : w0.heap.size ≤ w.heap.size
 dr : w0.drawn ≤ w.drawn
 block : ∀ b, b < w0.heap.size → b ∉ F → w.heap[b]? = w0.heap[b]?
theorem zEt.refl (F : List Nat) (w : World) : zEt F w w := ⟨rfl, rfl, rfl, Nat.le_refl _, Nat.le_refl _, fun _ _ _ => rfl⟩
theorem zEt.below {w0 w : World} (h : zEt [] w0 w) : Below w0.heap.size w0 w := ⟨⟨h.os, h.tape, h.output, h.size, fun b hb => h.block b hb (by simp)⟩, h.dr⟩
def GH (_ : Hp) : Prop := True
theorem GH.mono {h h' : Hp} (_ : GH h) (_ : Le h h') : GH h' := trivial
structure zB0 where
 w : World
 h : Hp
 fix : List Nat
 gh : GH h
structure Base where
 b0 : zB0
 rd : Option Nat
 ds : List Deferred
abbrev Base.w (x : Base) : World := x.b0.w
abbrev Base.h (x : Base) : Hp := x.b0.h
abbrev Base.fix (x : Base) : List Nat := x.b0.fix
abbrev zB0.std (x : zB0) : Base := ⟨x, none, []⟩
structure Den (F : List Nat) (w0 : Base) (s : St) (h : Hp) (e : Nm) (a : Act) (w : World) : Prop where
 defers : a.defers = w0.ds
 size : a.tmps.size = s.n
 slot : ∀ t, rep h (lkp s.sl t) e (a.tmps.getD t undef)
 own : ∀ k o, lkO s.ow k = some o → zDp h e w k o
 ownb : ∀ k o b, lkO s.ow k = some o → o.blk e k = some b → (w0.w.heap.size ≤ b ∨ (b ∈ F ∧ 700 ≤ k)) ∧ h b = none
 apart : ∀ k k' o o' b, k ≠ k' → lkO s.ow k = some o → lkO s.ow k' = some o' → o.blk e k = some b → o'.blk e k' ≠ some b
 sub : Sub h w
 keeps : zEt F w0.w w
 le : Le w0.h h
 neww : ∀ b, b < w0.w.heap.size → h b = w0.h b
 fix : ∀ i b, w0.fix[i]? = some b → e.bs (1000 + i) = b
theorem Den.gh {F : List Nat} {w0 : Base} {s : St} {h : Hp} {e : Nm} {a : Act} {w : World} (D : Den F w0 s h e a w) : GH h := w0.b0.gh.mono D.le
theorem Den.ownM {F : List Nat} {w0 : Base} {s : St} {h : Hp} {e : Nm} {a : Act} {w : World} (D : Den F w0 s h e a w) {k : Nat} {m : MD} {l : List (SD × SD)} (ho : lkO s.ow k = some (.mp m l)) (hn : ∀ T es n f i, m.it ≠ some (.live T es n f i)) : ∃ o, w.heap[e.bs k]? = some o ∧ zIa h m (e.bs k) o := by
 have x := D.own k _ ho
 unfold zDp at x
 simp only at x
 exact x
def St.put (s : St) (i : Nat) (d : SD) : St := { s with sl := upd s.sl i d }
theorem zJx (ts : Array Value) (i t : Nat) (v : Value) (hi : i < ts.size) : (ts.setIfInBounds i v).getD t undef = if t = i then v else ts.getD t undef := by
 simp only [Array.getD_eq_getD_getElem?, Array.getElem?_setIfInBounds]
 by_cases h : t = i
 ·subst h; simp [hi]
 ·have : ¬ i = t := fun e => h e.symm
  simp [this, h]
section
variable {F : List Nat} {w0 : Base} {s : St} {h : Hp} {e : Nm} {a : Act} {w : World}
theorem Den.put (D : Den F w0 s h e a w) {i : Nat} {d : SD} {v : Value} (hi : i < s.n) (hv : rep h d e v) : Den F w0 (s.put i d) h e (a.put (some i) v) w := by
 refine ⟨D.defers, by simp [Act.put, St.put, D.size], fun t => ?_, D.own, D.ownb, D.apart, D.sub, D.keeps, D.le, D.neww, D.fix⟩
 simp only [St.put, zCg, Act.put]
 rw [zJx _ _ _ _ (by rw [D.size]; exact hi)]
 by_cases ht : t = i
 ·simp [ht, hv]
 ·simp only [ht, if_false]; exact D.slot t
theorem Den.put_none (D : Den F w0 s h e a w) (v : Value) : Den F w0 s h e (a.put none v) w := D
theorem zDi {h h' : Hp} {e : Nm} {w w' : World} {k : Nat} {o : OB} (hl : Le h h') (hb : ∀ b, o.blk e k = some b → w'.heap[b]? = w.heap[b]?) (x : zDp h e w k o) : zDp h' e w' k o := by
 cases o with
 | var l =>
  obtain ⟨cs, T, h1, h2⟩ := x;exact ⟨cs, T, (hb _ rfl).trans h1, zF1 hl l e _ h2⟩
 | acc T es n f =>
  obtain ⟨xs, h1, h2, h3⟩ := x;refine ⟨xs, ⟨h1.1, ?_⟩, h2, fun i hi => ?_⟩
  ·rcases h1.2 with hn | ⟨g, cap, cur, hv, hbase, hg, rest⟩
   ·exact .inl hn
   ·exact .inr ⟨g, cap, cur, hv, hbase, (hb g (by simp [OB.blk, hv, Value.ownBlock])).trans hg, rest⟩
  ·obtain ⟨u, u1, u2⟩ := h3 i hi
   exact ⟨u, fun e => zBa hl _ e u (u1 e), u2⟩
 | mp m l =>
  unfold zDp at x ⊢;simp only at x ⊢;split at x
  ·rename_i hit
   exact zEb hl rfl (fun b hbb => hb b (by simp only [OB.blk, hit]; exact hbb)) (fun u hu d c r hlr => zBa hl d e u (hu d c r hlr)) x
  ·rename_i hit
   obtain ⟨o, h1, h2⟩ := x;refine ⟨o, (hb _ ?_).trans h1, zS7 hl h2⟩;simp only [OB.blk]
theorem Den.world (D : Den F w0 s h e a w) {h' : Hp} {w' : World} (hl : Le h h') (hs : Sub h' w') (hk : zEt F w0.w w') (hnw : ∀ b, b < w.heap.size → h' b = h b)
  (hnew : ∀ k o b, lkO s.ow k = some o → o.blk e k = some b → h' b = none)
  (hown : ∀ k o b, lkO s.ow k = some o → o.blk e k = some b → w'.heap[b]? = w.heap[b]?) : Den F w0 s h' e a w' :=
 ⟨D.defers, D.size, fun t => zBa hl _ e _ (D.slot t), fun k o ho => zDi hl (fun b hb => hown k o b ho hb) (D.own k o ho),
  fun k o b ho hb => ⟨(D.ownb k o b ho hb).1, hnew k o b ho hb⟩, D.apart, hs, hk, D.le.trans hl, fun b hb => (hnw b (Nat.lt_of_lt_of_le hb D.keeps.size)).trans (D.neww b hb), D.fix⟩
theorem zD9 {h : Hp} {e : Nm} {w : World} {k : Nat} {o : OB} (x : zDp h e w k o) {b : Nat} (hb : o.blk e k = some b) : b < w.heap.size := by
 cases o with
 | var l =>
  obtain ⟨cs, T, h1, _⟩ := x;simp only [OB.blk, zz1] at hb;subst hb;exact (Array.getElem?_eq_some_iff.1 h1).1
 | acc T es n f =>
  obtain ⟨xs, h1, _⟩ := x;exact (h1.lt b hb).2
 | mp m l =>
  unfold zDp at x;simp only at x;split at x
  ·rename_i hit
   simp only [OB.blk, hit] at hb;obtain ⟨xs, h1, _⟩ := x;exact (h1.lt b hb).2
  ·rename_i hit
   have hb2 : e.bs k = b := by
    simp only [OB.blk] at hb;exact Option.some.inj hb
   obtain ⟨o, h1, _⟩ := x;subst hb2;exact (Array.getElem?_eq_some_iff.1 h1).1
theorem zEt.trans_below {w0 : World} (hk : zEt F w0 w) {w' : World} (hb : Below w.heap.size w w') : zEt F w0 w' :=
 ⟨hb.os.trans hk.os, hb.tape.trans hk.tape, hb.output.trans hk.output, Nat.le_trans hk.size hb.size, Nat.le_trans hk.dr hb.dr,
  fun b h1 h2 => (hb.block b (Nat.lt_of_lt_of_le h1 hk.size)).trans (hk.block b h1 h2)⟩
theorem Sub.below (hs : Sub h w) {w' : World} (hb : Below w.heap.size w w') : Sub h w' := fun b o ho =>
 (hb.block b (Array.getElem?_eq_some_iff.1 (hs b o ho)).1).trans (hs b o ho)
theorem Den.below (D : Den F w0 s h e a w) {w' : World} (hb : Below w.heap.size w w') : Den F w0 s h e a w' :=
 D.world (Le.refl h) (D.sub.below hb) (D.keeps.trans_below hb) (fun _ _ => rfl) (fun k o b ho hbk => (D.ownb k o b ho hbk).2)
  (fun k o b ho hbk => hb.block b (zD9 (D.own k o ho) hbk))
theorem Den.drew (D : Den F w0 s h e a w) : Den F w0 s h e a w.drew := D.below (Below.refl _ _).drew
theorem Den.called (D : Den F w0 s h e a w) {h' : Hp} {w' : World} (hl : Le h h') (hs : Sub h' w') (hb : Below w.heap.size w w') (hn : ∀ b, b < w.heap.size → h' b = h b) : Den F w0 s h' e a w' :=
 D.world hl hs (D.keeps.trans_below hb) hn (fun k o b ho hbk => by rw [hn b (zD9 (D.own k o ho) hbk)]; exact (D.ownb k o b ho hbk).2)
  (fun k o b ho hbk => hb.block b (zD9 (D.own k o ho) hbk))
end
def yB2 (k : Nat) : List (Nat × SD) → Bool
 | [] => false
 | (_, d) :: r => men k d || yB2 k r
def zC4 (k : Nat) : List (SD × SD) → Bool
 | [] => false
 | (x, _) :: r => men k x || zC4 k r
def zVv (k : Nat) : List (Nat × OB) → Bool
 | [] => false
 | (j, .var l) :: r => Nat.beq j k || zGy k l || zVv k r
 | (j, .acc ..) :: r => Nat.beq j k || zVv k r
 | (j, .mp _ l) :: r => Nat.beq j k || zC4 k l || zVv k r
def St.free (s : St) (k : Nat) : Bool := Nat.blt k 1000 && !(yB2 k s.sl || zVv k s.ow)
theorem zJs {k : Nat} : ∀ {l : List (Nat × SD)}, yB2 k l = false → ∀ t, men k (lkp l t) = false
 | [], _, _ => rfl
 | (j, d) :: r, h, t => by
  simp only [yB2, Bool.or_eq_false_iff] at h;simp only [lkp];cases Nat.beq j t
  ·exact zJs h.2 t
  ·exact h.1
theorem zGj {k : Nat} : ∀ {l : List (Nat × OB)}, zVv k l = false → ∀ j o, lkO l j = some o → j ≠ k ∧ (∀ x, o = .var x → zGy k x = false) ∧ (∀ kd x, o = .mp kd x → zC4 k x = false)
 | [], _, _, _, h => by simp [lkO] at h
 | (m, .var l) :: r, h, j, o, hj => by
  simp only [zVv, Bool.or_eq_false_iff] at h;simp only [lkO] at hj;cases hm : Nat.beq m j
  ·rw [hm] at hj; exact zGj h.2 j o hj
  ·rw [hm] at hj
   have := zz4 hm;subst this;simp only [cond_true, zz1] at hj;subst hj;exact ⟨zB2 h.1.1, fun x hx => by cases hx; exact h.1.2, fun kd x hx => by cases hx⟩
 | (m, .acc ..) :: r, h, j, o, hj => by
  simp only [zVv, Bool.or_eq_false_iff] at h;simp only [lkO] at hj;cases hm : Nat.beq m j
  ·rw [hm] at hj; exact zGj h.2 j o hj
  ·rw [hm] at hj
   have := zz4 hm;subst this;simp only [cond_true, zz1] at hj;subst hj;exact ⟨zB2 h.1, (fun x hx => by cases hx), fun kd x hx => by cases hx⟩
 | (m, .mp kd l) :: r, h, j, o, hj => by
  simp only [zVv, Bool.or_eq_false_iff] at h;simp only [lkO] at hj;cases hm : Nat.beq m j
  ·rw [hm] at hj; exact zGj h.2 j o hj
  ·rw [hm] at hj
   have := zz4 hm;subst this;simp only [cond_true, zz1] at hj;subst hj;exact ⟨zB2 h.1.1, (fun x hx => by cases hx), fun kd x hx => by cases hx; exact h.1.2⟩
structure Free (s : St) (k : Nat) : Prop where
 sl : ∀ t, men k (lkp s.sl t) = false
 ow : ∀ j o, lkO s.ow j = some o → j ≠ k ∧ (∀ x, o = .var x → zGy k x = false) ∧ (∀ kd x, o = .mp kd x → zC4 k x = false)
 lt : k < 1000
theorem Free.of {s : St} {k : Nat} (hf : s.free k = true) : Free s k := by
 simp only [St.free, zz3, Bool.not_eq_true', Bool.or_eq_false_iff] at hf
 exact ⟨zJs hf.2.1, zGj hf.2.2, Nat.le_of_ble_eq_true hf.1⟩
theorem zBv {e e' : Nm} {k j : Nat} (he : e.but e' k) (hj : j ≠ k) (o : OB) : o.blk e' j = o.blk e j := by
 cases o with
 | mp m l =>
  simp only [OB.blk];split
  ·rw [(he j hj).2]
  ·rw [(he j hj).1]
 | _ => simp [OB.blk, he j hj]
theorem zJp {h : Hp} {e e' : Nm} {w : World} {k j : Nat} {o : OB} (he : e.but e' k) (hj : j ≠ k) (h1 : ∀ x, o = .var x → zGy k x = false) (h2 : ∀ kd x, o = .mp kd x → zC4 k x = false) (x : zDp h e w j o) : zDp h e' w j o := by
 cases o with
 | var l =>
  obtain ⟨cs, T, g1, g2⟩ := x;exact ⟨cs, T, by rw [(he j hj).1]; exact g1, zJm he l _ (h1 l rfl) g2⟩
 | acc T es n f =>
  obtain ⟨xs, g1, g2⟩ := x;exact ⟨xs, by rw [(he j hj).2]; exact g1, g2⟩
 | mp m l =>
  unfold zDp at x ⊢;simp only at x ⊢;split at x
  ·refine zEb (Le.refl h) (he j hj).2 (fun _ _ => rfl) (fun u hu d c r hlr => ?_) x
   have := h2 m l rfl;rw [hlr] at this;simp only [zC4, Bool.or_eq_false_iff] at this;exact zDo he d u this.1 (hu d c r hlr)
  ·obtain ⟨o, g1, g2⟩ := x
   exact ⟨o, by rw [(he j hj).1]; exact g1, by rw [(he j hj).1]; exact g2⟩
def Nm.setB (e : Nm) (k b : Nat) : Nm := { e with bs := fun j => if j = k then b else e.bs j }
def Nm.setH (e : Nm) (k : Nat) (v : Value) : Nm := { e with hd := fun j => if j = k then v else e.hd j }
theorem Nm.but_setB (e : Nm) (k b : Nat) : e.but (e.setB k b) k := fun j hj => by simp [Nm.setB, hj]
theorem Nm.but_setH (e : Nm) (k : Nat) (v : Value) : e.but (e.setH k v) k := fun j hj => by simp [Nm.setH, hj]
section
variable {F : List Nat} {w0 : Base} {s : St} {h : Hp} {e : Nm} {a : Act} {w : World}
theorem Den.rename (D : Den F w0 s h e a w) {e' : Nm} {k : Nat} (he : e.but e' k) (hf : Free s k) : Den F w0 s h e' a w := by
 have ho := hf.ow
 refine ⟨D.defers, D.size, fun t => zDo he _ _ (hf.sl t) (D.slot t), fun j o hj => ?_, fun j o b hj hb => ?_, fun j j' o o' b hne hj hj' hb => ?_, D.sub, D.keeps, D.le, D.neww, fun i b hb => by rw [(he (1000 + i) (by have := hf.lt; omega)).1]; exact D.fix i b hb⟩
 ·obtain ⟨h1, h2, h3⟩ := ho j o hj
  exact zJp he h1 h2 h3 (D.own j o hj)
 ·rw [zBv he (ho j o hj).1] at hb
  exact D.ownb j o b hj hb
 ·rw [zBv he (ho j o hj).1] at hb
  rw [zBv he (ho j' o' hj').1];exact D.apart j j' o o' b hne hj hj' hb
theorem Den.addOwn (D : Den F w0 s h e a w) {k : Nat} {o : OB} (hf : lkO s.ow k = none) (h1 : zDp h e w k o)
  (h2 : ∀ b, o.blk e k = some b → (w0.w.heap.size ≤ b ∨ (b ∈ F ∧ 700 ≤ k)) ∧ h b = none)
  (h3 : ∀ j o' b, lkO s.ow j = some o' → o'.blk e j = some b → o.blk e k ≠ some b) (nx : Nat) : Den F w0 { s with nx := nx, ow := upd s.ow k o } h e a w := by
 refine ⟨D.defers, D.size, D.slot, fun j o' hj => ?_, fun j o' b hj hb => ?_, fun j j' o1 o2 b hne hj hj' hb => ?_, D.sub, D.keeps, D.le, D.neww, D.fix⟩
 ·rw [zA2] at hj
  by_cases hjk : j = k
  ·subst hjk; simp only [if_true, zz1] at hj; subst hj; exact h1
  ·simp only [hjk, if_false] at hj; exact D.own j o' hj
 ·rw [zA2] at hj
  by_cases hjk : j = k
  ·subst hjk; simp only [if_true, zz1] at hj; subst hj; exact h2 b hb
  ·simp only [hjk, if_false] at hj; exact D.ownb j o' b hj hb
 ·rw [zA2] at hj hj'
  by_cases hjk : j = k
  ·subst hjk
   have hjk' : j' ≠ j := fun x => hne x.symm;simp only [if_true, zz1] at hj;simp only [hjk', if_false] at hj';subst hj;exact fun hc => h3 j' o2 b hj' hc hb
  ·simp only [hjk, if_false] at hj
   by_cases hjk' : j' = k
   ·subst hjk'
    simp only [if_true, zz1] at hj';subst hj';exact h3 j o1 b hj hb
   ·simp only [hjk', if_false] at hj'
    exact D.apart j j' o1 o2 b hne hj hj' hb
theorem zCl {s : St} {k : Nat} (hf : Free s k) : lkO s.ow k = none := by
 cases h : lkO s.ow k with
 | none => rfl
 | some o => exact absurd rfl (hf.ow k o h).1
theorem Den.newVar (D : Den F w0 s h e a w) {k : Nat} {l : List SD} {cs : Array Value} {T : Nat} (hf : Free s k) (hm : zGy k l = false) (hc : repC h l e cs.toList) (nx : Nat) :
  Den F w0 { s with nx := nx, ow := upd s.ow k (.var l) } h (e.setB k w.heap.size) a (w.alloc (.cells cs T)) := by
 have hb := Below.alloc (Below.refl w.heap.size w) (Nat.le_refl _) (.cells cs T)
 have D1 := (D.below hb).rename (e.but_setB k w.heap.size) hf
 have hnone : h w.heap.size = none := by
  cases hx : h w.heap.size with
  | none => rfl
  | some o => have := (Array.getElem?_eq_some_iff.1 (D.sub _ _ hx)).1; omega
 refine D1.addOwn (o := .var l) (zCl hf) ⟨cs, T, ?_, zJm (e.but_setB k _) l _ hm hc⟩ (fun b hb => ?_) (fun j o' b hj hb' hc' => ?_) nx
 ·simp only [Nm.setB, if_true]; exact heap_alloc_new w _
 ·simp only [OB.blk, Nm.setB, if_true, zz1] at hb
  subst hb;exact ⟨.inl D.keeps.size, hnone⟩
 ·simp only [OB.blk, Nm.setB, if_true, zz1] at hc'
  subst hc';have hjk : j ≠ k := fun x => by subst x; rw [zCl hf] at hj; cases hj
  rw [zBv (e.but_setB k _) hjk] at hb';have := zD9 (D.own j o' hj) hb';omega
theorem Den.setOwn (D : Den F w0 s h e a w) {k : Nat} {o o' : OB} {w' : World} (ho : lkO s.ow k = some o) (hbk : o'.blk e k = o.blk e k) (h1 : zDp h e w' k o')
  (hw : ∀ b, o.blk e k ≠ some b → w'.heap[b]? = w.heap[b]?) (hos : w'.os = w.os) (htp : w'.tape = w.tape) (hout : w'.output = w.output) (hsz : w'.heap.size = w.heap.size) (hdr : w.drawn ≤ w'.drawn := by first | exact Nat.le_refl _ | exact Nat.le_succ _) : Den F w0 { s with ow := upd s.ow k o' } h e a w' := by
 refine ⟨D.defers, D.size, D.slot, fun j x hj => ?_, fun j x b hj hb => ?_, fun j j' o1 o2 b hne hj hj' hb => ?_, fun b x hx => ?_, ?_, D.le, D.neww, D.fix⟩
 ·rw [zA2] at hj
  by_cases hjk : j = k
  ·subst hjk; simp only [if_true, zz1] at hj; subst hj; exact h1
  ·simp only [hjk, if_false] at hj
   exact zDi (Le.refl h) (fun b hb => hw b (fun hc => D.apart j k x o b hjk hj ho hb hc)) (D.own j x hj)
 ·rw [zA2] at hj
  by_cases hjk : j = k
  ·subst hjk; simp only [if_true, zz1] at hj; subst hj; rw [hbk] at hb; exact D.ownb j o b ho hb
  ·simp only [hjk, if_false] at hj; exact D.ownb j x b hj hb
 ·have key : ∀ j x, (if j = k then some o' else lkO s.ow j) = some x → ∃ y, lkO s.ow j = some y ∧ x.blk e j = y.blk e j := fun j x hx => by
   by_cases hjk : j = k
   ·subst hjk; simp only [if_true, zz1] at hx; subst hx; exact ⟨o, ho, hbk⟩
   ·simp only [hjk, if_false] at hx; exact ⟨x, hx, rfl⟩
  rw [zA2] at hj hj';obtain ⟨y, hy, ey⟩ := key j o1 hj;obtain ⟨y', hy', ey'⟩ := key j' o2 hj';rw [ey] at hb;rw [ey'];exact D.apart j j' y y' b hne hy hy' hb
 ·rw [hw b (fun hc => by have := (D.ownb k o b ho hc).2; rw [this] at hx; cases hx)]
  exact D.sub b x hx
 ·refine ⟨hos.trans D.keeps.os, htp.trans D.keeps.tape, hout.trans D.keeps.output, by rw [hsz]; exact D.keeps.size, Nat.le_trans D.keeps.dr hdr, fun b hb hF => ?_⟩
  rw [hw b (fun hc => ?_)]
  ·exact D.keeps.block b hb hF
  ·rcases (D.ownb k o b ho hc).1 with hx | hx
   ·omega
   ·exact hF hx.1
end
end Go.Sx
namespace Go.Sx
open Go.RowKit
def ofS : Value → SD
 | .bool b => .bool b
 | .int k n => .int k n
 | .string s => .str s
 | .pointer none => .nilp
 | .slice none 0 0 => .nils
 | .map none => .nilmap
 | .nilFunc => .nilfn
 | .nilIface => .nilif
 | _ => .any
theorem zU8 (h : Hp) (e : Nm) (v : Value) : rep h (ofS v) e v := by
 unfold ofS
 split <;> simp [rep]
def ofV : Value → SD
 | .agg cs => bif cs.all (·.oneCell') then .agg (cs.toList.map ofS) else .any
 | v => ofS v
theorem zJl (h : Hp) (e : Nm) : ∀ (l : List Value), (∀ v ∈ l, v.oneCell' = true) → repC h (l.map ofS) e l
 | [], _ => by simp [repC]
 | v :: r, hl => by
  simp only [List.map_cons, repC];exact ⟨v, r, rfl, hl v (by simp), zU8 h e v, zJl h e r fun u hu => hl u (by simp [hu])⟩
theorem zG4 (h : Hp) (e : Nm) (v : Value) : rep h (ofV v) e v := by
 unfold ofV
 split
 ·rename_i cs
  cases hc : cs.all (·.oneCell')
  ·simp [rep]
  ·simp only [cond_true, rep]
   exact ⟨cs.toList, by simp, zJl h e _ fun v hv => (Array.all_eq_true_iff_forall_mem.1 hc) v (by simpa using hv)⟩
 ·exact zU8 h e v
def ev (s : St) : Operand → SD
 | .tmp t => lkp s.sl t
 | .const v => ofV v
 | .func f => .fn f []
 | .global _ => .any
section
variable {F : List Nat} {w0 : Base} {s : St} {h : Hp} {e : Nm} {a : Act} {w : World}
theorem Den.ev (D : Den F w0 s h e a w) (x : Operand) : rep h (ev s x) e (a.eval x) := by
 cases x with
 | tmp t => exact D.slot t
 | const v => exact zG4 h e v
 | func f => simp [Sx.ev, rep, Act.eval, repT]
 | global g => simp [Sx.ev, rep]
end
def ungd : SD → SD
 | .gd _ d => d
 | d => d
def cellsD : SD → Option (List SD)
 | .agg l => some l
 | .any | .gd .. | .tup _ | .val _ => none
 | d => some [d]
theorem one_cell {h : Hp} {e : Nm} {d : SD} {v : Value} (x : rep h d e v) (h1 : v.oneCell' = true) (h2 : v.cells = #[v]) : repC h [d] e v.cells.toList := by
 rw [h2]
 simp only [repC]
 exact ⟨v, [], rfl, h1, x, rfl⟩
def leaf : SD → Bool
 | .agg _ | .any | .gd .. | .tup _ | .val _ => false
 | _ => true
theorem yB9 {h : Hp} {e : Nm} {d : SD} {v : Value} (hc : leaf d = true) (x : rep h d e v) : v.oneCell' = true ∧ v.cells = #[v] := by
 cases d <;> simp only [leaf, reduceCtorEq] at hc <;> simp only [rep] at x
 case int => subst x; exact ⟨rfl, rfl⟩
 case bool => subst x; exact ⟨rfl, rfl⟩
 case str => subst x; exact ⟨rfl, rfl⟩
 case list => obtain ⟨a, cap, rfl, rest⟩ := x; exact ⟨rfl, rfl⟩
 case lng => obtain ⟨a, cap, rfl, rest⟩ := x; exact ⟨rfl, rfl⟩
 case nils => subst x; exact ⟨rfl, rfl⟩
 case fp => obtain ⟨ad, cs, T, fr, rfl, rest⟩ := x; exact ⟨rfl, rfl⟩
 case nilp => subst x; exact ⟨rfl, rfl⟩
 case loc => subst x; exact ⟨rfl, rfl⟩
 case acc => obtain ⟨_, _, _, _, rfl⟩ := x; exact ⟨rfl, rfl⟩
 case accH => obtain ⟨_, _, _, rfl⟩ := x; exact ⟨rfl, rfl⟩
 case aptr => obtain ⟨b, n, c, h1, h2, rfl⟩ := x; exact ⟨rfl, rfl⟩
 case accp => obtain ⟨b, n, c, h1, h2, h3, rfl⟩ := x; exact ⟨rfl, rfl⟩
 case vsl => obtain ⟨rfl, _⟩ := x; exact ⟨rfl, rfl⟩
 case bfn => obtain ⟨vs, rfl, h2⟩ := x; exact ⟨rfl, rfl⟩
 case fn => obtain ⟨vs, rfl, h2⟩ := x; exact ⟨rfl, rfl⟩
 case nilfn => subst x; exact ⟨rfl, rfl⟩
 case iface => obtain ⟨u, rfl, h2⟩ := x; exact ⟨rfl, rfl⟩
 case nilif => subst x; exact ⟨rfl, rfl⟩
 case omap => subst x; exact ⟨rfl, rfl⟩
 case nilmap => subst x; exact ⟨rfl, rfl⟩
 case fmap => obtain ⟨_, _, _, rfl, _⟩ := x; exact ⟨rfl, rfl⟩
 case yld => subst x; exact ⟨rfl, rfl⟩
theorem zAx {h : Hp} {e : Nm} {d : SD} {l : List SD} {v : Value} (hc : cellsD d = some l) (x : rep h d e v) : repC h l e v.cells.toList := by
 by_cases hl : leaf d = true
 ·have : l = [d] := by cases d <;> simp_all [cellsD, leaf]
  subst this;obtain ⟨h1, h2⟩ := yB9 hl x;exact one_cell x h1 h2
 ·cases d <;> simp only [cellsD, zz1, reduceCtorEq] at hc <;> simp [leaf] at hl
  subst hc;simp only [rep] at x;obtain ⟨vs, rfl, h2⟩ := x;simpa [Value.cells] using h2
theorem zDw {h : Hp} {e : Nm} : ∀ {l : List SD} {vs : List Value}, repC h l e vs → ∀ v ∈ vs, v.oneCell' = true
 | [], _, x => by simp only [repC] at x; subst x; simp
 | d :: r, _, x => by
  simp only [repC] at x;obtain ⟨v, vs', rfl, h1, _, h3⟩ := x;intro u hu
  rcases List.mem_cons.1 hu with rfl | hu
  ·exact h1
  ·exact zDw h3 u hu
theorem zBy {h : Hp} {e : Nm} : ∀ (n : Nat) {l : List SD} {vs : List Value}, repC h l e vs → repC h (l.drop n) e (vs.drop n)
 | 0, _, _, x => by simpa using x
 | n + 1, [], _, x => by simp only [repC] at x; subst x; simp [repC]
 | n + 1, d :: r, _, x => by
  simp only [repC] at x;obtain ⟨v, vs', rfl, _, _, h3⟩ := x;simpa using zBy n h3
theorem zDh {h : Hp} {e : Nm} : ∀ (n : Nat) {l : List SD} {vs : List Value}, repC h l e vs → repC h (l.take n) e (vs.take n)
 | 0, _, _, _ => by simp [repC]
 | n + 1, [], _, x => by simp only [repC] at x; subst x; simp [repC]
 | n + 1, d :: r, _, x => by
  simp only [repC] at x;obtain ⟨v, vs', rfl, h1, h2, h3⟩ := x;simp only [List.take_succ_cons, repC];exact ⟨v, _, rfl, h1, h2, zDh n h3⟩
theorem zBg {h : Hp} {e : Nm} : ∀ {l l' : List SD} {vs vs' : List Value}, repC h l e vs → repC h l' e vs' → repC h (l ++ l') e (vs ++ vs')
 | [], _, _, _, x, y => by simp only [repC] at x; subst x; simpa using y
 | d :: r, _, _, _, x, y => by
  simp only [repC] at x;obtain ⟨v, vs1, rfl, h1, h2, h3⟩ := x;simp only [List.cons_append, repC];exact ⟨v, _, rfl, h1, h2, zBg h3 y⟩
theorem zN9 {h : Hp} {e : Nm} {d : SD} {r : List SD} {vs : List Value} (x : repC h (d :: r) e vs) : ∃ v vs', vs = v :: vs' ∧ v.oneCell' = true ∧ rep h d e v := by
 simp only [repC] at x
 obtain ⟨v, vs', h1, h2, h3, _⟩ := x
 exact ⟨v, vs', h1, h2, h3⟩
def szT (P : Program) (T : Nat) : Nat := P.cellsOf T
def zBw (P : Program) (T : Nat) : Option Bool :=
 match P.underlying T with
 | some (.struct _) | some (.array ..) => some true
 | some _ => some false
 | none => none
theorem zHw {P : Program} {T : Nat} {b : Bool} (h : zBw P T = some b) (w : World) : (isAgg T).run P w = .ok b w := by
 unfold zBw at h
 unfold isAgg
 rw [Sem.run_bind]
 split at h
 ·rename_i fs hu; rw [run_underlying hu w]; simp at h; subst h; rfl
 ·rename_i n t hu; rw [run_underlying hu w]; simp at h; subst h; rfl
 ·rename_i d h1 h2 hu
  rw [run_underlying hu w];simp at h;subst h;cases d <;> first | rfl | simp_all
 ·cases h
def plT (P : Program) (T i : Nat) : Option (Nat × Nat) :=
 match P.underlying T with
 | some (.struct fs) => match fs[i]? with
  | some f => if P.cellsOf f.type = 0 ∨ (P.info? f.type).isNone then none else some (f.offset, P.cellsOf f.type)
  | none => none
 | some (.array _ t) => if P.cellsOf t = 0 then none else some (i * P.cellsOf t, P.cellsOf t)
 | _ => none
theorem zAl {P : Program} {T n : Nat} (h : szT P T = n + 1) : ∃ i, P.info? T = some i ∧ i.size = n + 1 := by
 unfold szT Program.cellsOf at h
 cases hi : P.info? T with
 | none => simp [hi] at h
 | some i => exact ⟨i, rfl, by simpa [hi] using h⟩
def ldc (P : Program) (T : Nat) (l : List SD) : Option SD :=
 match zBw P T with
 | some true => bif Nat.ble 1 (szT P T) && Nat.ble (szT P T) l.length then some (.agg (l.take (szT P T))) else none
 | some false => match l with
  | d :: _ => some d
  | [] => none
 | none => none
theorem zUv {P : Program} {T : Nat} {w : World} {h : Hp} {e : Nm} {b o : Nat} {l : List SD} {vs : List Value} {d : SD}
  (hc : ∀ j v, vs[j]? = some v → w.cell? ⟨b, o + j, none⟩ = some v) (hr : repC h l e vs) (hd : ldc P T l = some d) :
  ∃ v, rep h d e v ∧ (Instr.loadAt T (.pointer (some ⟨b, o, none⟩))).run P w = .ok v w := by
 unfold ldc at hd
 split at hd
 ·rename_i ha
  cases hb : (Nat.ble 1 (szT P T) && Nat.ble (szT P T) l.length)
  ·rw [hb] at hd; cases hd
  ·rw [hb] at hd
   simp only [cond_true, zz1] at hd;subst hd;simp only [zz3] at hb;have h1 := Nat.le_of_ble_eq_true hb.1;have h2 := Nat.le_of_ble_eq_true hb.2;obtain ⟨m, hm⟩ : ∃ m, szT P T = m + 1 := ⟨szT P T - 1, by omega⟩;obtain ⟨i, hi, hsz⟩ := zAl hm;have hl := zAq hr;have hlen : (vs.take (szT P T)).length = szT P T := by simp; omega
   refine ⟨.agg (vs.take (szT P T)).toArray, by simp only [rep]; exact ⟨_, rfl, zDh _ hr⟩, ?_⟩
   have hcells := run_loadCells_list (P := P) w ⟨b, o, none⟩ (vs.take (szT P T)) (fun j v hv => by
    rw [Addr.add_mid];refine hc j v ?_;rw [List.getElem?_take] at hv;split at hv
    ·exact hv
    ·cases hv)
   rw [hlen, hm] at hcells;simp [Instr.loadAt, Instr.sureAddr, loadVar, Sem.run_bind, zHw ha, sizeOf, typeInfo, hi, hsz, hcells, hm]
 ·rename_i ha
  cases l with
  | nil => simp at hd
  | cons d' r =>
   simp only [zz1] at hd;subst hd;obtain ⟨v, vs', rfl, h1, h2⟩ := zN9 hr;refine ⟨v, h2, ?_⟩;have := hc 0 v rfl;simp only [Nat.add_zero] at this;simp [Instr.loadAt, Instr.sureAddr, loadVar, Sem.run_bind, zHw ha, run_load, this]
 ·cases hd
end Go.Sx
namespace Go.Sx
open Go.RowKit
def kdT (P : Program) (T : Nat) : Nat :=
 match P.underlying T with
 | some (.slice _) => 1
 | some .string => 2
 | some (.map ..) => 3
 | some (.array ..) => 4
 | some (.struct _) => 5
 | some (.int _) => 6
 | some .bool => 7
 | some (.interface _) => 8
 | some _ => 9
 | none => 0
def ikT (P : Program) (T : Nat) : Option IntKind :=
 match P.underlying T with
 | some (.int k) => some k
 | _ => none
def elT (P : Program) (T : Nat) : Option Nat :=
 match P.underlying T with
 | some (.slice t) => some t
 | some (.array _ t) => some t
 | _ => none
def lnT (P : Program) (T : Nat) : Option Nat :=
 match P.underlying T with
 | some (.array n _) => some n
 | _ => none
def ftT (P : Program) (T i : Nat) : Option Nat :=
 match P.underlying T with
 | some (.struct fs) => (fs[i]?).map (·.type)
 | _ => none
def lvN (m : MD) : Option (Nat × Nat) := match m.it with
 | some (.live _ es n _ _) => some (es, n)
 | _ => none
def lvE (m : MD) (l : List (SD × SD)) (j : Nat) : Option (Nat × SD) := match m.it, l with
 | some (.live _ es _ f i), (d, _) :: _ => some (es, bif Nat.beq j i then d else f j)
 | _, _ => none
theorem zZ2 {h : Hp} {e : Nm} {w : World} {k es n : Nat} {m : MD} {l : List (SD × SD)} (hm : lvN m = some (es, n)) (x : zDp h e w k (.mp m l)) : ∃ T xs, w.ownsRow 0 T es (e.hd k) n xs ∧ n ≤ maxN ∧ 0 < n := by
 unfold lvN at hm
 split at hm
 ·rename_i T es' n' f i hit
  simp only [zz1, Prod.mk.injEq] at hm;obtain ⟨rfl, rfl⟩ := hm;unfold zDp at x;simp only [hit] at x;obtain ⟨xs, h1, h2, h3, _⟩ := x;exact ⟨T, xs, h1, h2, by omega⟩
 ·cases hm
theorem yEi {h : Hp} {e : Nm} {w : World} {k es j : Nat} {m : MD} {l : List (SD × SD)} {d : SD} (hm : lvE m l j = some (es, d)) (x : zDp h e w k (.mp m l)) : ∃ T n xs, w.ownsRow 0 T es (e.hd k) n xs ∧ n ≤ maxN ∧
  (j < n → ∃ u : Value, rep h d e u ∧ u.cells.toList = cut xs (j * es) es ∧ u.cells.size = es ∧ ∀ c ∈ u.cells, c.oneCell' = true) := by
 unfold lvE at hm
 split at hm
 ·rename_i T es' n' f i d0 c0 r hit
  simp only [zz1, Prod.mk.injEq] at hm;obtain ⟨rfl, rfl⟩ := hm;unfold zDp at x;simp only [hit] at x;obtain ⟨xs, h1, h2, h3, h4, u, h5, h6⟩ := x;refine ⟨T, n', xs, h1, h2, fun hj => ?_⟩;cases hb : Nat.beq j i
  ·obtain ⟨u', u1, u2⟩ := h4 j hj (zB2 hb)
   exact ⟨u', u1 e, u2⟩
  ·have := zz4 hb
   subst this;exact ⟨u, h5 d0 c0 r rfl, h6⟩
 ·cases hm
def lenD (s : St) : SD → Option Nat
 | .list _ n _ => some n
 | .lng n _ => some n
 | .nils => some 0
 | .vsl _ _ n _ => some n
 | .accH _ n => some n
 | .acc k => match lkO s.ow k with
  | some (.acc _ _ n _) => some n
  | some (.mp m _) => (lvN m).map (·.2)
  | _ => none
 | _ => none
def zO8 (k : IntKind) (a b : Int) : Int := k.wrap (BitVec.ofInt k.bits a &&& BitVec.ofInt k.bits b).toNat
def orI (k : IntKind) (a b : Int) : Int := k.wrap (BitVec.ofInt k.bits a ||| BitVec.ofInt k.bits b).toNat
def xorI (k : IntKind) (a b : Int) : Int := k.wrap (BitVec.ofInt k.bits a ^^^ BitVec.ofInt k.bits b).toNat
def yGy (k : IntKind) (a b : Int) : Int := k.wrap (BitVec.ofInt k.bits a &&& ~~~(BitVec.ofInt k.bits b)).toNat
def yFq (k : IntKind) (a b : Int) : Int := k.wrap (a * 2 ^ (min b.toNat k.bits))
def zMa (k : IntKind) (a b : Int) : Int := a.fdiv (2 ^ (min b.toNat k.bits))
def yE6 (op : BinOp) (k : IntKind) (a b : Int) : Option SD :=
 match op with
 | .add => some (.int k (k.wrap (a + b)))
 | .sub => some (.int k (k.wrap (a - b)))
 | .mul => some (.int k (k.wrap (a * b)))
 | .and => some (.int k (zO8 k a b))
 | .or => some (.int k (orI k a b))
 | .xor => some (.int k (xorI k a b))
 | .andNot => some (.int k (yGy k a b))
 | .eql => some (.bool (a == b))
 | .neq => some (.bool (a != b))
 | .lss => some (.bool (decide (a < b)))
 | .leq => some (.bool (decide (a ≤ b)))
 | .gtr => some (.bool (decide (b < a)))
 | .geq => some (.bool (decide (b ≤ a)))
 | _ => none
theorem zX2 {P : Program} {op : BinOp} {k : IntKind} {a b : Int} {d : SD} (hd : yE6 op k a b = some d) (w : World) (h : Hp) (e : Nm) (T : Nat) :
  ∃ v, rep h d e v ∧ (binOp op T (.int k a) (.int k b)).run P w = .ok v w := by
 cases op <;> simp only [yE6, zz1, reduceCtorEq] at hd <;> subst hd <;> simp [rep, binOp, Op.intArith, Op.intBits, Op.intCmp, zO8, orI, xorI, yGy]
def yFy (op : BinOp) (a b : ByteArray) : Option SD :=
 match op with
 | .eql => some (.bool (a == b))
 | .neq => some (.bool (!(a == b)))
 | .lss => some (.bool (Op.bytesLess a.toList b.toList))
 | .leq => some (.bool (Op.bytesLess a.toList b.toList || a.toList == b.toList))
 | .gtr => some (.bool (!(Op.bytesLess a.toList b.toList || a.toList == b.toList)))
 | .geq => some (.bool (!Op.bytesLess a.toList b.toList))
 | _ => none
theorem zX1 {P : Program} {op : BinOp} {a b : ByteArray} {d : SD} (hd : yFy op a b = some d) (w : World) (h : Hp) (e : Nm) (T : Nat) :
  ∃ v, rep h d e v ∧ (binOp op T (.string a) (.string b)).run P w = .ok v w := by
 cases op <;> simp only [yFy, zz1, reduceCtorEq] at hd <;> subst hd <;> simp [rep, binOp, Op.stringOp, beq_toListBytes]
def yFz (P : Program) (T : Nat) (op : BinOp) (a b : Bool) : Option SD :=
 bif Nat.beq (kdT P T) 7 then
  match op with
  | .eql => some (.bool (a == b))
  | .neq => some (.bool (!(a == b)))
  | _ => none
 else none
theorem und7 {P : Program} {T : Nat} (h : Nat.beq (kdT P T) 7 = true) : P.underlying T = some .bool := by
 have := zz4 h
 unfold kdT at this
 split at this <;> first | assumption | (simp at this)
theorem zX4 {P : Program} {T : Nat} {op : BinOp} {a b : Bool} {d : SD} (hd : yFz P T op a b = some d) (w : World) (h : Hp) (e : Nm) :
  ∃ v, rep h d e v ∧ (binOp op T (.bool a) (.bool b)).run P w = .ok v w := by
 unfold yFz at hd
 cases hk : Nat.beq (kdT P T) 7
 ·rw [hk] at hd; cases hd
 ·rw [hk] at hd
  have hu := und7 hk;simp only [cond_true] at hd
  have he : ∀ w, (Op.equal T (.bool a) (.bool b)).run P w = .ok (a == b) w := fun w => by
   have : ∀ n, (Op.equalIn (n + 1) T (.bool a) (.bool b)).run P w = .ok (a == b) w := fun n => by simp [Op.equalIn, run_underlying hu]
   exact this 9999
  cases op <;> simp only [zz1, reduceCtorEq] at hd <;> subst hd <;> simp [rep, binOp, he]
def eqL : List SD → List SD → Option Bool
 | [], [] => some true
 | .int _ a :: l, .int _ b :: r => (eqL l r).map fun t => (a == b) && t
 | .str a :: l, .str b :: r => (eqL l r).map fun t => (a == b) && t
 | .bool a :: l, .bool b :: r => (eqL l r).map fun t => (a == b) && t
 | _, _ => none
def yDm (P : Program) (T : Nat) (op : BinOp) : SD → SD → Option SD
 | .int j a, .int k b => if j = k then (match op with
  | .shl | .shr | .quo | .rem => none
  | _ => yE6 op k a b) else none
 | .str a, .str b => yFy op a b
 | .bool a, .bool b => yFz P T op a b
 | _, _ => none
theorem zX3 {P : Program} {T : Nat} {op : BinOp} {x y d : SD} (hd : yDm P T op x y = some d) (w : World) (h : Hp) (e : Nm) (va vb : Value) (ha : rep h x e va) (hb : rep h y e vb) (X Y : Operand) :
  ∃ v, rep h d e v ∧ (do eqGuard op T X Y va vb; binOp op T va vb : Sem Value).run P w = .ok v w := by
 unfold yDm at hd
 split at hd
 ·rename_i j a k b
  simp only [rep] at ha hb;subst ha hb;split at hd
  ·rename_i hjk
   subst hjk
   have hd' : yE6 op j a b = some d := by
    revert hd
    cases op <;> simp
   obtain ⟨v, h1, h2⟩ := zX2 (P := P) hd' w h e T;refine ⟨v, h1, ?_⟩;have hg : (eqGuard op T X Y (.int j a) (.int j b)).run P w = .ok () w := by cases op <;> simp [eqGuard]
   simp [hg, h2]
  ·cases hd
 ·rename_i a b
  simp only [rep] at ha hb;subst ha hb;obtain ⟨v, h1, h2⟩ := zX1 (P := P) hd w h e T;refine ⟨v, h1, ?_⟩;have hg : (eqGuard op T X Y (.string a) (.string b)).run P w = .ok () w := by cases op <;> simp [eqGuard]
  simp [hg, h2]
 ·rename_i a b
  simp only [rep] at ha hb;subst ha hb;obtain ⟨v, h1, h2⟩ := zX4 (P := P) hd w h e;refine ⟨v, h1, ?_⟩;have hg : (eqGuard op T X Y (.bool a) (.bool b)).run P w = .ok () w := by cases op <;> simp [eqGuard]
  simp [hg, h2]
 ·cases hd
def unD (op : UnOp) : SD → Option SD
 | .bool b => match op with
  | .not => some (.bool (!b))
  | _ => none
 | .int k n => match op with
  | .neg => some (.int k (k.wrap (0 - n)))
  | _ => none
 | _ => none
theorem yA4 {P : Program} {op : UnOp} {x d : SD} (hd : unD op x = some d) (w : World) (h : Hp) (e : Nm) (va : Value) (ha : rep h x e va) :
  ∃ v, rep h d e v ∧ (Op.unary op va).run P w = .ok v w := by
 unfold unD at hd
 split at hd
 ·simp only [rep] at ha
  subst ha;split at hd
  ·simp only [zz1] at hd; subst hd; simp [rep, Op.unary]
  ·cases hd
 ·simp only [rep] at ha
  subst ha;split at hd
  ·simp only [zz1] at hd; subst hd; simp [rep, Op.unary, Op.intArith]
  ·cases hd
 ·cases hd
def atD (s : St) : SD → Option (List SD)
 | .loc k off => match lkO s.ow k with
  | some (.var l) => some (l.drop off)
  | _ => none
 | .fp l => some l
 | .aptr k es i off => match lkO s.ow k with
  | some (.acc _ es' _ f) => bif Nat.beq es es' then (cellsD (f i)).map (·.drop off) else none
  | some (.mp m l) => match lvE m l i with
   | some (es', d) => bif Nat.beq es es' then (cellsD d).map (·.drop off) else none
   | none => none
  | _ => none
 | _ => none
section
variable {P : Program} {F : List Nat} {w0 : Base} {s : St} {h : Hp} {e : Nm} {a : Act} {w : World}
theorem cell_of_block {w : World} {b : Nat} {cs : Array Value} {T : Nat} {fr : Nat × Nat} (hb : w.heap[b]? = some (.cells cs T fr)) (o : Nat) : w.cell? ⟨b, o, none⟩ = cs[o]? := cell_of_row w b o cs T fr hb
theorem Den.at (D : Den F w0 s h e a w) {x : SD} {l : List SD} {v : Value} (hx : rep h x e v) (hl : atD s x = some l) :
  ∃ b o vs, v = .pointer (some ⟨b, o, none⟩) ∧ (∀ j u, vs[j]? = some u → w.cell? ⟨b, o + j, none⟩ = some u) ∧ repC h l e vs := by
 cases x <;> simp only [atD, reduceCtorEq, zz1] at hl
 case loc k off =>
  split at hl
  ·rename_i l' ho
   simp only [zz1] at hl;subst hl;obtain ⟨cs, T, h1, h2⟩ := D.own k _ ho;simp only [rep] at hx;refine ⟨_, _, cs.toList.drop off, hx, fun j u hu => ?_, zBy off h2⟩;rw [cell_of_block h1];simpa using hu
  ·cases hl
 case fp l' =>
  subst hl;simp only [rep] at hx;obtain ⟨ad, cs, T, fr, h1, h2, h3, h4⟩ := hx;obtain ⟨b, o, sp⟩ := ad;simp only at h2;subst h2;refine ⟨b, o, _, h1, fun j u hu => ?_, h4 e⟩;rw [cell_of_block (D.sub _ _ h3)];unfold cut at hu;rw [List.getElem?_take] at hu;split at hu
  ·simpa using hu
  ·cases hu
 case aptr k es i off =>
  split at hl
  ·rename_i T es' n f ho
   cases hb : Nat.beq es es'
   ·rw [hb] at hl; cases hl
   ·rw [hb] at hl
    have := zz4 hb;subst this;simp only [cond_true] at hl;cases hc : cellsD (f i) with
    | none => rw [hc] at hl; cases hl
    | some cl =>
     rw [hc] at hl;simp only [Option.map_some, zz1] at hl;subst hl;simp only [rep] at hx;obtain ⟨b, m, c, h1, h2, h3⟩ := hx;obtain ⟨xs, g1, g2, g3⟩ := D.own k _ ho
     have hmn : m = n := by
      rcases g1.2 with ⟨hv, _⟩ | ⟨g, cap, cur, hv, _⟩
      ·rw [h1] at hv; cases hv
      ·rw [h1] at hv; cases hv; rfl
     subst hmn;obtain ⟨u, u1, u2, u3, u4⟩ := g3 i h2;refine ⟨b, i * es + off, (u.cells.toList).drop off, h3, fun j v hv => ?_, zBy off (zAx hc (u1 e))⟩;have hcell := g1.cells (g := b) (by rw [h1]; rfl) (i * es + off + j) v ?_
     ·rwa [show (⟨b, 0, none⟩ : Addr).add (i * es + off + j) = ⟨b, i * es + off + j, none⟩ by unfold Addr.add; split <;> simp_all] at hcell
     ·rw [List.getElem?_drop, u2] at hv
      unfold cut at hv;rw [List.getElem?_take] at hv;split at hv
      ·rw [List.getElem?_drop] at hv
       rw [← hv]; congr 1; omega
      ·cases hv
  ·rename_i m ml ho
   split at hl
   ·rename_i es' d hle
    cases hb : Nat.beq es es'
    ·rw [hb] at hl; cases hl
    ·rw [hb] at hl
     have := zz4 hb;subst this;simp only [cond_true] at hl;cases hc : cellsD d with
     | none => rw [hc] at hl; cases hl
     | some cl =>
      rw [hc] at hl;simp only [Option.map_some, zz1] at hl;subst hl;simp only [rep] at hx;obtain ⟨b, m', c, h1, h2, h3⟩ := hx;obtain ⟨T, n, xs, g1, g2, g3⟩ := yEi hle (D.own k _ ho)
      have hmn : m' = n := by
       rcases g1.2 with ⟨hv, _⟩ | ⟨g, cap, cur, hv, _⟩
       ·rw [h1] at hv; cases hv
       ·rw [h1] at hv; cases hv; rfl
      subst hmn;obtain ⟨u, u1, u2, u3, u4⟩ := g3 h2;refine ⟨b, i * es + off, (u.cells.toList).drop off, h3, fun j v hv => ?_, zBy off (zAx hc u1)⟩;have hcell := g1.cells (g := b) (by rw [h1]; rfl) (i * es + off + j) v ?_
      ·rwa [show (⟨b, 0, none⟩ : Addr).add (i * es + off + j) = ⟨b, i * es + off + j, none⟩ by unfold Addr.add; split <;> simp_all] at hcell
      ·rw [List.getElem?_drop, u2] at hv
       unfold cut at hv;rw [List.getElem?_take] at hv;split at hv
       ·rw [List.getElem?_drop] at hv
        rw [← hv]; congr 1; omega
       ·cases hv
   ·cases hl
  ·cases hl
end
end Go.Sx
namespace Go.Sx
open Go.RowKit
def zAn : List Prop → Prop
 | [] => True
 | p :: r => p ∧ zAn r
def gC : SD → List Prop → List Prop
 | .gd c _, r => (c = true) :: r
 | _, r => r
def gCs (s : St) : List Operand → List Prop → List Prop
 | [], r => r
 | x :: l, r => gC (ev s x) (gCs s l r)
theorem zAt {s : St} : ∀ {l : List Operand} {r : List Prop}, zAn (gCs s l r) → (∀ x ∈ l, ∀ c d, ev s x = .gd c d → c = true) ∧ zAn r
 | [], _, h => ⟨by simp, h⟩
 | x :: l, r, h => by
  simp only [gCs] at h;cases hx : ev s x with
  | gd c d =>
   rw [hx] at h;simp only [gC, zAn] at h;have ih := zAt h.2;refine ⟨fun y hy c' d' hc => ?_, ih.2⟩
   rcases List.mem_cons.1 hy with rfl | hy
   ·rw [hx] at hc; cases hc; exact h.1
   ·exact ih.1 y hy c' d' hc
  | _ =>
   rw [hx] at h;simp only [gC] at h;have ih := zAt h;refine ⟨fun y hy c' d' hc => ?_, ih.2⟩
   rcases List.mem_cons.1 hy with rfl | hy
   ·rw [hx] at hc; cases hc
   ·exact ih.1 y hy c' d' hc
theorem zD4 {h : Hp} {e : Nm} {d : SD} {v : Value} (x : rep h d e v) (hc : ∀ c d', d = .gd c d' → c = true) : rep h (ungd d) e v := by
 cases d with
 | gd c d' => simp only [rep] at x; exact x.1 (hc c d' rfl)
 | _ => exact x
def faD (P : Program) (T i : Nat) (d : SD) : Option SD :=
 bif Nat.beq (kdT P T) 5 then
  match plT P T i with
  | some (o, _) => match d with
   | .loc k off => some (.loc k (off + o))
   | .fp l => some (.fp (l.drop o))
   | .aptr k es j off => some (.aptr k es j (off + o))
   | _ => none
  | none => none
 else none
theorem und5 {P : Program} {T : Nat} (h : Nat.beq (kdT P T) 5 = true) : ∃ fs, P.underlying T = some (.struct fs) := by
 have := zz4 h
 unfold kdT at this
 split at this <;> first | exact ⟨_, by assumption⟩ | (simp at this)
theorem zPb {P : Program} {T : Nat} (h : Nat.beq (kdT P T) 1 = true) : ∃ t, P.underlying T = some (.slice t) := by
 have := zz4 h
 unfold kdT at this
 split at this <;> first | exact ⟨_, by assumption⟩ | (simp at this)
theorem yC8 {P : Program} {T : Nat} (h : Nat.beq (kdT P T) 2 = true) : P.underlying T = some .string := by
 have := zz4 h
 unfold kdT at this
 split at this <;> first | assumption | (simp at this)
theorem und4 {P : Program} {T : Nat} (h : Nat.beq (kdT P T) 4 = true) : ∃ n t, P.underlying T = some (.array n t) := by
 have := zz4 h
 unfold kdT at this
 split at this <;> first | exact ⟨_, _, by assumption⟩ | (simp at this)
theorem zIt {P : Program} {T i o z : Nat} {fs : Array Field} (hu : P.underlying T = some (.struct fs)) (h : plT P T i = some (o, z)) :
  ∃ f j, fs[i]? = some f ∧ f.offset = o ∧ P.info? f.type = some j ∧ j.size = z ∧ z ≠ 0 := by
 unfold plT at h
 rw [hu] at h
 simp only at h
 cases hf : fs[i]? with
 | none => rw [hf] at h; cases h
 | some f =>
  rw [hf] at h;simp only at h;split at h
  ·cases h
  ·rename_i hn
   simp only [not_or, Option.isNone_iff_eq_none] at hn;simp only [zz1, Prod.mk.injEq] at h;cases hi : P.info? f.type with
   | none => exact absurd hi hn.2
   | some j =>
    have hz : P.cellsOf f.type = j.size := by simp [Program.cellsOf, hi]
    exact ⟨f, j, rfl, h.1, hi, by rw [← hz]; exact h.2, by rw [← h.2]; exact hn.1⟩
theorem zKg {P : Program} {T i o z n t : Nat} (hu : P.underlying T = some (.array n t)) (h : plT P T i = some (o, z)) :
  ∃ j, P.info? t = some j ∧ o = i * j.size ∧ z = j.size ∧ z ≠ 0 := by
 unfold plT at h
 rw [hu] at h
 simp only at h
 split at h
 ·cases h
 ·rename_i hn
  simp only [zz1, Prod.mk.injEq] at h;cases hi : P.info? t with
  | none => simp [Program.cellsOf, hi] at hn
  | some j =>
   have hz : P.cellsOf t = j.size := by simp [Program.cellsOf, hi]
   rw [hz] at h hn;exact ⟨j, rfl, h.1.symm, h.2.symm, by rw [← h.2]; exact hn⟩
theorem zKc {h : Hp} {e : Nm} {l : List SD} {ad : Addr} {o : Nat} (x : rep h (.fp l) e (.pointer (some ad))) : rep h (.fp (l.drop o)) e (.pointer (some (ad.add o))) := by
 simp only [rep] at x ⊢
 obtain ⟨ad', cs, T, fr, h1, h2, h3, h4⟩ := x
 simp only [Value.pointer.injEq, zz1] at h1
 subst h1
 obtain ⟨b, off, sp⟩ := ad
 simp only at h2
 subst h2
 rw [Addr.add_mid]
 refine ⟨_, cs, T, fr, rfl, rfl, h3, fun e => ?_⟩
 have := zBy o (h4 e)
 unfold cut at this ⊢
 rw [List.drop_take, List.drop_drop] at this
 simpa using this
section
variable {P : Program} {F : List Nat} {w0 : Base} {s : St} {h : Hp} {e : Nm} {a : Act} {w : World}
theorem yBe {T i : Nat} {x d : SD} {v : Value} (hx : rep h x e v) (hd : faD P T i x = some d) : ∃ u, rep h d e u ∧ ∀ w : World, (Instr.fieldAt T v i).run P w = .ok u w := by
 unfold faD at hd
 cases hk : Nat.beq (kdT P T) 5
 ·rw [hk] at hd; cases hd
 ·rw [hk] at hd
  simp only [cond_true] at hd;obtain ⟨fs, hu⟩ := und5 hk;split at hd
  ·rename_i o z hp
   obtain ⟨f, j, hf, ho, hi, hz, hz0⟩ := zIt hu hp
   have key : ∀ (ad : Addr) (w : World), (Instr.fieldAt T (.pointer (some ad)) i).run P w = .ok (.pointer (some (ad.add o))) w := fun ad w => by
    have : ¬ j.size = 0 := by rw [hz]; exact hz0
    simp [Instr.fieldAt, run_underlying hu, hf, Instr.sureAddr, fieldPlace, sizeOf, typeInfo, hi, this, ho]
   split at hd
   ·rename_i k off
    simp only [zz1] at hd;subst hd;simp only [rep] at hx;subst hx;exact ⟨_, by simp only [rep, Addr.add_mid], key _⟩
   ·rename_i l
    simp only [zz1] at hd;subst hd;have hx' := hx;simp only [rep] at hx';obtain ⟨ad, _, _, _, rfl, _⟩ := hx';exact ⟨_, zKc hx, key _⟩
   ·rename_i k es j' off
    simp only [zz1] at hd;subst hd;simp only [rep] at hx;obtain ⟨b, n, c, h1, h2, rfl⟩ := hx;exact ⟨_, by simp only [rep, Addr.add_mid]; exact ⟨b, n, c, h1, h2, by rw [Nat.add_assoc]⟩, key _⟩
   ·cases hd
  ·cases hd
end
def iaD (P : Program) (s : St) (T : Nat) (x : SD) (i : Int) : Option (List Prop × SD) :=
 bif Nat.beq (kdT P T) 1 then
  match elT P T with
  | some t => match x with
   | .list es n f => bif Nat.beq es (szT P t) && Nat.ble 1 es then
     match cellsD (f i.toNat) with
     | some l => some ([0 ≤ i, i < (n : Int)], .fp l)
     | none => none
    else none
   | .acc k => match lkO s.ow k with
    | some (.acc _ es n _) => bif Nat.beq es (szT P t) && Nat.ble 1 es then some ([0 ≤ i, i < (n : Int)], .aptr k es i.toNat 0) else none
    | some (.mp m _) => match lvN m with
     | some (es, n) => bif Nat.beq es (szT P t) && Nat.ble 1 es then some ([0 ≤ i, i < (n : Int)], .aptr k es i.toNat 0) else none
     | none => none
    | _ => none
   | .vsl k off n _ => bif Nat.ble 1 (szT P t) then some ([0 ≤ i, i < (n : Int)], .loc k (off + i.toNat * szT P t)) else none
   | .lng n f => bif Nat.beq (szT P t) 1 then some ([0 ≤ i, i < (n : Int)], .fp [.int .i64 (f i.toNat)]) else none
   | _ => none
  | none => none
 else bif Nat.beq (kdT P T) 4 then
  match lnT P T, plT P T i.toNat with
  | some n, some (o, _) => match x with
   | .loc k off => some ([0 ≤ i, i < (n : Int)], .loc k (off + o))
   | .fp l => some ([0 ≤ i, i < (n : Int)], .fp (l.drop o))
   | .aptr k es j off => some ([0 ≤ i, i < (n : Int)], .aptr k es j (off + o))
   | _ => none
  | _, _ => none
 else none
theorem zBr {P : Program} {T t t' : Nat} (hu : P.underlying T = some (.slice t)) (h : elT P T = some t') : t' = t := by
 unfold elT at h; rw [hu] at h; simp at h; exact h.symm
theorem yBc {P : Program} {F : List Nat} {w0 : Base} {s : St} {h : Hp} {e : Nm} {a : Act} {w : World} (D : Den F w0 s h e a w) {T : Nat} {x d : SD} {k : IntKind} {i : Int} {v : Value} {vc : List Prop}
  (hx : rep h x e v) (hd : iaD P s T x i = some (vc, d)) (hvc : zAn vc) : ∃ u, rep h d e u ∧ (Instr.indexAt T v (.int k i)).run P w = .ok u w := by
 unfold iaD at hd
 cases hk : Nat.beq (kdT P T) 1
 ·rw [hk] at hd
  simp only [cond_false] at hd;cases hk4 : Nat.beq (kdT P T) 4
  ·rw [hk4] at hd; cases hd
  ·rw [hk4] at hd
   simp only [cond_true] at hd;obtain ⟨n, t, hu⟩ := und4 hk4;split at hd
   ·rename_i n' o z hn hp
    have hnn : n' = n := by unfold lnT at hn; rw [hu] at hn; simp at hn; exact hn.symm
    subst hnn;obtain ⟨j, hi, ho, hz, hz0⟩ := zKg hu hp
    have key : ∀ (ad : Addr) (w : World), 0 ≤ i → i < (n' : Int) → (Instr.indexAt T (.pointer (some ad)) (.int k i)).run P w = .ok (.pointer (some (ad.add o))) w := fun ad w h0 h1 => by
     simp [Instr.indexAt, asIntOf, run_underlying hu, Instr.sureAddr, sizeOf, typeInfo, hi, h0, h1, ho]
    split at hd
    ·rename_i k' off
     simp only [zz1, Prod.mk.injEq] at hd;obtain ⟨rfl, rfl⟩ := hd;simp only [zAn] at hvc;simp only [rep] at hx;subst hx;exact ⟨_, by simp only [rep, Addr.add_mid], key _ w hvc.1 hvc.2.1⟩
    ·rename_i l
     simp only [zz1, Prod.mk.injEq] at hd;obtain ⟨rfl, rfl⟩ := hd;simp only [zAn] at hvc;have hx' := hx;simp only [rep] at hx';obtain ⟨ad, _, _, _, rfl, _⟩ := hx';exact ⟨_, zKc hx, key _ w hvc.1 hvc.2.1⟩
    ·rename_i k' es j' off
     simp only [zz1, Prod.mk.injEq] at hd;obtain ⟨rfl, rfl⟩ := hd;simp only [zAn] at hvc;simp only [rep] at hx;obtain ⟨b, n, c, h1, h2, rfl⟩ := hx;exact ⟨_, by simp only [rep, Addr.add_mid]; exact ⟨b, n, c, h1, h2, by rw [Nat.add_assoc]⟩, key _ w hvc.1 hvc.2.1⟩
    ·cases hd
   ·cases hd
 ·rw [hk] at hd
  simp only [cond_true] at hd;obtain ⟨t, hu⟩ := zPb hk;split at hd
  ·rename_i t' ht
   have := zBr hu ht;subst this
   have key : ∀ (ad : Addr) (n c : Nat) (m : Nat) (w : World), szT P t' = m + 1 → 0 ≤ i → i < (n : Int) →
     (Instr.indexAt T (.slice (some ad) n c) (.int k i)).run P w = .ok (.pointer (some (ad.add (i.toNat * szT P t')))) w := fun ad n c m w hm h0 h1 => by
    obtain ⟨j, hi, hs⟩ := zAl hm;simp [Instr.indexAt, asIntOf, run_underlying hu, sizeOf, typeInfo, hi, h0, h1, hm, hs]
   split at hd
   ·rename_i es n f
    cases hb : (Nat.beq es (szT P t') && Nat.ble 1 es)
    ·rw [hb] at hd; cases hd
    ·rw [hb] at hd
     simp only [cond_true] at hd;simp only [zz3] at hb;have he := zz4 hb.1;have he1 := Nat.le_of_ble_eq_true hb.2;split at hd
     ·rename_i l hl
      simp only [zz1, Prod.mk.injEq] at hd;obtain ⟨rfl, rfl⟩ := hd;simp only [zAn] at hvc;obtain ⟨h0, h1, _⟩ := hvc;simp only [rep] at hx;obtain ⟨ao, cap, rfl, g2, g3, g4⟩ := hx;have hin : i.toNat < n := by omega
      obtain ⟨ad, cs, T', fr, rfl, h5, h6, h7⟩ := g4 (by omega);obtain ⟨u, u1, u2, u3, u4⟩ := h7 i.toNat hin;refine ⟨_, ?_, key ad n cap (es - 1) w (by rw [← he]; omega) h0 h1⟩;obtain ⟨b, off, sp⟩ := ad;simp only at h5;subst h5;rw [Addr.add_mid];simp only [rep];refine ⟨_, cs, T', fr, rfl, rfl, h6, fun e' => ?_⟩;have hr := zAx hl (u1 e');have hlen := zAq hr;rw [u2] at hr;rw [← he];have : l.length = es := by rw [← hlen]; simpa using u3
      rw [this];exact hr
     ·cases hd
   ·rename_i k'
    split at hd
    ·rename_i Ta es n f ho
     cases hb : (Nat.beq es (szT P t') && Nat.ble 1 es)
     ·rw [hb] at hd; cases hd
     ·rw [hb] at hd
      simp only [cond_true, zz1, Prod.mk.injEq] at hd;obtain ⟨rfl, rfl⟩ := hd;simp only [zz3] at hb;have he := zz4 hb.1;have he1 := Nat.le_of_ble_eq_true hb.2;simp only [zAn] at hvc;obtain ⟨h0, h1, _⟩ := hvc;simp only [rep] at hx;obtain ⟨xs, g1, g2, g3⟩ := D.own _ _ ho
      rcases g1.2 with ⟨hv, hn0⟩ | ⟨g, cap, cur, hv, _⟩
      ·omega
      ·obtain ⟨hx1, _⟩ := hx
       rw [hv] at hx1;subst hx1;refine ⟨_, ?_, key _ n cap (es - 1) w (by rw [← he]; omega) h0 h1⟩;rw [Addr.add_mid, ← he];simp only [rep];exact ⟨g, n, cap, hv, by omega, by simp⟩
    ·rename_i m ml ho
     split at hd
     ·rename_i es n hle
      cases hb : (Nat.beq es (szT P t') && Nat.ble 1 es)
      ·rw [hb] at hd; cases hd
      ·rw [hb] at hd
       simp only [cond_true, zz1, Prod.mk.injEq] at hd;obtain ⟨rfl, rfl⟩ := hd;simp only [zz3] at hb;have he := zz4 hb.1;have he1 := Nat.le_of_ble_eq_true hb.2;simp only [zAn] at hvc;obtain ⟨h0, h1, _⟩ := hvc;simp only [rep] at hx;obtain ⟨Ta, xs, g1, g2, g3⟩ := zZ2 hle (D.own _ _ ho)
       rcases g1.2 with ⟨hv, hn0⟩ | ⟨g, cap, cur, hv, _⟩
       ·omega
       ·obtain ⟨hx1, _⟩ := hx
        rw [hv] at hx1;subst hx1;refine ⟨_, ?_, key _ n cap (es - 1) w (by rw [← he]; omega) h0 h1⟩;rw [Addr.add_mid, ← he];simp only [rep];exact ⟨g, n, cap, hv, by omega, by simp⟩
     ·cases hd
    ·cases hd
   ·rename_i k' off n cap
    cases hb : Nat.ble 1 (szT P t')
    ·rw [hb] at hd; cases hd
    ·rw [hb] at hd
     simp only [cond_true, zz1, Prod.mk.injEq] at hd;obtain ⟨rfl, rfl⟩ := hd;have he1 := Nat.le_of_ble_eq_true hb;simp only [zAn] at hvc;obtain ⟨h0, h1, _⟩ := hvc;simp only [rep] at hx;obtain ⟨rfl, _⟩ := hx;refine ⟨_, ?_, key _ n cap (szT P t' - 1) w (by omega) h0 h1⟩;rw [Addr.add_mid];simp only [rep]
   ·rename_i n f
    cases hb : Nat.beq (szT P t') 1
    ·rw [hb] at hd; cases hd
    ·rw [hb] at hd
     simp only [cond_true, Option.some.injEq, Prod.mk.injEq] at hd
     obtain ⟨rfl, rfl⟩ := hd
     have he := Nat.eq_of_beq_eq_true hb
     obtain ⟨h0, h1, _⟩ : 0 ≤ i ∧ i < (n : Int) ∧ True := hvc
     simp only [rep] at hx
     obtain ⟨ao, cap, rfl, g2, g3, g4⟩ := hx
     obtain ⟨ad, cs, T', fr, rfl, h5, h6, h7⟩ := g4 (by omega)
     obtain ⟨hlt, hv⟩ := List.getElem?_eq_some_iff.1 (h7 i.toNat (by omega))
     refine ⟨_, ?_, key ad n cap 0 w (by omega) h0 h1⟩
     obtain ⟨b, off, sp⟩ := ad
     simp only at h5
     subst h5
     rw [Addr.add_mid, he, Nat.mul_one]
     simp only [rep]
     refine ⟨_, cs, T', fr, rfl, rfl, h6, fun e' => ?_⟩
     have hc : cut cs.toList (off + i.toNat) 1 = [.int .i64 (f i.toNat)] := by unfold cut; rw [List.drop_eq_getElem_cons hlt, hv]; rfl
     rw [show [SD.int .i64 (f i.toNat)].length = 1 from rfl, hc]
     simp only [repC, rep]
     exact ⟨_, _, rfl, rfl, rfl, rfl⟩
   ·cases hd
  ·cases hd
end Go.Sx
namespace Go.Sx
open Go.RowKit
mutual
def zCy : SD → Bool
 | .agg l => zGs l
 | .loc .. => false
 | .acc _ => false
 | .accH .. => false
 | .aptr .. => false
 | .accp .. => false
 | .vsl .. => false
 | .bfn _ l => zGs l
 | .gd _ d => zCy d
 | .tup l => zGs l
 | .fn _ l => zGs l
 | .iface _ d => zCy d
 | .omap _ => false
 | _ => true
def zGs : List SD → Bool
 | [] => true
 | d :: r => zCy d && zGs r
end
mutual
theorem zDc {h : Hp} {e e' : Nm} : ∀ (d : SD) (v : Value), zCy d = true → rep h d e v → rep h d e' v
 | .any, _, _, _ => by simp [rep]
 | .int .., _, _, x => by simpa [rep] using x
 | .bool .., _, _, x => by simpa [rep] using x
 | .str .., _, _, x => by simpa [rep] using x
 | .agg l, v, hm, x => by
  simp only [rep] at x ⊢;obtain ⟨vs, h1, h2⟩ := x;exact ⟨vs, h1, zKf l vs (by simpa [zCy] using hm) h2⟩
 | .list .., _, _, x => by simpa [rep] using x
 | .lng .., _, _, x => by simpa [rep] using x
 | .nils, _, _, x => by simpa [rep] using x
 | .fp .., _, _, x => by simpa [rep] using x
 | .nilp, _, _, x => by simpa [rep] using x
 | .loc .., _, hm, _ => by simp [zCy] at hm
 | .acc .., _, hm, _ => by simp [zCy] at hm
 | .accH .., _, hm, _ => by simp [zCy] at hm
 | .aptr .., _, hm, _ => by simp [zCy] at hm
 | .accp .., _, hm, _ => by simp [zCy] at hm
 | .vsl .., _, hm, _ => by simp [zCy] at hm
 | .bfn f l, v, hm, x => by
  simp only [rep] at x ⊢;obtain ⟨vs, h1, h2⟩ := x;exact ⟨vs, h1, zH3 l vs (by simpa [zCy] using hm) h2⟩
 | .gd c d, v, hm, x => by
  simp only [rep] at x ⊢;exact ⟨fun hc => zDc d v (by simpa [zCy] using hm) (x.1 hc), x.2⟩
 | .tup l, v, hm, x => by
  simp only [rep] at x ⊢;obtain ⟨vs, h1, h2⟩ := x;exact ⟨vs, h1, zH3 l vs (by simpa [zCy] using hm) h2⟩
 | .fn f l, v, hm, x => by
  simp only [rep] at x ⊢;obtain ⟨vs, h1, h2⟩ := x;exact ⟨vs, h1, zH3 l vs (by simpa [zCy] using hm) h2⟩
 | .nilfn, _, _, x => by simpa [rep] using x
 | .iface t d, v, hm, x => by
  simp only [rep] at x ⊢;obtain ⟨u, h1, h2⟩ := x;exact ⟨u, h1, zDc d u (by simpa [zCy] using hm) h2⟩
 | .nilif, _, _, x => by simpa [rep] using x
 | .omap .., _, hm, _ => by simp [zCy] at hm
 | .nilmap, _, _, x => by simpa [rep] using x
 | .fmap .., _, _, x => by simpa only [rep] using x
 | .yld .., _, _, x => by simpa only [rep] using x
 | .val .., _, _, x => by simpa only [rep] using x
theorem zKf {h : Hp} {e e' : Nm} : ∀ (l : List SD) (vs : List Value), zGs l = true → repC h l e vs → repC h l e' vs
 | [], _, _, x => by simpa [repC] using x
 | d :: r, vs, hm, x => by
  simp only [repC] at x ⊢;simp only [zGs, zz3] at hm;obtain ⟨v, vs', h1, h2, h3, h4⟩ := x;exact ⟨v, vs', h1, h2, zDc d v hm.1 h3, zKf r vs' hm.2 h4⟩
theorem zH3 {h : Hp} {e e' : Nm} : ∀ (l : List SD) (vs : List Value), zGs l = true → repT h l e vs → repT h l e' vs
 | [], _, _, x => by simpa [repT] using x
 | d :: r, vs, hm, x => by
  simp only [repT] at x ⊢;simp only [zGs, zz3] at hm;obtain ⟨v, vs', h1, h2, h3⟩ := x;exact ⟨v, vs', h1, zDc d v hm.1 h2, zH3 r vs' hm.2 h3⟩
end
theorem zR0 (o : Nat) : ∀ (vs : List Value) (i : Nat) (cs : Array Value), o + i + vs.length ≤ cs.size →
  ((vs.zipIdx i).foldl (fun cs (p : Value × Nat) => cs.setIfInBounds (o + p.2) p.1) cs).toList = cs.toList.take (o + i) ++ vs ++ cs.toList.drop (o + i + vs.length)
 | [], i, cs, _ => by simp
 | v :: r, i, cs, h => by
  simp only [List.length_cons] at h;simp only [List.zipIdx_cons, List.foldl_cons];rw [zR0 o r (i + 1) _ (by simp; omega)];simp only [Array.toList_setIfInBounds];have hlt : o + i < cs.toList.length := by simp; omega
  rw [show o + (i + 1) = o + i + 1 by omega, List.length_cons, show o + i + (r.length + 1) = o + i + 1 + r.length by omega];rw [List.drop_set_of_lt (by omega)]
  have : (cs.toList.set (o + i) v).take (o + i + 1) = cs.toList.take (o + i) ++ [v] := by
   rw [List.take_set, List.take_succ_eq_append_getElem hlt];rw [List.set_append_right _ _ (by simp; omega)];have : o + i - (List.take (o + i) cs.toList).length = 0 := by rw [List.length_take]; omega
   rw [this];rfl
  rw [this];simp
theorem zWh {place : Nat → Option (Nat × Nat)} {cells : Array Value} {i o z : Nat} {v : Value} {rest : List (Nat × Value)} (hp : place i = some (o, z)) (hz : v.cells.size = z) (hf : o + z ≤ cells.size) :
  ∃ cells' : Array Value, Instr.fill place cells ((i, v) :: rest) = Instr.fill place cells' rest ∧ cells'.toList = cells.toList.take o ++ v.cells.toList ++ cells.toList.drop (o + z) := by
 refine ⟨v.cells.zipIdx.foldl (fun cs (p : Value × Nat) => cs.setIfInBounds (o + p.2) p.1) cells, ?_, ?_⟩
 ·simp only [Instr.fill, hp]
  rw [if_neg (by simp; omega)]
 ·have := zR0 o v.cells.toList 0 cells (by simp; omega)
  simp only [Nat.add_zero] at this;rw [← Array.foldl_toList];simp only [Array.toList_zipIdx];rw [this];simp [hz]
def bdT (P : Program) (T : Nat) : Option (List SD) :=
 match P.info? T, P.underlying T with
 | some it, some (.array _ e) => match it.zero, P.info? e with
  | some z, some _ => bif z.cells.all (·.oneCell') then some (z.cells.toList.map ofS) else none
  | _, _ => none
 | some it, some (.struct fields) => match it.zero, fields.toList.mapM (fun f => (P.info? f.type).map fun i => (f.offset, i.size)) with
  | some z, some _ => bif z.cells.all (·.oneCell') then some (z.cells.toList.map ofS) else none
  | _, _ => none
 | _, _ => none
theorem zRn {P : Program} : ∀ (fs : List Field) (ps : List (Nat × Nat)), fs.mapM (fun f => (P.info? f.type).map fun i => (f.offset, i.size)) = some ps → ∀ (i : Nat) (f : Field), fs[i]? = some f → ∀ j, P.info? f.type = some j → ps[i]? = some (f.offset, j.size)
 | [], _, _, i, f, h, _, _ => by simp at h
 | g :: fs, ps, h, i, f, hf, j, hj => by
  simp only [List.mapM_cons, Option.bind_eq_bind, Option.pure_def] at h;cases hi : P.info? g.type with
  | none => simp [hi] at h
  | some ii =>
   cases hr : fs.mapM (fun f => (P.info? f.type).map fun i => (f.offset, i.size)) with
   | none => simp [hi, hr] at h
   | some rest =>
    simp [hi, hr] at h;subst h;cases i with
    | zero =>
     simp only [List.getElem?_cons_zero, zz1] at hf ⊢;subst hf;rw [hi] at hj;cases hj;rfl
    | succ i =>
     simp only [List.getElem?_cons_succ] at hf ⊢;exact zRn fs rest hr i f hf j hj
theorem zZd {P : Program} {T : Nat} {zl : List SD} (h : bdT P T = some zl) : ∃ (place : Nat → Option (Nat × Nat)) (z : Value), (∀ parts, P.built T parts = Instr.fill place z.cells parts) ∧ (∀ hp e, repC hp zl e z.cells.toList) ∧
  ∀ i o sz, plT P T i = some (o, sz) → place i = some (o, sz) := by
 unfold bdT at h
 split at h
 ·rename_i it n e hit hu
  split at h
  ·rename_i z ie hz hie
   cases hc : z.cells.all (·.oneCell')
   ·rw [hc] at h; cases h
   ·rw [hc] at h
    simp only [cond_true, zz1] at h;subst h;refine ⟨fun i => some (i * ie.size, ie.size), z, fun parts => by simp [Program.built, hit, hu, hz, hie], fun hp e => zJl hp e _ fun v hv => (Array.all_eq_true_iff_forall_mem.1 hc) v (by simpa using hv), fun i o sz hp => ?_⟩;obtain ⟨j, hj, h1, h2, _⟩ := zKg hu hp;rw [hie] at hj;cases hj;rw [h1, h2]
  ·cases h
 ·rename_i it fs hit hu
  split at h
  ·rename_i z ps hz hps
   cases hc : z.cells.all (·.oneCell')
   ·rw [hc] at h; cases h
   ·rw [hc] at h
    simp only [cond_true, zz1] at h;subst h;refine ⟨(ps.toArray[·]?), z, fun parts => by simp [Program.built, hit, hu, hz, hps], fun hp e => zJl hp e _ fun v hv => (Array.all_eq_true_iff_forall_mem.1 hc) v (by simpa using hv), fun i o sz hp => ?_⟩;obtain ⟨f, j, hf, ho, hj, hsz, _⟩ := zIt hu hp;have := zRn fs.toList ps hps i f (by simpa using hf) j hj;simp [this, ho, hsz]
  ·cases h
 ·cases h
def bdF (P : Program) (T : Nat) : List (Nat × SD) → List SD → Option SD
 | [], z => some (.agg z)
 | (i, d) :: r, z => match plT P T i, cellsD d with
  | some (o, sz), some c => bif Nat.beq c.length sz && Nat.ble (o + sz) z.length then bdF P T r (z.take o ++ c ++ z.drop (o + sz)) else none
  | _, _ => none
theorem yAa {P : Program} {T : Nat} {h : Hp} {e : Nm} {place : Nat → Option (Nat × Nat)} (hpl : ∀ i o sz, plT P T i = some (o, sz) → place i = some (o, sz)) :
  ∀ (l : List (Nat × SD)) (vs : List (Nat × Value)) (z : List SD) (cells : Array Value) (d : SD), bdF P T l z = some d → repC h z e cells.toList →
   (vs.map (·.1) = l.map (·.1)) → repT h (l.map (·.2)) e (vs.map (·.2)) → ∃ cells' : Array Value, Instr.fill place cells vs = some cells' ∧ rep h d e (.agg cells')
 | [], vs, z, cells, d, hd, hz, h1, _ => by
  have : vs = [] := by simpa using h1
  subst this;simp only [bdF, zz1] at hd;subst hd;exact ⟨cells, rfl, by simp only [rep]; exact ⟨cells.toList, by simp, hz⟩⟩
 | (i, x) :: r, vs, z, cells, d, hd, hz, h1, h2 => by
  cases vs with
  | nil => simp at h1
  | cons q vs =>
   obtain ⟨i', v⟩ := q;simp only [List.map_cons, List.cons.injEq] at h1;obtain ⟨rfl, h1⟩ := h1;simp only [List.map_cons, repT] at h2;obtain ⟨v', vs', hv, hx, h2⟩ := h2;simp only [List.cons.injEq] at hv;obtain ⟨rfl, rfl⟩ := hv;simp only [bdF] at hd;split at hd
   ·rename_i o sz c hp hc
    cases hb : (Nat.beq c.length sz && Nat.ble (o + sz) z.length)
    ·rw [hb] at hd; cases hd
    ·rw [hb] at hd
     simp only [cond_true] at hd;simp only [zz3] at hb;have hb1 := zz4 hb.1;have hb2 := Nat.le_of_ble_eq_true hb.2;have hcv := zAx hc hx;have hcl := zAq hcv;have hzl := zAq hz;obtain ⟨cells', g1, g2⟩ := zWh (place := place) (cells := cells) (i := i') (rest := vs) (v := v) (hpl _ _ _ hp) (by simp at hcl; omega) (by simp at hzl; omega);rw [g1];refine yAa hpl r vs _ cells' d hd ?_ h1 h2;rw [g2];exact zBg (zBg (zDh o hz) hcv) (zBy _ hz)
   ·cases hd
def unG (s : St) (x : Operand) : SD := ungd (ev s x)
def zHt (s : St) : List (Nat × Operand) → List (Nat × SD)
 | [] => []
 | (i, x) :: r => (i, unG s x) :: zHt s r
def zK1 : List (Nat × Operand) → List Operand
 | [] => []
 | (_, x) :: r => x :: zK1 r
def bdD (P : Program) (s : St) (T : Nat) (parts : List (Nat × Operand)) : Option (List Prop × SD) :=
 match bdT P T with
 | some z => match bdF P T (zHt s parts) z with
  | some d => some (gCs s (zK1 parts) [], d)
  | none => none
 | none => none
theorem yBh {P : Program} {F : List Nat} {w0 : Base} {s : St} {h : Hp} {e : Nm} {a : Act} {w : World} (D : Den F w0 s h e a w) {T : Nat} {parts : Array (Nat × Operand)} {p : List Prop} {d : SD}
  (hq : bdD P s T parts.toList = some (p, d)) (hp : zAn p) : ∃ v, rep h d e v ∧ (Instr.build T (parts.map fun (i, x) => (i, a.eval x))).run P w = .ok v w := by
 unfold bdD at hq
 split at hq
 ·rename_i z hz
  split at hq
  ·rename_i d' hd
   simp only [zz1, Prod.mk.injEq] at hq;obtain ⟨rfl, rfl⟩ := hq;obtain ⟨place, zv, h1, h2, h3⟩ := zZd hz;have hg := (zAt hp).1
   have key : ∀ (l : List (Nat × Operand)), (∀ x ∈ zK1 l, ∀ c d, ev s x = .gd c d → c = true) → (l.map fun (q : Nat × Operand) => (q.1, a.eval q.2)).map (·.1) = (zHt s l).map (·.1) ∧ repT h ((zHt s l).map (·.2)) e ((l.map fun (q : Nat × Operand) => (q.1, a.eval q.2)).map (·.2)) := by
    intro l
    induction l with
    | nil => intro _; simp [zHt, repT]
    | cons q r ih =>
     obtain ⟨i, x⟩ := q;intro hl;obtain ⟨g1, g2⟩ := ih fun y hy => hl y (by simp [zK1, hy]);refine ⟨by simp [zHt] at g1 ⊢; exact g1, ?_⟩;simp only [zHt, List.map_cons, repT];exact ⟨_, _, rfl, zD4 (D.ev x) (hl x (by simp [zK1])), by simpa using g2⟩
   obtain ⟨k1, k2⟩ := key parts.toList hg;obtain ⟨cells, g1, g2⟩ := yAa (h := h) (e := e) h3 (zHt s parts.toList) _ z zv.cells d' hd (h2 h e) k1 k2;refine ⟨_, g2, run_build w T _ cells ?_⟩;rw [h1];have : (parts.map fun (i, x) => (i, a.eval x)).toList = parts.toList.map fun (q : Nat × Operand) => (q.1, a.eval q.2) := by simp
   rw [this];exact g1
  ·cases hq
 ·cases hq
end Go.Sx
namespace Go.Sx
open Go.RowKit
def pC (d : SD) (cv b : Bool) (r : List Prop) : List Prop :=
 match d with
 | .gd c _ => (cv = b → c = true) :: r
 | _ => r
def pkD (c x y : SD) : Option (List Prop × SD) :=
 match ungd c with
 | .bool cv => match ungd x, ungd y with
  | .bool a, .bool b => some (gC c (pC x cv true (pC y cv false [])), .bool (bif cv then a else b))
  | _, _ => none
 | _ => none
def shD (op : BinOp) : SD → SD → Option (List Prop × SD)
 | .int k a, .int _ b => match op with
  | .shl => some ([0 ≤ b], .int k (yFq k a b))
  | .shr => some ([0 ≤ b], .int k (zMa k a b))
  | _ => none
 | _, _ => none
def dvD (op : BinOp) : SD → SD → Option (List Prop × SD)
 | .int j a, .int k b => if j = k then (match op with
  | .quo => some ([b ≠ 0], .int j (j.wrap (a.tdiv b)))
  | .rem => some ([b ≠ 0], .int j (a.tmod b))
  | _ => none) else none
 | _, _ => none
def bnD (P : Program) (T : Nat) (op : BinOp) (x y : SD) : Option (List Prop × SD) :=
 match op with
 | .shl | .shr => shD op x y
 | .quo | .rem => dvD op x y
 | _ => (yDm P T op x y).map fun d => ([], d)
def zPa (P : Program) (T : Nat) (l r : List SD) (t : Bool) : Prop := P.eqGuardType P.depth T = false ∧
 ∀ h e xs ys, repC h l e xs → repC h r e ys → ∀ w, (Op.equal T (.agg xs.toArray) (.agg ys.toArray)).run P w = .ok t w
def aeD (P : Program) (T : Nat) (op : BinOp) (l r : List SD) : Option (List Prop × SD) :=
 match eqL l r with
 | some t => match op with
  | .eql => some ([zPa P T l r t], .bool t)
  | .neq => some ([zPa P T l r t], .bool (!t))
  | _ => none
 | none => none
def adS (P : Program) (T : Nat) (op : BinOp) (a b : ByteArray) : Option (List Prop × SD) :=
 match op with
 | .add => some ([a.size + b.size ≤ 9223372036854775807], .str (a ++ b))
 | op => bnD P T op (.str a) (.str b)
def PtrT (P : Program) (T : Nat) : Prop := ∃ e, P.underlying T = some (.pointer e)
def zQ6 : SD → Option Bool
 | .loc .. => some false
 | .fp _ => some false
 | .aptr .. => some false
 | .nilp => some true
 | _ => none
def nlD (P : Program) (T : Nat) (op : BinOp) (x : SD) : Option (List Prop × SD) :=
 match op, zQ6 x with
 | .eql, some b => some ([PtrT P T], .bool b)
 | .neq, some b => some ([PtrT P T], .bool (!b))
 | _, _ => none
def zXt : SD → Option Bool
 | .nils => some true
 | .list _ (_ + 1) _ => some false
 | .vsl .. => some false
 | _ => none
def nsD (P : Program) (T : Nat) (op : BinOp) (x : SD) : Option (List Prop × SD) :=
 bif Nat.beq (kdT P T) 1 then
  match op, zXt x with
  | .eql, some b => some ([], .bool b)
  | .neq, some b => some ([], .bool (!b))
  | _, _ => none
 else none
def bn2 (P : Program) (T : Nat) (op : BinOp) (x y : SD) : Option (List Prop × SD) :=
 match x, y with
 | .agg l, .agg r => aeD P T op l r
 | .str a, .str b => adS P T op a b
 | x, .nilp => nlD P T op x
 | x, .nils => nsD P T op x
 | _, _ => bnD P T op x y
def ncD : SD → Option SD
 | .loc k o => some (.loc k o)
 | .fp l => some (.fp l)
 | .aptr k es i o => some (.aptr k es i o)
 | .fn f l => some (.fn f l)
 | _ => none
def exD : SD → Nat → Option SD
 | .tup l, i => match l.drop i with
  | d :: _ => some d
  | [] => none
 | _, _ => none
def cvD (P : Program) (S T : Nat) : SD → Option SD
 | .int _ n => bif Nat.beq (kdT P S) 0 then none else (ikT P T).map fun k => .int k (k.wrap n)
 | .str b => bif Nat.beq (kdT P S) 2 && Nat.beq (kdT P T) 2 then some (.str b) else none
 | _ => none
def ifD (P : Program) (T : Nat) (x : SD) : Option SD :=
 bif Nat.beq (kdT P T) 0 || Nat.beq (kdT P T) 8 then none else some (.iface T x)
def mnD (mx : Bool) : SD → SD → Option SD
 | .int k x, .int j y => if k = j then some (.int k (bif mx then (if y > x then y else x) else (if y < x then y else x))) else none
 | _, _ => none
def lnD (P : Program) (s : St) (T : Nat) (x : SD) : Option SD :=
 bif Nat.beq (kdT P T) 1 then (lenD s x).map fun (n : Nat) => SD.int .i64 (n : Int)
 else bif Nat.beq (kdT P T) 2 then match x with
  | .str b => some (.int .i64 b.size)
  | _ => none
 else none
def clD (P : Program) (s : St) (c : Callee) (l : List Operand) (ts : List Nat) : Option (List Prop × SD) :=
 match c, l, ts with
 | .builtin .len, [x], T :: _ => (lnD P s T (unG s x)).map fun d => (gCs s [x] [], d)
 | .builtin .min, [x, y], _ => (mnD false (unG s x) (unG s y)).map fun d => (gCs s [x, y] [], d)
 | .builtin .max, [x, y], _ => (mnD true (unG s x) (unG s y)).map fun d => (gCs s [x, y] [], d)
 | _, _, _ => none
def ptD (P : Program) (t o : Nat) (l : List SD) : Option SD := ldc P t (l.drop o)
def flD (P : Program) (T i : Nat) : SD → Option SD
 | .agg l => match plT P T i, ftT P T i with
  | some (o, _), some t => ptD P t o l
  | _, _ => none
 | _ => none
def ixD (P : Program) (T : Nat) : SD → SD → Option (List Prop × SD)
 | .str b, .int _ i => bif Nat.beq (kdT P T) 2 then some ([0 ≤ i, i < (b.size : Int)], .int .u8 ((b.data.toList.getD i.toNat 0).toNat : Int)) else none
 | .agg l, .int _ i => match lnT P T, elT P T, plT P T i.toNat with
  | some n, some t, some (o, _) => (ptD P t o l).map fun d => ([0 ≤ i, i < (n : Int)], d)
  | _, _, _ => none
 | _, _ => none
def slD (P : Program) (T : Nat) (x : SD) (lo hi : Option SD) : Option (List Prop × SD) :=
 match x with
 | .list es n f => bif Nat.beq (kdT P T) 1 then
   match elT P T with
   | some t => bif Nat.beq es (szT P t) && Nat.ble 1 es then
     match lo, hi with
     | none, none => some ([], .list es n f)
     | some (.int _ a), none => some ([0 ≤ a, a ≤ (n : Int)], .list es (n - a.toNat) fun j => f (a.toNat + j))
     | none, some (.int _ b) => some ([0 ≤ b, b ≤ (n : Int)], .list es b.toNat f)
     | some (.int _ a), some (.int _ b) => some ([0 ≤ a, a ≤ b, b ≤ (n : Int)], .list es (b.toNat - a.toNat) fun j => f (a.toNat + j))
     | _, _ => none
    else none
   | none => none
  else none
 | .str s => bif Nat.beq (kdT P T) 2 then
   match lo, hi with
   | none, none => some ([], .str s)
   | some (.int _ a), none => some ([0 ≤ a, a ≤ (s.size : Int)], .str (s.extract a.toNat s.size))
   | none, some (.int _ b) => some ([0 ≤ b, b ≤ (s.size : Int)], .str (s.extract 0 b.toNat))
   | some (.int _ a), some (.int _ b) => some ([0 ≤ a, a ≤ b, b ≤ (s.size : Int)], .str (s.extract a.toNat b.toNat))
   | _, _ => none
  else none
 | .loc k off => bif Nat.beq (kdT P T) 4 then
   match lnT P T, elT P T, lo, hi with
   | some n, some t, none, none => bif Nat.ble 1 n && Nat.ble n maxN && Nat.ble 1 (szT P t) then some ([], .vsl k off n n) else none
   | _, _, _, _ => none
  else none
 | _ => none
def zK4 (s : St) (l : List Operand) : Option (List Prop × SD) → Option (List Prop × SD)
 | some (p, d) => some (gCs s l p, d)
 | none => none
def qv (P : Program) (s : St) : Op → Option (List Prop × SD)
 | .move x => some ([], ev s x)
 | .assign x => some ([], ev s x)
 | .pick c x y => pkD (ev s c) (ev s x) (ev s y)
 | .load T x => match atD s (unG s x) with
  | some l => match ldc P T l with
   | some d => some (gCs s [x] [], d)
   | none => none
  | none => none
 | .fieldAddr T x i => match faD P T i (unG s x) with
  | some d => some (gCs s [x] [], d)
  | none => none
 | .field T x i => match flD P T i (unG s x) with
  | some d => some (gCs s [x] [], d)
  | none => none
 | .indexAddr T x i => match unG s i with
  | .int _ n => zK4 s [x, i] (iaD P s T (unG s x) n)
  | _ => none
 | .index T x i => zK4 s [x, i] (ixD P T (unG s x) (unG s i))
 | .binOp op T x y _ => zK4 s [x, y] (bn2 P T op (unG s x) (unG s y))
 | .unOp op _ x => match unD op (unG s x) with
  | some d => some (gCs s [x] [], d)
  | none => none
 | .nilCheck x => match ncD (unG s x) with
  | some d => some (gCs s [x] [], d)
  | none => none
 | .extract x i => match exD (unG s x) i with
  | some d => some (gCs s [x] [], d)
  | none => none
 | .convert S T x => match cvD P S T (unG s x) with
  | some d => some (gCs s [x] [], d)
  | none => none
 | .makeInterface T x => match ifD P T (unG s x) with
  | some d => some (gCs s [x] [], d)
  | none => none
 | .makeFunc (.func f) first caps => bif Nat.beq first.size 0 then some ([], .fn f (caps.toList.map (ev s))) else (bif Nat.beq caps.size 0 then some ([], .bfn (.func f) (first.toList.map (ev s))) else none)
 | .makeFunc (.method nm) first caps => bif Nat.beq caps.size 0 then some ([], .bfn (.method nm) (first.toList.map (ev s))) else none
 | .build T parts => bdD P s T parts.toList
 | .slice T x lo hi none => zK4 s ([x] ++ lo.toList ++ hi.toList) (slD P T (unG s x) (lo.map (unG s)) (hi.map (unG s)))
 | .call c => clD P s c.callee c.args.toList c.argTypes.toList
 | _ => none
section
variable {P : Program} {F : List Nat} {w0 : Base} {s : St} {h : Hp} {e : Nm} {a : Act} {w : World}
theorem Den.unG (D : Den F w0 s h e a w) {x : Operand} {l : List Operand} {r : List Prop} (hv : zAn (gCs s l r)) (hx : x ∈ l) : rep h (unG s x) e (a.eval x) :=
 zD4 (D.ev x) fun c d hc => (zAt hv).1 x hx c d hc
theorem zVh {d : SD} {cv b : Bool} {r : List Prop} (hp : zAn (pC d cv b r)) : (∀ c d', d = .gd c d' → cv = b → c = true) ∧ zAn r := by
 cases d <;> simp only [pC, zAn] at hp
 case gd c d' => exact ⟨(fun c' d'' hc hb => by cases hc; exact hp.1 hb), hp.2⟩
 all_goals exact ⟨(fun c' d'' hc => by cases hc), hp⟩
theorem yCe {d : SD} {r : List Prop} (hp : zAn (gC d r)) : (∀ c d', d = .gd c d' → c = true) ∧ zAn r := by
 cases d <;> simp only [gC, zAn] at hp
 case gd c d' => exact ⟨(fun c' d'' hc => by cases hc; exact hp.1), hp.2⟩
 all_goals exact ⟨(fun c' d'' hc => by cases hc), hp⟩
theorem zUp {t o : Nat} {l : List SD} {vs : List Value} {d : SD} (hr : repC h l e vs) (hd : ptD P t o l = some d) :
  ∃ v, rep h d e v ∧ ∀ w : World, (part t vs.toArray o).run P w = .ok v w := by
 unfold ptD ldc at hd
 have hr' := zBy o hr
 split at hd
 ·rename_i ha
  cases hb : (Nat.ble 1 (szT P t) && Nat.ble (szT P t) (l.drop o).length)
  ·rw [hb] at hd; cases hd
  ·rw [hb] at hd
   simp only [cond_true, zz1] at hd;subst hd;simp only [zz3] at hb;have h1 := Nat.le_of_ble_eq_true hb.1;obtain ⟨m, hm⟩ : ∃ m, szT P t = m + 1 := ⟨szT P t - 1, by omega⟩;obtain ⟨i, hi, hsz⟩ := zAl hm;refine ⟨.agg ((vs.drop o).take (szT P t)).toArray, by simp only [rep]; exact ⟨_, rfl, zDh _ hr'⟩, fun w => ?_⟩
   have hx : vs.toArray.extract o (o + (m + 1)) = ((vs.drop o).take (m + 1)).toArray := by
    apply Array.ext';simp [List.extract_eq_take_drop]
   simp [part, zHw ha, sizeOf, typeInfo, hi, hsz, hm]
 ·rename_i ha
  cases hl : l.drop o with
  | nil => rw [hl] at hd; cases hd
  | cons d' r =>
   rw [hl] at hd hr';simp only [zz1] at hd;subst hd;obtain ⟨v, vs', h1, h2, h3⟩ := zN9 hr';refine ⟨v, h3, fun w => ?_⟩
   have : vs[o]? = some v := by
    have := congrArg (·[0]?) h1;simpa using this
   simp [part, zHw ha, this]
 ·cases hd
theorem yA7 {c x y d : SD} {p : List Prop} {vc vx vy : Value} (hc : rep h c e vc) (hx : rep h x e vx) (hy : rep h y e vy) (hd : pkD c x y = some (p, d)) (hp : zAn p) :
  ∃ b, vc = .bool b ∧ rep h d e (if b then vx else vy) := by
 unfold pkD at hd
 split at hd
 ·rename_i cv hcv
  split at hd
  ·rename_i a b hxa hyb
   simp only [zz1, Prod.mk.injEq] at hd;obtain ⟨rfl, rfl⟩ := hd;obtain ⟨h0, hp⟩ := yCe hp;replace hc := zD4 hc h0;rw [hcv] at hc;simp only [rep] at hc;subst hc;obtain ⟨h1, hp2⟩ := zVh hp;obtain ⟨h2, _⟩ := zVh hp2;refine ⟨cv, rfl, ?_⟩;cases cv
   ·have := zD4 hy fun c d' hc => h2 c d' hc rfl
    rw [hyb] at this;simpa using this
   ·have := zD4 hx fun c d' hc => h1 c d' hc rfl
    rw [hxa] at this;simpa using this
  ·cases hd
 ·cases hd
theorem yA6 {T : Nat} {op : BinOp} {x y d : SD} {p : List Prop} (hd : shD op x y = some (p, d)) (hp : zAn p) (w : World) (va vb : Value) (ha : rep h x e va) (hb : rep h y e vb) (X Y : Operand) :
  ∃ v, rep h d e v ∧ (do eqGuard op T X Y va vb; binOp op T va vb : Sem Value).run P w = .ok v w := by
 unfold shD at hd
 split at hd
 ·rename_i k a j b
  simp only [rep] at ha hb;subst ha hb;split at hd
  ·simp only [zz1, Prod.mk.injEq] at hd
   obtain ⟨rfl, rfl⟩ := hd;simp only [zAn] at hp;have : ¬ b < 0 := by omega
   simp [rep, eqGuard, binOp, Op.shift, this, yFq, zMa]
  ·simp only [zz1, Prod.mk.injEq] at hd
   obtain ⟨rfl, rfl⟩ := hd;simp only [zAn] at hp;have : ¬ b < 0 := by omega
   simp [rep, eqGuard, binOp, Op.shift, this, yFq, zMa]
  ·cases hd
 ·cases hd
theorem yBf {T : Nat} {op : BinOp} {x y d : SD} {p : List Prop} (hd : dvD op x y = some (p, d)) (hp : zAn p) (w : World) (va vb : Value) (ha : rep h x e va) (hb : rep h y e vb) (X Y : Operand) :
  ∃ v, rep h d e v ∧ (do eqGuard op T X Y va vb; binOp op T va vb : Sem Value).run P w = .ok v w := by
 unfold dvD at hd
 split at hd
 ·rename_i k a j b
  simp only [rep] at ha hb;subst ha hb;split at hd
  ·rename_i hjk
   subst hjk;split at hd
   ·simp only [zz1, Prod.mk.injEq] at hd
    obtain ⟨rfl, rfl⟩ := hd;simp only [zAn] at hp;simp [rep, eqGuard, binOp, Op.intDiv, hp.1]
   ·simp only [zz1, Prod.mk.injEq] at hd
    obtain ⟨rfl, rfl⟩ := hd;simp only [zAn] at hp;simp [rep, eqGuard, binOp, Op.intDiv, hp.1]
   ·cases hd
  ·cases hd
 ·cases hd
theorem zUy {T : Nat} {op : BinOp} {x y d : SD} {p : List Prop} (hd : bnD P T op x y = some (p, d)) (hp : zAn p) (w : World) (va vb : Value) (ha : rep h x e va) (hb : rep h y e vb) (X Y : Operand) :
  ∃ v, rep h d e v ∧ (do eqGuard op T X Y va vb; binOp op T va vb : Sem Value).run P w = .ok v w := by
 have key : ∀ op, (yDm P T op x y).map (fun d => (([] : List Prop), d)) = some (p, d) → ∃ v, rep h d e v ∧ (do eqGuard op T X Y va vb; binOp op T va vb : Sem Value).run P w = .ok v w := fun op hd => by
  cases hq : yDm P T op x y with
  | none => rw [hq] at hd; cases hd
  | some d' =>
   rw [hq] at hd;simp only [Option.map_some, zz1, Prod.mk.injEq] at hd;obtain ⟨_, rfl⟩ := hd;exact zX3 hq w h e va vb ha hb X Y
 cases op <;> simp only [bnD] at hd <;> first
  | exact yA6 hd hp w va vb ha hb X Y
  | exact yBf hd hp w va vb ha hb X Y
  | exact key _ hd
theorem yBi {T : Nat} {op : BinOp} {l r : List SD} {d : SD} {p : List Prop} (hd : aeD P T op l r = some (p, d)) (hp : zAn p) (w : World) (va vb : Value) (ha : rep h (.agg l) e va) (hb : rep h (.agg r) e vb) (X Y : Operand) :
  ∃ v, rep h d e v ∧ (do eqGuard op T X Y va vb; binOp op T va vb : Sem Value).run P w = .ok v w := by
 unfold aeD at hd
 simp only [rep] at ha hb
 obtain ⟨xs, rfl, h1⟩ := ha
 obtain ⟨ys, rfl, h2⟩ := hb
 split at hd
 ·rename_i t _
  split at hd
  ·simp only [zz1, Prod.mk.injEq] at hd
   obtain ⟨rfl, rfl⟩ := hd;obtain ⟨⟨g1, g2⟩, _⟩ := hp;refine ⟨.bool t, by simp only [rep], ?_⟩;simp [run_eqGuard_agg w _ T X Y _ _ g1, binOp, g2 h e xs ys h1 h2]
  ·simp only [zz1, Prod.mk.injEq] at hd
   obtain ⟨rfl, rfl⟩ := hd;obtain ⟨⟨g1, g2⟩, _⟩ := hp;refine ⟨.bool (!t), by simp only [rep], ?_⟩;simp [run_eqGuard_agg w _ T X Y _ _ g1, binOp, g2 h e xs ys h1 h2]
  ·cases hd
 ·cases hd
theorem yA9 {T : Nat} {op : BinOp} {x d : SD} {p : List Prop} (hd : nlD P T op x = some (p, d)) (hp : zAn p) (w : World) (va vb : Value) (ha : rep h x e va) (hb : rep h .nilp e vb) (X Y : Operand) :
  ∃ v, rep h d e v ∧ (do eqGuard op T X Y va vb; binOp op T va vb : Sem Value).run P w = .ok v w := by
 simp only [rep] at hb
 subst hb
 have hx : ∀ b, zQ6 x = some b → ∃ p, va = .pointer p ∧ p.isNone = b := fun b hb => by
  cases x <;> simp only [zQ6, zz1, reduceCtorEq] at hb <;> subst hb <;> simp only [rep] at ha
  ·obtain ⟨ad, _, _, _, rfl, _⟩ := ha; exact ⟨_, rfl, rfl⟩
  ·exact ⟨_, ha, rfl⟩
  ·exact ⟨_, ha, rfl⟩
  ·obtain ⟨_, _, _, _, _, rfl⟩ := ha; exact ⟨_, rfl, rfl⟩
 unfold nlD at hd
 split at hd
 ·rename_i b hb
  simp only [zz1, Prod.mk.injEq] at hd;obtain ⟨rfl, rfl⟩ := hd;obtain ⟨⟨te, ht⟩, _⟩ := hp;have ht' : P.underlying T = some (.pointer (P.pointee T)) := by simp [Program.pointee, ht]
  obtain ⟨q, rfl, rfl⟩ := hx b hb;refine ⟨.bool q.isNone, by simp only [rep], ?_⟩;have := run_eql_pointer_nil w T q ht';simp [eqGuard, this]
 ·rename_i b hb
  simp only [zz1, Prod.mk.injEq] at hd;obtain ⟨rfl, rfl⟩ := hd;obtain ⟨⟨te, ht⟩, _⟩ := hp;have ht' : P.underlying T = some (.pointer (P.pointee T)) := by simp [Program.pointee, ht]
  obtain ⟨q, rfl, rfl⟩ := hx b hb;refine ⟨.bool (!q.isNone), by simp only [rep], ?_⟩;have := run_neq_pointer_nil w T q ht';simp [eqGuard, this]
 ·cases hd
theorem yA8 {T : Nat} {op : BinOp} {x d : SD} {p : List Prop} (hd : nsD P T op x = some (p, d)) (w : World) (va vb : Value) (ha : rep h x e va) (hb : rep h .nils e vb) (X Y : Operand) :
  ∃ v, rep h d e v ∧ (do eqGuard op T X Y va vb; binOp op T va vb : Sem Value).run P w = .ok v w := by
 simp only [rep] at hb
 subst hb
 have hx : ∀ b, zXt x = some b → ∃ a l c, va = .slice a l c ∧ a.isNone = b := fun b hb => by
  cases x <;> simp only [zXt, zz1, reduceCtorEq] at hb
  ·rename_i es n f
   cases n with
   | zero => cases hb
   | succ n =>
    simp only [zz1] at hb;subst hb;simp only [rep] at ha;obtain ⟨a, cap, rfl, _, _, h4⟩ := ha;obtain ⟨ad, _, _, _, rfl, _⟩ := h4 (by omega);exact ⟨_, _, _, rfl, rfl⟩
  ·subst hb
   simp only [rep] at ha;exact ⟨_, _, _, ha, rfl⟩
  ·subst hb
   simp only [rep] at ha;exact ⟨_, _, _, ha.1, rfl⟩
 unfold nsD at hd
 cases hk : Nat.beq (kdT P T) 1
 ·rw [hk] at hd; cases hd
 ·rw [hk] at hd
  simp only [cond_true] at hd;obtain ⟨te, hu⟩ := zPb hk;split at hd
  ·rename_i b hb
   simp only [zz1, Prod.mk.injEq] at hd;obtain ⟨rfl, rfl⟩ := hd;obtain ⟨a, l, c, rfl, rfl⟩ := hx b hb;refine ⟨.bool a.isNone, by simp only [rep], ?_⟩;simp [eqGuard, binOp, run_equal_slice_nil w T te a l c hu]
  ·rename_i b hb
   simp only [zz1, Prod.mk.injEq] at hd;obtain ⟨rfl, rfl⟩ := hd;obtain ⟨a, l, c, rfl, rfl⟩ := hx b hb;refine ⟨.bool (!a.isNone), by simp only [rep], ?_⟩;simp [eqGuard, run_neq_slice_nil w T te a l c hu]
  ·cases hd
theorem yBg {T : Nat} {op : BinOp} {x y d : SD} {p : List Prop} (hd : bn2 P T op x y = some (p, d)) (hp : zAn p) (w : World) (va vb : Value) (ha : rep h x e va) (hb : rep h y e vb) (X Y : Operand) :
  ∃ v, rep h d e v ∧ (do eqGuard op T X Y va vb; binOp op T va vb : Sem Value).run P w = .ok v w := by
 unfold bn2 at hd
 split at hd
 ·exact yBi hd hp w va vb ha hb X Y
 ·rename_i a b
  unfold adS at hd;split at hd
  ·simp only [zz1, Prod.mk.injEq] at hd
   obtain ⟨rfl, rfl⟩ := hd;simp only [rep] at ha hb;subst ha hb;refine ⟨.string (a ++ b), by simp only [rep], ?_⟩;simp only [eqGuard, binOp];exact run_string_add_sum w a b hp.1
  ·exact zUy hd hp w _ _ ha hb X Y
 ·exact yA9 hd hp w va vb ha hb X Y
 ·exact yA8 hd w va vb ha hb X Y
 ·exact zUy hd hp w va vb ha hb X Y
theorem yBd {T i : Nat} {x d : SD} {v : Value} (hx : rep h x e v) (hd : flD P T i x = some d) : ∃ u, rep h d e u ∧ ∀ w : World, (Instr.field T v i).run P w = .ok u w := by
 unfold flD at hd
 split at hd
 ·rename_i l
  split at hd
  ·rename_i o z t hp ht
   simp only [rep] at hx;obtain ⟨vs, rfl, hr⟩ := hx;obtain ⟨u, h1, h2⟩ := zUp hr hd;refine ⟨u, h1, fun w => ?_⟩;unfold ftT at ht;cases hu : P.underlying T with
   | none => rw [hu] at ht; cases ht
   | some du =>
    rw [hu] at ht;cases du <;> try (cases ht; done)
    rename_i fs;obtain ⟨f, j, hf, ho, _⟩ := zIt hu hp;simp only [hf, Option.map_some, zz1] at ht;subst ht;simp [Instr.field, run_underlying hu, hf, asAgg, ho, h2]
  ·cases hd
 ·cases hd
theorem yBb {T : Nat} {x i d : SD} {p : List Prop} {v vi : Value} (hx : rep h x e v) (hi : rep h i e vi) (hd : ixD P T x i = some (p, d)) (hp : zAn p) :
  ∃ u, rep h d e u ∧ ∀ w : World, (Instr.index T v vi).run P w = .ok u w := by
 unfold ixD at hd
 split at hd
 ·rename_i b k n
  simp only [rep] at hx hi;subst hx hi;cases hk : Nat.beq (kdT P T) 2
  ·rw [hk] at hd; cases hd
  ·rw [hk] at hd
   simp only [cond_true, zz1, Prod.mk.injEq] at hd;obtain ⟨rfl, rfl⟩ := hd;simp only [zAn] at hp;obtain ⟨h0, h1, _⟩ := hp;have hlt : n.toNat < b.size := by omega
   refine ⟨.int .u8 ((b.data.toList.getD n.toNat 0).toNat : Int), by simp only [rep], fun w => ?_⟩;have hget : b[n.toNat]? = some b[n.toNat] := by simp [getElem?_pos, hlt]
   have htl : b.data.toList.getD n.toNat 0 = b[n.toNat] := by
    rw [zz2];have h3 : n.toNat < b.data.toList.length := by simpa using hlt
    rw [List.getElem?_eq_getElem h3];rfl
   simp [Instr.index, asIntOf, run_underlying (yC8 hk), h0, hget, -List.getD_eq_getElem?_getD, -Array.getD_eq_getD_getElem?, htl]
 ·rename_i l k n
  simp only [rep] at hi;subst hi;split at hd
  ·rename_i m t o z hm ht hpl
   cases hq : ptD P t o l with
   | none => rw [hq] at hd; cases hd
   | some d' =>
    rw [hq] at hd;simp only [Option.map_some, zz1, Prod.mk.injEq] at hd;obtain ⟨rfl, rfl⟩ := hd;simp only [zAn] at hp;obtain ⟨h0, h1, _⟩ := hp;simp only [rep] at hx;obtain ⟨vs, rfl, hr⟩ := hx;obtain ⟨u, g1, g2⟩ := zUp hr hq;refine ⟨u, g1, fun w => ?_⟩;unfold lnT at hm;cases hu : P.underlying T with
    | none => rw [hu] at hm; cases hm
    | some du =>
     rw [hu] at hm;cases du <;> try (cases hm; done)
     rename_i m' t';simp only [zz1] at hm;subst hm;have htt : t = t' := by unfold elT at ht; rw [hu] at ht; simp at ht; exact ht.symm
     subst htt;obtain ⟨j, hj, ho, _⟩ := zKg hu hpl;subst ho;simp [Instr.index, asIntOf, run_underlying hu, h0, h1, sizeOf, typeInfo, hj, g2]
  ·cases hd
 ·cases hd
end
end Go.Sx
namespace Go.Sx
open Go.RowKit
section
variable {P : Program} {F : List Nat} {w0 : Base} {s : St} {h : Hp} {e : Nm} {a : Act} {w : World}
theorem zU7 {es n : Nat} {f : Nat → SD} {ao : Option Addr} {m cap : Nat} (hx : rep h (.list es n f) e (.slice ao m cap)) (i j : Nat) (hij : i ≤ j) (hj : j ≤ n) :
  rep h (.list es (j - i) fun k => f (i + k)) e (.slice (if cap = i then ao else ao.map (·.add (i * es))) (j - i) (cap - i)) := by
 simp only [rep] at hx ⊢
 obtain ⟨a', c', h1, h2, h3, h4⟩ := hx
 cases h1
 refine ⟨_, _, rfl, by omega, ⟨by omega, by omega⟩, fun hn => ?_⟩
 obtain ⟨ad, cs, T, fr, rfl, g2, g3, g4⟩ := h4 (by omega)
 rw [if_neg (by omega)]
 obtain ⟨b, off, sp⟩ := ad
 simp only at g2
 subst g2
 refine ⟨⟨b, off + i * es, none⟩, cs, T, fr, by simp [Addr.add_mid], rfl, g3, fun k hk => ?_⟩
 obtain ⟨u, u1, u2, u3⟩ := g4 (i + k) (by omega)
 exact ⟨u, u1, by rw [u2]; congr 1; simp only [Nat.add_mul]; omega, u3⟩
theorem zFn {cap a b : Nat} {lo hi : Option Value} {n : Nat} (w : World) (isS : Bool)
  (hl : (lo = none ∧ a = 0) ∨ ∃ k, lo = some (.int k (a : Int))) (hh : (hi = none ∧ b = n) ∨ ∃ k, hi = some (.int k (b : Int))) (hab : a ≤ b) (hbc : b ≤ cap) :
  (Instr.sliceBounds isS n cap lo hi none).run P w = .ok (a, b, cap) w := by
 rcases hl with ⟨rfl, rfl⟩ | ⟨k, rfl⟩ <;> rcases hh with ⟨rfl, rfl⟩ | ⟨k', rfl⟩
 ·simp [Instr.sliceBounds]
 ·simp [Instr.sliceBounds, Instr.sliceBound, asIntOf, hbc]
 ·simp [Instr.sliceBounds, Instr.sliceBound, asIntOf, hab]
 ·simp [Instr.sliceBounds, Instr.sliceBound, asIntOf, hab, hbc]
theorem zHu {T es n : Nat} {f : Nat → SD} {x : Value} (hx : rep h (.list es n f) e x) {t : Nat} (hu : P.underlying T = some (.slice t)) (hes : es = szT P t) (he1 : 1 ≤ es)
  {lo hi : Option Value} {i j : Nat} (hl : (lo = none ∧ i = 0) ∨ ∃ k, lo = some (.int k (i : Int))) (hh : (hi = none ∧ j = n) ∨ ∃ k, hi = some (.int k (j : Int))) (hij : i ≤ j) (hj : j ≤ n) (w : World) :
  ∃ v, rep h (.list es (j - i) fun k => f (i + k)) e v ∧ (Instr.sliceAt T x lo hi none).run P w = .ok v w := by
 have hx' := hx
 simp only [rep] at hx'
 obtain ⟨ao, cap, rfl, h2, h3, _⟩ := hx'
 refine ⟨_, zU7 hx i j hij hj, ?_⟩
 have hb := zFn (P := P) (cap := cap) (n := n) w true hl hh hij (by omega)
 obtain ⟨m, hm⟩ : ∃ m, szT P t = m + 1 := ⟨szT P t - 1, by omega⟩
 obtain ⟨ti, hi', hs⟩ := zAl hm
 have : es = ti.size := by rw [hes, hm, hs]
 simp [Instr.sliceAt, Instr.slice, run_underlying hu, hb, sizeOf, typeInfo, hi', this]
theorem zDt {T : Nat} {b : ByteArray} (hu : P.underlying T = some .string) {lo hi : Option Value} {i j : Nat}
  (hl : (lo = none ∧ i = 0) ∨ ∃ k, lo = some (.int k (i : Int))) (hh : (hi = none ∧ j = b.size) ∨ ∃ k, hi = some (.int k (j : Int))) (hij : i ≤ j) (hj : j ≤ b.size) (w : World) :
  (Instr.sliceAt T (.string b) lo hi none).run P w = .ok (.string (b.extract i j)) w := by
 have hb := zFn (P := P) (cap := b.size) (n := b.size) w false hl hh hij hj
 simp [Instr.sliceAt, Instr.slice, run_underlying hu, hb]
theorem yA5 {T : Nat} {x d : SD} {lo hi : Option SD} {vlo vhi : Option Value} {p : List Prop} {v : Value} (hx : rep h x e v)
  (hlo : ∀ y, lo = some y → ∃ u, vlo = some u ∧ rep h y e u) (hlon : lo = none → vlo = none)
  (hhi : ∀ y, hi = some y → ∃ u, vhi = some u ∧ rep h y e u) (hhin : hi = none → vhi = none)
  (hd : slD P T x lo hi = some (p, d)) (hp : zAn p) (w : World) :
  ∃ u, rep h d e u ∧ (Instr.sliceAt T v vlo vhi none).run P w = .ok u w := by
 have ilo : ∀ k n, lo = some (.int k n) → vlo = some (.int k n) := fun k n hl => by
  obtain ⟨u, h1, h2⟩ := hlo _ hl;simp only [rep] at h2;rw [h1, h2]
 have ihi : ∀ k n, hi = some (.int k n) → vhi = some (.int k n) := fun k n hl => by
  obtain ⟨u, h1, h2⟩ := hhi _ hl;simp only [rep] at h2;rw [h1, h2]
 unfold slD at hd
 split at hd
 ·rename_i es n f
  cases hk : Nat.beq (kdT P T) 1
  ·rw [hk] at hd; cases hd
  ·rw [hk] at hd
   simp only [cond_true] at hd;obtain ⟨t, hu⟩ := zPb hk;split at hd
   ·rename_i t' ht
    have := zBr hu ht;subst this;cases hb : (Nat.beq es (szT P t') && Nat.ble 1 es)
    ·rw [hb] at hd; cases hd
    ·rw [hb] at hd
     simp only [cond_true] at hd;simp only [zz3] at hb;have he := zz4 hb.1;have he1 := Nat.le_of_ble_eq_true hb.2;split at hd
     ·simp only [zz1, Prod.mk.injEq] at hd
      obtain ⟨rfl, rfl⟩ := hd;have := zHu (P := P) hx hu he he1 (lo := vlo) (hi := vhi) (i := 0) (j := n) (.inl ⟨hlon rfl, rfl⟩) (.inl ⟨hhin rfl, rfl⟩) (by omega) (by omega) w;simpa using this
     ·rename_i k a
      simp only [zz1, Prod.mk.injEq] at hd;obtain ⟨rfl, rfl⟩ := hd;simp only [zAn] at hp;obtain ⟨i, rfl⟩ := Int.eq_ofNat_of_zero_le hp.1;exact zHu (P := P) hx hu he he1 (lo := vlo) (hi := vhi) (i := i) (j := n) (.inr ⟨k, ilo _ _ rfl⟩) (.inl ⟨hhin rfl, rfl⟩) (by omega) (by omega) w
     ·rename_i k b
      simp only [zz1, Prod.mk.injEq] at hd;obtain ⟨rfl, rfl⟩ := hd;simp only [zAn] at hp;obtain ⟨j, rfl⟩ := Int.eq_ofNat_of_zero_le hp.1;have := zHu (P := P) hx hu he he1 (lo := vlo) (hi := vhi) (i := 0) (j := j) (.inl ⟨hlon rfl, rfl⟩) (.inr ⟨k, ihi _ _ rfl⟩) (by omega) (by omega) w;simpa using this
     ·rename_i k a k' b
      simp only [zz1, Prod.mk.injEq] at hd;obtain ⟨rfl, rfl⟩ := hd;simp only [zAn] at hp;obtain ⟨i, rfl⟩ := Int.eq_ofNat_of_zero_le hp.1;obtain ⟨j, rfl⟩ := Int.eq_ofNat_of_zero_le (show 0 ≤ b by omega);exact zHu (P := P) hx hu he he1 (lo := vlo) (hi := vhi) (i := i) (j := j) (.inr ⟨k, ilo _ _ rfl⟩) (.inr ⟨k', ihi _ _ rfl⟩) (by omega) (by omega) w
     ·cases hd
   ·cases hd
 ·rename_i b
  cases hk : Nat.beq (kdT P T) 2
  ·rw [hk] at hd; cases hd
  ·rw [hk] at hd
   simp only [cond_true] at hd;have hu := yC8 hk;simp only [rep] at hx;subst hx;split at hd
   ·simp only [zz1, Prod.mk.injEq] at hd
    obtain ⟨rfl, rfl⟩ := hd;refine ⟨.string b, by simp only [rep], (zDt hu (i := 0) (j := b.size) (.inl ⟨hlon rfl, rfl⟩) (.inl ⟨hhin rfl, rfl⟩) (by omega) (by omega) w).trans (by simp)⟩
   ·rename_i k a
    simp only [zz1, Prod.mk.injEq] at hd;obtain ⟨rfl, rfl⟩ := hd;simp only [zAn] at hp;obtain ⟨i, rfl⟩ := Int.eq_ofNat_of_zero_le hp.1;exact ⟨_, by simp only [rep]; rfl, zDt hu (i := i) (j := b.size) (.inr ⟨k, ilo _ _ rfl⟩) (.inl ⟨hhin rfl, rfl⟩) (by omega) (by omega) w⟩
   ·rename_i k a
    simp only [zz1, Prod.mk.injEq] at hd;obtain ⟨rfl, rfl⟩ := hd;simp only [zAn] at hp;obtain ⟨j, rfl⟩ := Int.eq_ofNat_of_zero_le hp.1;exact ⟨_, by simp only [rep]; rfl, zDt hu (i := 0) (j := j) (.inl ⟨hlon rfl, rfl⟩) (.inr ⟨k, ihi _ _ rfl⟩) (by omega) (by omega) w⟩
   ·rename_i k a k' b'
    simp only [zz1, Prod.mk.injEq] at hd;obtain ⟨rfl, rfl⟩ := hd;simp only [zAn] at hp;obtain ⟨i, rfl⟩ := Int.eq_ofNat_of_zero_le hp.1;obtain ⟨j, rfl⟩ := Int.eq_ofNat_of_zero_le (show 0 ≤ b' by omega);exact ⟨_, by simp only [rep]; rfl, zDt hu (i := i) (j := j) (.inr ⟨k, ilo _ _ rfl⟩) (.inr ⟨k', ihi _ _ rfl⟩) (by omega) (by omega) w⟩
   ·cases hd
 ·rename_i k off
  cases hk : Nat.beq (kdT P T) 4
  ·rw [hk] at hd; cases hd
  ·rw [hk] at hd
   simp only [cond_true] at hd;obtain ⟨n, t, hu⟩ := und4 hk;split at hd
   ·rename_i n' t' hn ht
    have hnn : n' = n := by unfold lnT at hn; rw [hu] at hn; simp at hn; exact hn.symm
    subst hnn;have htt : t' = t := by unfold elT at ht; rw [hu] at ht; simp at ht; exact ht.symm
    subst htt;cases hb : (Nat.ble 1 n' && Nat.ble n' maxN && Nat.ble 1 (szT P t'))
    ·rw [hb] at hd; cases hd
    ·rw [hb] at hd
     simp only [cond_true, zz1, Prod.mk.injEq] at hd;obtain ⟨rfl, rfl⟩ := hd;simp only [zz3] at hb;have b1 := Nat.le_of_ble_eq_true hb.1.1;have b2 := Nat.le_of_ble_eq_true hb.1.2;have b3 := Nat.le_of_ble_eq_true hb.2;obtain ⟨m, hm⟩ : ∃ m, szT P t' = m + 1 := ⟨szT P t' - 1, by omega⟩;obtain ⟨j, hi', hs⟩ := zAl hm;simp only [rep] at hx;subst hx;have h1 := hlon rfl;have h2 := hhin rfl;subst h1 h2;refine ⟨.slice (some ⟨e.bs k, off, none⟩) n' n', by simp only [rep, true_and]; exact ⟨Nat.le_refl _, Nat.le_trans b2 (by simp [maxN, maxLen]), b2⟩, ?_⟩;have h0 : n' ≠ 0 := by omega
     simp [Instr.sliceAt, run_underlying hu, Instr.sureAddr, Instr.sliceBounds, sizeOf, typeInfo, hi', Addr.add_mid]
   ·cases hd
 ·cases hd
theorem yBa (D : Den F w0 s h e a w) {T : Nat} {x d : SD} {v : Value} {ts : List Nat} {ty : Nat} (hx : rep h x e v) (hd : lnD P s T x = some d) :
  ∃ u, rep h d e u ∧ (Builtin.len_ (T :: ts).toArray ty #[v]).run P w = .ok u w := by
 unfold lnD at hd
 cases hk : Nat.beq (kdT P T) 1
 ·rw [hk] at hd
  simp only [cond_false] at hd;cases hk2 : Nat.beq (kdT P T) 2
  ·rw [hk2] at hd; cases hd
  ·rw [hk2] at hd
   simp only [cond_true] at hd;split at hd
   ·simp only [zz1] at hd
    subst hd;simp only [rep] at hx;subst hx;exact ⟨_, by simp only [rep]; rfl, by simp [Builtin.len_, run_underlying (yC8 hk2), goInt]⟩
   ·cases hd
 ·rw [hk] at hd
  simp only [cond_true] at hd;obtain ⟨t, hu⟩ := zPb hk
  have key : ∀ ao n c, v = .slice ao n c → lenD s x = some n → ∃ u, rep h d e u ∧ (Builtin.len_ (T :: ts).toArray ty #[v]).run P w = .ok u w := fun ao n c hv hn => by
   rw [hn] at hd;simp only [Option.map_some, zz1] at hd;subst hd;subst hv;exact ⟨_, by simp only [rep]; rfl, by simp [Builtin.len_, run_underlying hu, goInt]⟩
  cases x <;> simp only [lenD, Option.map_none, reduceCtorEq] at hd
  case lng n f => simp only [rep] at hx; obtain ⟨ao, cap, hv, _⟩ := hx; exact key ao n cap hv rfl
  case list es n f =>
   simp only [rep] at hx;obtain ⟨ao, cap, hv, _⟩ := hx;exact key ao n cap hv rfl
  case nils =>
   simp only [rep] at hx;exact key none 0 0 hx rfl
  case vsl k off n c =>
   simp only [rep] at hx;exact key _ n c hx.1 rfl
  case accH k n =>
   simp only [rep] at hx;obtain ⟨_, ao, c, hx2⟩ := hx;exact key ao n c hx2 rfl
  case acc k =>
   split at hd
   ·rename_i T' es n f ho
    simp only [rep] at hx;obtain ⟨hx1, ao, m, c, hx2⟩ := hx;obtain ⟨xs, g1, _⟩ := D.own _ _ ho
    have : m = n := by
     rcases g1.2 with ⟨hv, hn0⟩ | ⟨g, cap, cur, hv, _⟩
     ·rw [← hx1, hx2] at hv; cases hv; exact hn0.symm
     ·rw [← hx1, hx2] at hv; cases hv; rfl
    subst this;exact key ao m c hx2 (by simp [lenD, ho])
   ·rename_i md ml ho
    cases hlv : lvN md with
    | none => rw [hlv] at hd; cases hd
    | some p =>
     obtain ⟨es, n⟩ := p;simp only [rep] at hx;obtain ⟨hx1, ao, m, c, hx2⟩ := hx;obtain ⟨Ta, xs, g1, _⟩ := zZ2 hlv (D.own _ _ ho)
     have : m = n := by
      rcases g1.2 with ⟨hv, hn0⟩ | ⟨g, cap, cur, hv, _⟩
      ·rw [← hx1, hx2] at hv; cases hv; exact hn0.symm
      ·rw [← hx1, hx2] at hv; cases hv; rfl
     subst this;exact key ao m c hx2 (by simp [lenD, ho, hlv])
   ·cases hd
theorem zUq {mx : Bool} {x y d : SD} {vx vy : Value} (hx : rep h x e vx) (hy : rep h y e vy) (hd : mnD mx x y = some d) (w : World) :
  ∃ u, rep h d e u ∧ ((if mx then Builtin.max2 else Builtin.min2) vx vy).run P w = .ok u w := by
 unfold mnD at hd
 split at hd
 ·split at hd
  ·rename_i hk
   subst hk;simp only [zz1] at hd;subst hd;simp only [rep] at hx hy;subst hx hy;cases mx <;> exact ⟨_, by simp only [rep]; rfl, by simp [Builtin.max2, Builtin.min2]⟩
  ·cases hd
 ·cases hd
theorem zQ3 {l : List Operand} (D : Den F w0 s h e a w) : repT h (l.map (ev s)) e (l.map a.eval) := by
 induction l with
 | nil => simp [repT]
 | cons x r ih => simp only [List.map_cons, repT]; exact ⟨_, _, rfl, D.ev x, ih⟩
theorem zN8 {h : Hp} {e : Nm} : ∀ (n : Nat) {l : List SD} {vs : List Value}, repT h l e vs → repT h (l.drop n) e (vs.drop n)
 | 0, _, _, x => by simpa using x
 | n + 1, [], _, x => by simp only [repT] at x; subst x; simp [repT]
 | n + 1, d :: r, _, x => by
  simp only [repT] at x;obtain ⟨v, vs', rfl, _, h3⟩ := x;simpa using zN8 n h3
theorem zYx {x d : SD} {i : Nat} (hd : exD x i = some d) : ∃ l r, x = .tup l ∧ l.drop i = d :: r := by
 cases x <;> simp only [exD, reduceCtorEq] at hd
 rename_i l
 cases hl : l.drop i with
 | nil => rw [hl] at hd; cases hd
 | cons d0 r =>
  rw [hl] at hd;simp only [zz1] at hd;subst hd;exact ⟨l, r, rfl, hl⟩
theorem zEw {l : List Operand} {q : Option (List Prop × SD)} {p : List Prop} {d : SD} (hq : zK4 s l q = some (p, d)) : ∃ p', q = some (p', d) ∧ p = gCs s l p' := by
 cases q with
 | none => cases hq
 | some x =>
  obtain ⟨p', d'⟩ := x;simp only [zK4, zz1, Prod.mk.injEq] at hq;obtain ⟨rfl, rfl⟩ := hq;exact ⟨p', rfl, rfl⟩
theorem zYb (D : Den F w0 s h e a w) {op : Op} {p : List Prop} {d : SD} (hq : qv P s op = some (p, d)) (hp : zAn p) (dst : Option Tmp) (ty : Nat) (pos : String) (af : Array Edge) (g : Option (Nat × Bool)) :
  ∃ v, rep h d e v ∧ (execOp a.eval ⟨dst, op, ty, pos, af, g⟩).run P w = .ok (.value v) w := by
 have wrap : ∀ {S : Sem Value}, (∃ v, rep h d e v ∧ S.run P w = .ok v w) → ∃ v, rep h d e v ∧ (do pure (Next.value (← S)) : Sem Next).run P w = .ok (.value v) w := fun ⟨v, h1, h2⟩ => ⟨v, h1, by simp [h2]⟩
 cases op <;> simp only [qv, reduceCtorEq] at hq
 case move x =>
  simp only [zz1, Prod.mk.injEq] at hq;obtain ⟨rfl, rfl⟩ := hq;exact ⟨_, D.ev x, by simp [execOp]⟩
 case assign x =>
  simp only [zz1, Prod.mk.injEq] at hq;obtain ⟨rfl, rfl⟩ := hq;exact ⟨_, D.ev x, by simp [execOp]⟩
 case pick c x y =>
  obtain ⟨b, h1, h2⟩ := yA7 (D.ev c) (D.ev x) (D.ev y) hq hp;refine ⟨_, h2, ?_⟩;simp only [execOp];rw [h1];cases b <;> simp [asBool]
 case load T x =>
  split at hq
  ·rename_i l hl
   split at hq
   ·rename_i d' hd
    simp only [zz1, Prod.mk.injEq] at hq;obtain ⟨rfl, rfl⟩ := hq;obtain ⟨b, o, vs, h1, h2, h3⟩ := D.at (D.unG hp (List.mem_singleton_self x)) hl;simp only [execOp];rw [h1];exact wrap (zUv h2 h3 hd)
   ·cases hq
  ·cases hq
 case fieldAddr T x i =>
  split at hq
  ·rename_i d' hd
   simp only [zz1, Prod.mk.injEq] at hq;obtain ⟨rfl, rfl⟩ := hq;obtain ⟨u, h1, h2⟩ := yBe (D.unG hp (List.mem_singleton_self x)) hd;simp only [execOp];exact wrap ⟨u, h1, h2 w⟩
  ·cases hq
 case field T x i =>
  split at hq
  ·rename_i d' hd
   simp only [zz1, Prod.mk.injEq] at hq;obtain ⟨rfl, rfl⟩ := hq;obtain ⟨u, h1, h2⟩ := yBd (D.unG hp (List.mem_singleton_self x)) hd;simp only [execOp];exact wrap ⟨u, h1, h2 w⟩
  ·cases hq
 case indexAddr T x i =>
  split at hq
  ·rename_i k n hi
   obtain ⟨p', hd, rfl⟩ := zEw hq;have hx := D.unG hp (show x ∈ [x, i] by simp);have hiv := D.unG hp (show i ∈ [x, i] by simp);rw [hi] at hiv;simp only [rep] at hiv;simp only [execOp];rw [hiv];exact wrap (yBc D hx hd (zAt hp).2)
  ·cases hq
 case index T x i =>
  obtain ⟨p', hd, rfl⟩ := zEw hq;obtain ⟨u, h1, h2⟩ := yBb (D.unG hp (show x ∈ [x, i] by simp)) (D.unG hp (show i ∈ [x, i] by simp)) hd (zAt hp).2;simp only [execOp];exact wrap ⟨u, h1, h2 w⟩
 case binOp op T x y yT =>
  obtain ⟨p', hd, rfl⟩ := zEw hq;obtain ⟨u, h1, h2⟩ := yBg (P := P) hd (zAt hp).2 w _ _ (D.unG hp (show x ∈ [x, y] by simp)) (D.unG hp (show y ∈ [x, y] by simp)) x y;simp only [execOp];exact wrap ⟨u, h1, h2⟩
 case unOp op T x =>
  split at hq
  ·rename_i d' hd
   simp only [zz1, Prod.mk.injEq] at hq;obtain ⟨rfl, rfl⟩ := hq;simp only [execOp];exact wrap (yA4 hd w h e _ (D.unG hp (List.mem_singleton_self x)))
  ·cases hq
 case nilCheck x =>
  split at hq
  ·rename_i d' hd
   simp only [zz1, Prod.mk.injEq] at hq;obtain ⟨rfl, rfl⟩ := hq;have hx := D.unG hp (List.mem_singleton_self x);unfold ncD at hd;simp only [execOp];split at hd <;> simp only [zz1, reduceCtorEq] at hd <;> subst hd <;> rename_i hu <;> rw [hu] at hx <;> have hx' := hx <;> simp only [rep] at hx'
   ·rw [hx'] at hx ⊢
    exact ⟨_, hx, rfl⟩
   ·obtain ⟨ad, cs, T, fr, hv, _⟩ := hx'
    rw [hv] at hx ⊢;exact ⟨_, hx, rfl⟩
   ·obtain ⟨b, n, c, _, _, hv⟩ := hx'
    rw [hv] at hx ⊢;exact ⟨_, hx, rfl⟩
   ·obtain ⟨vs, hv, _⟩ := hx'
    rw [hv] at hx ⊢;exact ⟨_, hx, rfl⟩
  ·cases hq
 case extract x i =>
  split at hq
  ·rename_i d' hd
   simp only [zz1, Prod.mk.injEq] at hq;obtain ⟨rfl, rfl⟩ := hq;have hx := D.unG hp (List.mem_singleton_self x);obtain ⟨l, r, hu, hl⟩ := zYx hd;rw [hu] at hx;simp only [rep] at hx;obtain ⟨vs, hv, hr⟩ := hx;have hr' := zN8 i hr;rw [hl] at hr';simp only [repT] at hr';obtain ⟨v, vs', g1, g2, _⟩ := hr'
   have : vs[i]? = some v := by
    have := congrArg (·[0]?) g1;simpa using this
   refine ⟨v, g2, ?_⟩;simp only [execOp];rw [hv];simp [Instr.extract, this]
  ·cases hq
 case convert S T x =>
  split at hq
  ·rename_i d' hd
   simp only [zz1, Prod.mk.injEq] at hq;obtain ⟨rfl, rfl⟩ := hq;have hx := D.unG hp (List.mem_singleton_self x);simp only [execOp];refine wrap ?_;unfold cvD at hd;split at hd
   ·rename_i k n hu
    rw [hu] at hx;simp only [rep] at hx;rw [hx];cases hk : Nat.beq (kdT P S) 0
    ·rw [hk] at hd
     simp only [cond_false] at hd
     have hS : ∃ dd, P.underlying S = some dd := by
      cases hS : P.underlying S with
      | some dd => exact ⟨dd, rfl⟩
      | none => simp [kdT, hS] at hk
     obtain ⟨dd, hS⟩ := hS;unfold ikT at hd;cases hT : P.underlying T with
     | none => rw [hT] at hd; cases hd
     | some du =>
      rw [hT] at hd;cases du <;> try (cases hd; done)
      simp only [Option.map_some, zz1] at hd;subst hd;refine ⟨_, by simp only [rep]; rfl, ?_⟩;simp [Go.convert, run_underlying hS, run_underlying hT, Conv.intToInt]
    ·rw [hk] at hd; cases hd
   ·rename_i b hu
    rw [hu] at hx;simp only [rep] at hx;rw [hx];cases hk : (Nat.beq (kdT P S) 2 && Nat.beq (kdT P T) 2)
    ·rw [hk] at hd; cases hd
    ·rw [hk] at hd
     simp only [cond_true, zz1] at hd;subst hd;simp only [zz3] at hk;refine ⟨_, by simp only [rep]; rfl, ?_⟩;simp [Go.convert, run_underlying (yC8 hk.1), run_underlying (yC8 hk.2)]
   ·cases hd
  ·cases hq
 case makeInterface T x =>
  split at hq
  ·rename_i d' hd
   simp only [zz1, Prod.mk.injEq] at hq;obtain ⟨rfl, rfl⟩ := hq;have hx := D.unG hp (List.mem_singleton_self x);simp only [execOp];refine wrap ?_;unfold ifD at hd;cases hk : (Nat.beq (kdT P T) 0 || Nat.beq (kdT P T) 8)
   ·rw [hk] at hd
    simp only [cond_false, zz1] at hd;subst hd;refine ⟨.iface T (a.eval x), by simp only [rep]; exact ⟨_, rfl, hx⟩, ?_⟩;cases hT : P.underlying T with
    | none => simp [kdT, hT] at hk
    | some du => cases du <;> simp [kdT, hT] at hk <;> simp [Instr.makeInterface, run_underlying hT]
   ·rw [hk] at hd; cases hd
  ·cases hq
 case makeFunc fn first caps =>
  have hbf : ∀ fn : Fn, (bif Nat.beq caps.size 0 then some (([] : List Prop), SD.bfn fn (first.toList.map (ev s))) else none) = some (p, d) → ∃ u, rep h d e u ∧ (execOp a.eval ⟨dst, .makeFunc fn first caps, ty, pos, af, g⟩).run P w = .ok (.value u) w := fun fn hq => by
   cases hb : Nat.beq caps.size 0
   ·rw [hb] at hq; cases hq
   ·rw [hb] at hq
    simp only [cond_true, zz1, Prod.mk.injEq] at hq;obtain ⟨rfl, rfl⟩ := hq;have h0 : caps = #[] := Array.eq_empty_of_size_eq_zero (zz4 hb);subst h0;refine ⟨.func fn (first.toList.map a.eval).toArray #[], by simp only [rep]; exact ⟨_, rfl, zQ3 D⟩, ?_⟩;simp only [execOp, Instr.makeFunc];have : first.map a.eval = (first.toList.map a.eval).toArray := by apply Array.ext'; simp
    simp [this]
  cases fn <;> simp only [reduceCtorEq] at hq
  case method nm => exact hbf _ hq
  rename_i f;cases hb : Nat.beq first.size 0
  ·rw [hb] at hq
   exact hbf _ hq
  ·rw [hb] at hq
   simp only [cond_true, zz1, Prod.mk.injEq] at hq;obtain ⟨rfl, rfl⟩ := hq;have h0 : first = #[] := Array.eq_empty_of_size_eq_zero (zz4 hb);subst h0;refine ⟨.func (.func f) #[] (caps.toList.map a.eval).toArray, by simp only [rep]; exact ⟨_, rfl, zQ3 D⟩, ?_⟩;simp only [execOp, Instr.makeFunc];have : caps.map a.eval = (caps.toList.map a.eval).toArray := by apply Array.ext'; simp
   simp [this]
 case build T parts =>
  simp only [execOp];exact wrap (yBh D hq hp)
 case slice T x lo hi mx =>
  cases mx <;> simp only [reduceCtorEq] at hq
  obtain ⟨p', hd, rfl⟩ := zEw hq;simp only [execOp];refine wrap ?_;refine yA5 (P := P) (D.unG hp (show x ∈ _ by simp)) ?_ ?_ ?_ ?_ hd (zAt hp).2 w
  ·intro y hy
   cases lo with
   | none => cases hy
   | some z => simp only [Option.map_some, zz1] at hy; subst hy; exact ⟨_, rfl, D.unG hp (show z ∈ _ by simp)⟩
  ·intro hn; cases lo <;> simp_all
  ·intro y hy
   cases hi with
   | none => cases hy
   | some z => simp only [Option.map_some, zz1] at hy; subst hy; exact ⟨_, rfl, D.unG hp (show z ∈ _ by simp)⟩
  ·intro hn; cases hi <;> simp_all
 case call c =>
  obtain ⟨cl, args, tys⟩ := c;obtain ⟨args⟩ := args;obtain ⟨tys⟩ := tys;simp only at hq;unfold clD at hq;split at hq
  ·rename_i x T ts
   cases hd : lnD P s T (Sx.unG s x) with
   | none => rw [hd] at hq; cases hq
   | some d' =>
    rw [hd] at hq;simp only [Option.map_some, zz1, Prod.mk.injEq] at hq;obtain ⟨rfl, rfl⟩ := hq;obtain ⟨u, h1, h2⟩ := yBa (P := P) (ts := ts) (ty := ty) D (D.unG hp (List.mem_singleton_self x)) hd;refine ⟨u, h1, ?_⟩;simp only [execOp, resolve, invoke, builtin];simp [h2]
  ·rename_i ts x y
   cases hd : mnD false (Sx.unG s x) (Sx.unG s y) with
   | none => rw [hd] at hq; cases hq
   | some d' =>
    rw [hd] at hq;simp only [Option.map_some, zz1, Prod.mk.injEq] at hq;obtain ⟨rfl, rfl⟩ := hq;obtain ⟨u, h1, h2⟩ := zUq (P := P) (D.unG hp (show x ∈ [x, y] by simp)) (D.unG hp (show y ∈ [x, y] by simp)) hd w;refine ⟨u, h1, ?_⟩;simp only [Bool.false_eq_true, if_false] at h2;simp [execOp, resolve, invoke, builtin, Builtin.min_, h2]
  ·rename_i ts x y
   cases hd : mnD true (Sx.unG s x) (Sx.unG s y) with
   | none => rw [hd] at hq; cases hq
   | some d' =>
    rw [hd] at hq;simp only [Option.map_some, zz1, Prod.mk.injEq] at hq;obtain ⟨rfl, rfl⟩ := hq;obtain ⟨u, h1, h2⟩ := zUq (P := P) (D.unG hp (show x ∈ [x, y] by simp)) (D.unG hp (show y ∈ [x, y] by simp)) hd w;refine ⟨u, h1, ?_⟩;simp only [if_true] at h2;simp [execOp, resolve, invoke, builtin, Builtin.max_, h2]
  ·cases hq
end
end Go.Sx
namespace Go.Sx
open Go.RowKit
inductive It where
 | code (c : Code)
 | blk (id : Nat)
 | lp (I : Act → World → Prop)
def fe : Option Nat → Fence
 | none => Fence.wide
 | some l => Fence.wide.inRound l
theorem zYw (r : Option Nat) (f : FuncId) : (fe r).fn f := by cases r <;> trivial
theorem yCh (r : Option Nat) : (fe r).depth.isSome = true → 1 ≤ 0 := by cases r <;> (intro h; cases h)
theorem zYv (r : Option Nat) : (fe r).round = r := by cases r <;> rfl
theorem zY8 {r : Option Nat} {n : Nat} {P : Program} {f : FuncId} {args : Array Value} {w : World} {R : Ending → World → Prop} (h : Calls P f args w R) : CallsIn (fe r) n P f args w R := by
 cases r with
 | none => exact callsIn_wide.2 h
 | some l => exact CallsIn.inRound l (callsIn_wide.2 h)
theorem zU3 {r : Option Nat} {n : Nat} {P : Program} {row : String} {args : Array Value} {w : World} {R : Value → World → Prop} (h : Rows P row args w R) : RowsIn (fe r) n P row args w R := by
 have h0 : RowsIn Fence.wide n P row args w R := fun c cs _ => let ⟨v, w', r, s⟩ := h c cs; ⟨v, w', r, stepsIn_wide.2 s⟩
 cases r with
 | none => exact h0
 | some l => exact h0
def post (P : Program) (rd : Option Nat) (fin : Exit → Act → World → Prop) : List It → Exit → Act → World → Prop
 | [], e, a, w => fin e a w
 | .code c :: k, .normal, a, w => c.wpIn (fe rd) 0 P (post P rd fin k) a w
 | .code _ :: k, e, a, w => post P rd fin k e a w
 | .blk _ :: k, .normal, a, w => post P rd fin k .normal a w
 | .blk id :: k, .exit j, a, w => if j = id then post P rd fin k .normal a w else post P rd fin k (.exit j) a w
 | .blk _ :: k, e, a, w => post P rd fin k e a w
 | .lp I :: _, .normal, a, w => I a w
 | .lp _ :: k, e, a, w => post P rd fin k e a w
def wpS (P : Program) (ops : Array Oper) (Q : Exit → Act → World → Prop) : List Oper → Act → World → Prop
 | [], a, w => Q .normal a w
 | o :: rest, a, w => if Region.wanted o (yielded ops a.tmps) then o.wp P a w (wpS P ops Q rest) Q ∨ ∀ r, o.wpIn (fe r) 0 P a w (wpS P ops Q rest) Q else wpS P ops Q rest (a.put o.dst undef) w
def zRe (o : Oper) : Bool := match o.op with
 | .defer _ => false
 | _ => true
def zK9 : List Oper → Bool
 | [] => true
 | o :: r => zRe o && zK9 r
section
variable {P : Program} {ops : Array Oper} {Q : Exit → Act → World → Prop} {a : Act} {w : World} {rest : List Oper} {o : Oper}
theorem yAn (h : Q .normal a w) : wpS P ops Q [] a w := h
theorem zHk (h : ∀ K : Act → World → Prop, (∀ a w, wpS P ops Q rest a w → K a w) → if Region.wanted o (yielded ops a.tmps) then o.wp P a w K Q else K (a.put o.dst undef) w) : wpS P ops Q (o :: rest) a w := by
 have := h _ fun _ _ h => h
 simp only [wpS]
 split
 ·rename_i hw; rw [if_pos hw] at this; exact .inl this
 ·rename_i hw; rw [if_neg hw] at this; exact this
theorem yAo (hg : o.guard = none) (h : ∀ K : Act → World → Prop, (∀ a w, wpS P ops Q rest a w → K a w) → ∀ r, o.wpIn (fe r) 0 P a w K Q) : wpS P ops Q (o :: rest) a w := by
 simp only [wpS, Region.wanted, hg, if_true]
 exact .inr (h _ fun _ _ h => h)
theorem zAf (hg : o.guard = none) (h : ∀ K : Act → World → Prop, (∀ a w, wpS P ops Q rest a w → K a w) → o.wp P a w K Q) : wpS P ops Q (o :: rest) a w :=
 zHk fun K hK => by simp only [Region.wanted, hg, if_true]; exact h K hK
theorem opIn {r : Option Nat} {K K' : Act → World → Prop} (hd : zRe o = true) (hK : ∀ a w, K a w → K' a w) (h : o.wp P a w K Q) : o.wpIn (fe r) 0 P a w K' Q := by
 refine ⟨fun f _ => zYw r f, ?_⟩
 have hs : o.semAt (fe r).round a.eval = execOp a.eval o := Oper.semAt_eq _ _ _ fun c hc => by simp [zRe, hc] at hd
 rw [hs]
 unfold Oper.wp at h
 generalize (execOp a.eval o).run P w = res at h
 cases res with
 | ok x w' =>
  cases x <;> simp only [Oper.upon, Oper.uponIn] at h ⊢
  case value v => exact hK _ _ h
  case skip => exact hK _ _ h
  case defer d => exact hK _ _ h
  case enter f args => exact ⟨yCh r, zY8 (h.mono fun e w'' he => by cases e <;> first | exact hK _ _ he | exact he)⟩
  all_goals first
   | exact h.elim
   | exact ⟨yCh r, zU3 (h.mono fun v w'' he => hK _ _ he)⟩
 | halt x w' => cases x <;> simp only [Oper.upon, Oper.uponIn] at h ⊢ <;> first | exact h | exact h.elim
theorem zQn {r : Option Nat} : ∀ {l : List Oper} {a : Act} {w : World}, zK9 l = true → wpS P ops Q l a w → wpListIn (fe r) 0 P ops Q l a w
 | [], _, _, _, h => h
 | o :: rest, a, w, hd, h => by
  simp only [zK9, zz3] at hd;simp only [wpS] at h;simp only [wpListIn];split
  ·rename_i hw
   rw [if_pos hw] at h
   rcases h with h | h
   ·exact opIn hd.1 (fun a w => zQn hd.2) h
   ·exact Oper.wpIn_mono (fun a w => zQn hd.2) (h r)
  ·rename_i hw
   rw [if_neg hw] at h;exact ⟨fun f _ => zYw r f, zQn hd.2 h⟩
def zTz (P : Program) (ops : Array Oper) (Q : Exit → Act → World → Prop) (i : Nat) (K : Act → World → Prop) (a : Act) (w : World) : Prop :=
 match ops[i]? with
 | none => K a w
 | some o => if Region.wanted o (yielded ops a.tmps) then o.wp P a w K Q else K (a.put o.dst undef) w
def wpAnyS (P : Program) (md : Region.Mode) (ops : Array Oper) (Q : Exit → Act → World → Prop) : Nat → Array Bool → Act → World → Prop
 | 0, listed, a, w => Region.ready md ops listed = [] ∧ Q .normal a w
 | fuel + 1, listed, a, w =>
  (Region.ready md ops listed = [] → Q .normal a w) ∧
  ∀ i ∈ Region.ready md ops listed, zTz P ops Q i (wpAnyS P md ops Q fuel (listed.setIfInBounds i true)) a w
theorem zOg : ∀ {l : List Oper} {i : Nat} {o : Oper}, zK9 l = true → l[i]? = some o → zRe o = true
 | [], _, _, _, h => by simp at h
 | x :: r, 0, o, hd, h => by
  simp only [zK9, zz3] at hd;simp only [List.getElem?_cons_zero, zz1] at h;rw [← h]; exact hd.1
 | x :: r, i + 1, o, hd, h => by
  simp only [zK9, zz3] at hd;exact zOg hd.2 (by simpa using h)
theorem zFu {r : Option Nat} {md : Region.Mode} {l : List Oper} (hd : zK9 l = true) : ∀ {fuel : Nat} {listed : Array Bool} {a : Act} {w : World}, wpAnyS P md l.toArray Q fuel listed a w → wpAnyIn (fe r) 0 P md l.toArray Q fuel listed a w
 | 0, _, _, _, h => h
 | fuel + 1, listed, a, w, h => by
  refine ⟨h.1, fun i hi => ?_⟩;have h2 := h.2 i hi;unfold zTz at h2;unfold wpOpIn;cases ho : l.toArray[i]? with
  | none => rw [ho] at h2; exact zFu hd h2
  | some o =>
   rw [ho] at h2;simp only at h2 ⊢;split
   ·rename_i hw
    rw [if_pos hw] at h2;exact opIn (zOg hd (by simpa using ho)) (fun a w => zFu hd) h2
   ·rename_i hw
    rw [if_neg hw] at h2;exact ⟨fun f _ => zYw r f, zFu hd h2⟩
end
section
variable {P : Program} {F : List Nat} {w0 : Base} {fin : Exit → Act → World → Prop} {k : List It} {s : St}
def Run (P : Program) (F : List Nat) (w0 : Base) (fin : Exit → Act → World → Prop) (k : List It) (s : St) : Prop :=
 ∀ h e a w, Den F w0 s h e a w → post P w0.rd fin k .normal a w
def zAi (P : Program) (F : List Nat) (w0 : Base) (ops : Array Oper) (Q : Exit → Act → World → Prop) (l : List Oper) (s : St) : Prop :=
 ∀ h e a w, Den F w0 s h e a w → wpS P ops Q l a w
theorem zG (h : Run P F w0 fin k s) : Run P F w0 fin (.code .skip :: k) s := fun _ _ _ _ D => wpIn_skip (h _ _ _ _ D)
theorem zC {a b : Code} (h : Run P F w0 fin (.code a :: .code b :: k) s) : Run P F w0 fin (.code (.seq a b) :: k) s := fun h' e a' w D => by
 have := h h' e a' w D
 refine wpIn_seq ?_
 have e : (Exit.then (b.wpIn (fe w0.rd) 0 P (post P w0.rd fin k)) (post P w0.rd fin k)) = post P w0.rd fin (.code b :: k) := by
  funext e a w
  cases e <;> rfl
 rw [e]
 exact this
theorem zD {id : Nat} {c : Code} (h : Run P F w0 fin (.code c :: .blk id :: k) s) : Run P F w0 fin (.code (.block id c) :: k) s := fun h' e a' w D => by
 have := h h' e a' w D
 refine wpIn_block ?_
 have e : (Exit.inBlock id (post P w0.rd fin k)) = post P w0.rd fin (.blk id :: k) := by
  funext e a w
  cases e <;> rfl
 rw [e]
 exact this
theorem zL {id : Nat} (h : Run P F w0 fin k s) : Run P F w0 fin (.blk id :: k) s := h
theorem zE {c : Operand} {x y : Code} {t : Bool} (hc : ev s c = .bool t) (h1 : t = true → Run P F w0 fin (.code x :: k) s) (h2 : t = false → Run P F w0 fin (.code y :: k) s) : Run P F w0 fin (.code (.cond c x y) :: k) s := fun h e a w D => by
 have := D.ev c
 rw [hc] at this
 simp only [rep] at this
 exact wpIn_cond_split this (fun ht => h1 ht _ _ _ _ D) (fun ht => h2 ht _ _ _ _ D)
def zQc (id : Nat) : List It → Option (List It)
 | .blk j :: k => bif Nat.beq j id then some k else zQc id k
 | _ :: k => zQc id k
 | [] => none
theorem zH5 {rd : Option Nat} {id : Nat} {a : Act} {w : World} : ∀ {k k' : List It}, zQc id k = some k' → post P rd fin k' .normal a w → post P rd fin k (.exit id) a w
 | [], _, h, _ => by cases h
 | .code _ :: k, _, h, x => by simp only [zQc] at h; exact zH5 (k := k) h x
 | .lp _ :: k, _, h, x => by simp only [zQc] at h; exact zH5 (k := k) h x
 | .blk j :: k, _, h, x => by
  simp only [zQc] at h;cases hb : Nat.beq j id
  ·rw [hb] at h
   have : ¬ id = j := fun hc => zB2 hb hc.symm;simp only [post, this, if_false];exact zH5 (k := k) h x
  ·rw [hb] at h
   have := zz4 hb;subst this;simp only [cond_true, zz1] at h;subst h;simp only [post, if_true];exact x
theorem zK {id : Nat} {k' : List It} (hk : zQc id k = some k') (h : Run P F w0 fin k' s) : Run P F w0 fin (.code (.exit id) :: k) s := fun _ _ _ _ D => wpIn_exit (zH5 hk (h _ _ _ _ D))
theorem zCc {rd : Option Nat} {a : Act} {w : World} : ∀ {k : List It}, fin .ret a w → post P rd fin k .ret a w
 | [], x => x
 | .code _ :: k, x => zCc (k := k) x
 | .lp _ :: k, x => zCc (k := k) x
 | .blk _ :: k, x => zCc (k := k) x
theorem zA {id : Nat} {l : List Oper} (hnd : zK9 l = true) (h : zAi P F w0 l.toArray (post P w0.rd fin k) l s) : Run P F w0 fin (.code (.region id l.toArray false) :: k) s := fun _ _ _ _ D => wpIn_region_lit (zQn hnd (h _ _ _ _ D))
theorem zB {ops : Array Oper} (h : Run P F w0 fin k s) : zAi P F w0 ops (post P w0.rd fin k) [] s := fun _ _ _ _ D => yAn (h _ _ _ _ D)
end
section
variable {P : Program} {F : List Nat} {w0 : Base} {Q : Exit → Act → World → Prop} {s : St} {ops : Array Oper} {rest : List Oper}
theorem zAm {a b : Nat} (h : Nat.blt a b = true) : a < b := Nat.le_of_ble_eq_true h
def zOa (P : Program) (s : St) (t : Nat) (op : Op) : Option (List Prop × St) :=
 match qv P s op with
 | some (p, d) => bif Nat.blt t s.n then some (p, s.put t d) else none
 | none => none
theorem zD3 {o : Oper} {a : Act} {w : World} {v : Value} {K : Act → World → Prop} (h : (execOp a.eval o).run P w = .ok (.value v) w) (hk : K (a.put o.dst v) w) : o.wp P a w K Q := by
 unfold Oper.wp
 rw [h]
 exact hk
theorem yF6 {t : Nat} {op : Op} {ty : Nat} {pos : String} {af : Array Edge} {p : List Prop} {s' : St} (hq : zOa P s t op = some (p, s')) (hp : zAn p)
  (hn : zAi P F w0 ops Q rest s') : zAi P F w0 ops Q (⟨some t, op, ty, pos, af, none⟩ :: rest) s := fun h e a w D => by
 unfold zOa at hq
 split at hq
 ·rename_i p' d hq'
  cases hb : Nat.blt t s.n
  ·rw [hb] at hq; cases hq
  ·rw [hb] at hq
   simp only [cond_true, zz1, Prod.mk.injEq] at hq;obtain ⟨rfl, rfl⟩ := hq;obtain ⟨v, h1, h2⟩ := zYb D hq' hp (some t) ty pos af none;refine zAf rfl fun K hK => zD3 h2 (hK _ _ (hn _ _ _ _ (D.put (zAm hb) h1)))
 ·cases hq
def gB (b : Bool) (c : Bool) : Bool := bif b then c else !c
def gV (d : SD) (b : Bool) : Option Bool :=
 match d with
 | .bool c => some (gB b c)
 | .gd c0 (.bool c) => some (c0 && gB b c)
 | _ => none
def mkG (g : Bool) : SD → SD
 | .gd c d => .gd (g && c) d
 | d => .gd g d
theorem zLr {h : Hp} {e : Nm} {g : Bool} {d : SD} {v : Value} (h1 : g = true → rep h d e v) (h2 : g = false → v = undef) : rep h (mkG g d) e v := by
 cases d <;> simp only [mkG, rep]
 case gd c d =>
  simp only [rep] at h1;cases g <;> cases c <;> simp_all
 all_goals first
  | exact ⟨fun hg => by simpa only [rep] using h1 hg, h2⟩
  | exact ⟨fun hg => by have := h1 hg; simp only [rep] at this; exact this, h2⟩
def zTf (P : Program) (s : St) (t tj : Nat) (b : Bool) (op : Op) : Option (Prop × St) :=
 match gV (lkp s.sl tj) b with
 | some g => match qv P s op with
  | some (p, d) => bif Nat.blt t s.n then some (g = true → zAn p, s.put t (mkG g d)) else none
  | none => none
 | none => none
theorem zWe {ts : Array Value} {t : Nat} {c : Bool} (h : ts.getD t undef = .bool c) : ts[t]? = some (.bool c) := by
 rw [Array.getD_eq_getD_getElem?] at h
 cases hx : ts[t]? with
 | none => rw [hx] at h; simp [undef] at h
 | some v => rw [hx] at h; simpa using h
theorem zJ1 {o : Oper} {a : Act} {j tj : Nat} {b c : Bool} (hg : o.guard = some (j, b)) (hj : (ops[j]?).bind (·.dst) = some tj) (hc : a.tmps.getD tj undef = .bool c) : Region.wanted o (yielded ops a.tmps) = gB b c := by
 simp only [Region.wanted, hg, yielded, hj, Option.bind_some, zWe hc]
 cases b <;> cases c <;> rfl
theorem zNt {o : Oper} {a : Act} {j tj : Nat} {b : Bool} (hg : o.guard = some (j, b)) (hj : (ops[j]?).bind (·.dst) = some tj) (hc : a.tmps.getD tj undef = undef) : Region.wanted o (yielded ops a.tmps) = false := by
 have : yielded ops a.tmps j = none := by
  simp only [yielded, hj, Option.bind_some];rw [Array.getD_eq_getD_getElem?] at hc;cases hx : a.tmps[tj]? with
  | none => rfl
  | some v =>
   rw [hx] at hc;simp only [Option.getD_some] at hc;subst hc;rfl
 simp [Region.wanted, hg, this]
theorem zCh {o : Oper} {a : Act} {j tj : Nat} {b g : Bool} {h : Hp} {e : Nm} {d : SD} (hg : o.guard = some (j, b)) (hj : (ops[j]?).bind (·.dst) = some tj) (hv : rep h d e (a.tmps.getD tj undef)) (hc : gV d b = some g) : Region.wanted o (yielded ops a.tmps) = g := by
 unfold gV at hc
 split at hc
 ·simp only [zz1] at hc
  subst hc;simp only [rep] at hv;exact zJ1 hg hj hv
 ·rename_i c0 c
  simp only [zz1] at hc;subst hc;simp only [rep] at hv;cases c0
  ·rw [zNt hg hj (hv.2 rfl)]; rfl
  ·rw [zJ1 hg hj (hv.1 rfl)]; simp
 ·cases hc
theorem yF7 {t : Nat} {op : Op} {ty : Nat} {pos : String} {af : Array Edge} {j : Nat} {b : Bool} {p : Prop} {s' : St} (tj : Nat) (hj : (ops[j]?).bind (·.dst) = some tj) (hq : zTf P s t tj b op = some (p, s')) (hp : p)
  (hn : zAi P F w0 ops Q rest s') : zAi P F w0 ops Q (⟨some t, op, ty, pos, af, some (j, b)⟩ :: rest) s := fun h e a w D => by
 unfold zTf at hq
 split at hq
 ·rename_i g hc
  have hv := D.slot tj;split at hq
  ·rename_i p' d hq'
   cases hb : Nat.blt t s.n
   ·rw [hb] at hq; cases hq
   ·rw [hb] at hq
    simp only [cond_true, zz1, Prod.mk.injEq] at hq;obtain ⟨rfl, rfl⟩ := hq;refine zHk fun K hK => ?_;rw [zCh (o := ⟨some t, op, ty, pos, af, some (j, b)⟩) rfl hj hv hc];cases hgb : g
    ·rw [if_neg (by simp)]
     refine hK _ _ (hn _ _ _ _ (D.put (zAm hb) ?_));exact zLr (fun h => by rw [hgb] at h; cases h) fun _ => rfl
    ·rw [if_pos rfl]
     obtain ⟨v, h1, h2⟩ := zYb D hq' (hp hgb) (some t) ty pos af (some (j, b));refine zD3 h2 (hK _ _ (hn _ _ _ _ (D.put (zAm hb) ?_)));exact zLr (fun _ => h1) fun h => by rw [hgb] at h; cases h
  ·cases hq
 ·cases hq
def zLd (s : St) (t : Nat) (x : SD) : Option St :=
 match cellsD x with
 | some l => bif Nat.blt t s.n && s.free s.nx && !zGy s.nx l then some ⟨s.n, s.nx + 1, upd s.sl t (.loc s.nx 0), upd s.ow s.nx (.var l)⟩ else none
 | none => none
theorem Den.box {h : Hp} {e : Nm} {a : Act} {w : World} (D : Den F w0 s h e a w) {t T : Nat} {x : SD} {v : Value} {s' : St} (hx : rep h x e v) (hq : zLd s t x = some s') :
  Den F w0 s' h (e.setB s.nx w.heap.size) (a.put (some t) (.pointer (some ⟨w.heap.size, 0, none⟩))) (w.alloc (.cells v.cells T)) := by
 unfold zLd at hq
 split at hq
 ·rename_i l hl
  cases hb : (Nat.blt t s.n && s.free s.nx && !zGy s.nx l)
  ·rw [hb] at hq; cases hq
  ·rw [hb] at hq
   simp only [cond_true, zz1] at hq;subst hq;simp only [zz3, Bool.not_eq_true'] at hb;obtain ⟨⟨hb1, hb2⟩, hb3⟩ := hb;have D1 := D.newVar (k := s.nx) (l := l) (cs := v.cells) (T := T) (Free.of hb2) hb3 (zAx hl hx) (s.nx + 1);exact D1.put (zAm hb1) (by simp [rep, Nm.setB])
 ·cases hq
theorem yA1 {t T : Nat} {x : Operand} {ty : Nat} {pos : String} {af : Array Edge} {s' : St} (hq : zLd s t (ev s x) = some s')
  (hn : zAi P F w0 ops Q rest s') : zAi P F w0 ops Q (⟨some t, .box T x, ty, pos, af, none⟩ :: rest) s := fun h e a w D => by
 refine zAf rfl fun K hK => ?_
 have hr : (execOp a.eval ⟨some t, .box T x, ty, pos, af, none⟩).run P w = .ok (.value (.pointer (some ⟨w.heap.size, 0, none⟩))) (w.alloc (.cells (a.eval x).cells T)) := by
  simp only [execOp, Instr.box, newVar, newRow, newObj]; rfl
 unfold Oper.wp
 rw [hr]
 exact hK _ _ (hn _ _ _ _ (D.box (D.ev x) hq))
def zcT (P : Program) (T : Nat) : Option SD :=
 match (P.info? T).bind (·.zero) with
 | some z => some (ofV z)
 | none => none
theorem zUb {t T : Nat} {ty : Nat} {pos : String} {af : Array Edge} {s' : St} {z : SD} (hz : zcT P T = some z) (hq : zLd s t z = some s')
  (hn : zAi P F w0 ops Q rest s') : zAi P F w0 ops Q (⟨some t, .alloc T, ty, pos, af, none⟩ :: rest) s := fun h e a w D => by
 refine zAf rfl fun K hK => ?_
 unfold zcT at hz
 cases hi : P.info? T with
 | none => rw [hi] at hz; cases hz
 | some i =>
  rw [hi] at hz;cases hzz : i.zero with
  | none => simp [hzz] at hz
  | some zv =>
   simp only [Option.bind_some, hzz, zz1] at hz;subst hz
   have hr : (execOp a.eval ⟨some t, .alloc T, ty, pos, af, none⟩).run P w = .ok (.value (.pointer (some ⟨w.heap.size, 0, none⟩))) (w.alloc (.cells zv.cells T)) := by
    have hzv : (zeroValue T).run P w = .ok zv w := by simp [zeroValue, typeInfo, hi, hzz]
    simp only [execOp, Instr.alloc, Sem.run_bind, hzv, Result.andThen_ok, newVar, newRow, newObj]; rfl
   unfold Oper.wp;rw [hr];exact hK _ _ (hn _ _ _ _ (D.box (zG4 h e zv) hq))
def zNx (P : Program) (s : St) (T : Nat) (p x : SD) : Option St :=
 match p with
 | .loc k off => match lkO s.ow k with
  | some (.var l) => match cellsD x with
   | some c => bif Nat.beq c.length (szT P T) && Nat.ble 1 c.length && Nat.ble (off + c.length) l.length then
     some { s with ow := upd s.ow k (.var (l.take off ++ c ++ l.drop (off + c.length))) } else none
   | none => none
  | _ => none
 | _ => none
theorem zT9 {T : Nat} {x y : Operand} {ty : Nat} {pos : String} {af : Array Edge} {s' : St} (hq : zNx P s T (ev s x) (ev s y) = some s')
  (hn : zAi P F w0 ops Q rest s') : zAi P F w0 ops Q (⟨none, .store T x y, ty, pos, af, none⟩ :: rest) s := fun h e a w D => by
 refine zAf rfl fun K hK => ?_
 unfold zNx at hq
 split at hq
 ·rename_i k off hx
  split at hq
  ·rename_i l ho
   split at hq
   ·rename_i c hc
    cases hb : (Nat.beq c.length (szT P T) && Nat.ble 1 c.length && Nat.ble (off + c.length) l.length)
    ·rw [hb] at hq; cases hq
    ·rw [hb] at hq
     simp only [cond_true, zz1] at hq;subst hq;simp only [zz3] at hb;obtain ⟨⟨hb1, hb2⟩, hb3⟩ := hb;have hb1 := zz4 hb1;have hb2 := Nat.le_of_ble_eq_true hb2;have hb3 := Nat.le_of_ble_eq_true hb3;have hxv := D.ev x;rw [hx] at hxv;simp only [rep] at hxv;have hcv := zAx hc (D.ev y);have hcl := zAq hcv;obtain ⟨cs, T', g1, g2⟩ := D.own k _ ho;have hl := zAq g2;obtain ⟨m, hm⟩ : ∃ m, szT P T = m + 1 := ⟨szT P T - 1, by omega⟩;obtain ⟨i, hi, hs⟩ := zAl hm;have hst := run_storeCells_at P (e.bs k) off T' (a.eval y).cells.toList 0 cs w g1 (by rw [hcl]; simp at hl; omega) (zDw hcv);simp only [Nat.add_zero] at hst;have hsz : (a.eval y).cells.size = i.size := by rw [hs, ← hm, ← hb1, ← hcl]; simp
     have hr : (execOp a.eval ⟨none, .store T x y, ty, pos, af, none⟩).run P w = .ok .skip (w.setRow (e.bs k) (cs.toList.take off ++ (a.eval y).cells.toList ++ cs.toList.drop (off + (a.eval y).cells.toList.length)).toArray) := by
      simp [execOp, hxv, Instr.storeAt, Instr.sureAddr, storeVar, sizeOf, typeInfo, hi, hsz, hst]
     unfold Oper.wp;rw [hr];refine hK _ _ (hn _ e _ _ ((D.setOwn (o' := .var (l.take off ++ c ++ l.drop (off + c.length))) ho rfl ⟨_, T', setRow_heap w _ cs _ T' _ g1, ?_⟩ ?_ rfl rfl rfl (by simp)).put_none _))
     ·rw [hcl]
      exact zBg (zBg (zDh off g2) hcv) (zBy _ g2)
     ·intro b hbk
      exact setRow_other w _ b _ (fun hc => hbk (by simp [OB.blk, hc]))
   ·cases hq
  ·cases hq
 ·cases hq
end
end Go.Sx
namespace Go.Sx
open Go.RowKit
def SLe (d d' : SD) : Prop := ∀ h e v, rep h d e v → rep h d' e v
theorem SLe.refl (d : SD) : SLe d d := fun _ _ _ x => x
theorem SLe.any (d : SD) : SLe d .any := fun _ _ _ _ => by simp [rep]
theorem SLe.int {k : IntKind} {a b : Int} (h : a = b) : SLe (.int k a) (.int k b) := h ▸ SLe.refl _
theorem SLe.bool {a b : Bool} (h : a = b) : SLe (.bool a) (.bool b) := h ▸ SLe.refl _
theorem SLe.list {es n n' : Nat} {f f' : Nat → SD} (hn : n = n') (h : ∀ i, i < n → f i = f' i) : SLe (.list es n f) (.list es n' f') := fun hp e v x => by
 subst hn
 simp only [rep] at x ⊢
 obtain ⟨a, cap, h1, h2, h3, h4⟩ := x
 refine ⟨a, cap, h1, h2, h3, fun hn => ?_⟩
 obtain ⟨ad, cs, T, fr, g1, g2, g3, g4⟩ := h4 hn
 refine ⟨ad, cs, T, fr, g1, g2, g3, fun i hi => ?_⟩
 obtain ⟨u, u1, u2⟩ := g4 i hi
 exact ⟨u, by rw [← h i hi]; exact u1, u2⟩
theorem SLe.nils {es : Nat} {f : Nat → SD} : SLe .nils (.list es 0 f) := fun hp e v x => by
 simp only [rep] at x ⊢
 exact ⟨none, 0, x, Nat.le_refl _, ⟨by simp [maxLen], Nat.zero_le _⟩, fun h => absurd h (by omega)⟩
def zQs (l : List (Nat × SD)) : List (Nat × SD) → Prop
 | [] => True
 | (i, d) :: r => SLe (lkp l i) d ∧ zQs l r
theorem zPi {l : List (Nat × SD)} : ∀ {l' : List (Nat × SD)}, zQs l l' → ∀ t, SLe (lkp l t) (lkp l' t)
 | [], _, t => SLe.any _
 | (i, d) :: r, h, t => by
  simp only [zQs] at h;simp only [lkp];cases hb : Nat.beq i t
  ·exact zPi h.2 t
  ·have := zz4 hb
   subst this;exact h.1
def OLe : OB → OB → Prop
 | .var l, .var l' => ∀ h e vs, repC h l e vs → repC h l' e vs
 | .acc T es n f, .acc T' es' n' f' => T = T' ∧ es = es' ∧ n = n' ∧ ∀ i, i < n → ∀ h u, (∀ e, rep h (f i) e u) → ∀ e, rep h (f' i) e u
 | .mp a l, .mp b l' => (a.kk = b.kk ∧ a.n = b.n ∧ a.it = b.it ∧ ∀ q, a.dom q = b.dom q ∧ (a.dom q = true → ∀ h e v, rep h (a.f q) e v → rep h (b.f q) e v)) ∧ ∀ h e u, (∀ d c r, l = (d, c) :: r → rep h d e u) → ∀ d c r, l' = (d, c) :: r → rep h d e u
 | _, _ => False
theorem OLe.refl (o : OB) : OLe o o := by
 cases o
 ·exact fun _ _ _ x => x
 ·exact ⟨rfl, rfl, rfl, fun _ _ _ _ x => x⟩
 ·exact ⟨⟨rfl, rfl, rfl, fun _ => ⟨rfl, fun _ _ _ _ x => x⟩⟩, fun _ _ _ x => x⟩
def zC2 (l : List (Nat × OB)) : List (Nat × OB) → Prop
 | [] => True
 | (k, o) :: r => (∃ o0, lkO l k = some o0 ∧ OLe o0 o) ∧ zC2 l r
theorem zFx {l : List (Nat × OB)} : ∀ {l' : List (Nat × OB)}, zC2 l l' → ∀ k o, lkO l' k = some o → ∃ o0, lkO l k = some o0 ∧ OLe o0 o
 | [], _, _, _, h => by simp [lkO] at h
 | (i, d) :: r, h, k, o, hk => by
  simp only [zC2] at h;simp only [lkO] at hk;cases hb : Nat.beq i k
  ·rw [hb] at hk; exact zFx h.2 k o hk
  ·rw [hb] at hk
   have := zz4 hb;subst this;simp only [cond_true, zz1] at hk;subst hk;exact h.1
theorem OLe.blk {o o' : OB} (h : OLe o o') (e : Nm) (k : Nat) : o'.blk e k = o.blk e k := by
 cases o <;> cases o' <;> simp_all [OLe, OB.blk]
theorem yFo.congr {kk : Option IntKind} {dom dom' : MK → Bool} {es : Array MapEntry} {clock : Nat} (x : yFo kk dom es clock) (h : ∀ q, dom q = dom' q) : yFo kk dom' es clock := by
 have : dom = dom' := funext h
 rw [← this]; exact x
theorem MK.val_inj {kk : Option IntKind} {p q : MK} (hp : p.ok kk = true) (hq : q.ok kk = true) (h : p.val kk = q.val kk) : p = q := by
 cases kk <;> cases p <;> cases q <;> simp_all [MK.ok, MK.val]
theorem zRm {h : Hp} {a b : MD} {es : Array MapEntry} {clock : Nat} (h1 : a.kk = b.kk) (h2 : a.n = b.n) (h3 : ∀ q, a.dom q = b.dom q ∧ (a.dom q = true → ∀ h e v, rep h (a.f q) e v → rep h (b.f q) e v)) (x : zG8 h a es clock) : zG8 h b es clock := by
 obtain ⟨x1, x2, x3, x4⟩ := x
 refine ⟨by rw [← h2]; exact x1, by rw [← h2]; exact x2, by rw [← h1]; exact x3.congr fun q => (h3 q).1, fun y hy q hq hk e => ?_⟩
 rw [← h1] at hq hk
 refine (h3 q).2 ?_ h e _ (x4 y hy q hq hk e)
 obtain ⟨p, p1, p2, p3⟩ := x3.key y hy
 rw [MK.val_inj hk p1 (hq.symm.trans p2)]
 exact p3
theorem zYf {h : Hp} {a b : MD} {bk : Nat} {o : Obj} (h1 : a.kk = b.kk) (h2 : a.n = b.n) (h0 : a.it = b.it) (h3 : ∀ q, a.dom q = b.dom q ∧ (a.dom q = true → ∀ h e v, rep h (a.f q) e v → rep h (b.f q) e v)) (x : zIa h a bk o) : zIa h b bk o := by
 unfold zIa at x ⊢
 rw [← h0]
 cases hi : a.it with
 | none =>
  rw [hi] at x;obtain ⟨es, clock, g1, g2⟩ := x;exact ⟨es, clock, g1, zRm h1 h2 h3 g2⟩
 | some p =>
  rw [hi] at x;cases p with
  | raw o' K => exact x
  | live T es n f i => exact x
  | iter c V cur =>
  obtain ⟨bb, es, clock, seen, g1, g2, g3, g4, g5, g6⟩ := x;exact ⟨bb, es, clock, seen, g1, g2, zRm h1 h2 h3 g3, g4, by rw [← h1]; exact g5, by rw [← h1]; exact g6⟩
theorem OLe.ok {o o' : OB} (hl : OLe o o') {h : Hp} {e : Nm} {w : World} {k : Nat} (x : zDp h e w k o) : zDp h e w k o' := by
 cases o <;> cases o' <;> simp only [OLe] at hl
 ·obtain ⟨cs, T, h1, h2⟩ := x
  exact ⟨cs, T, h1, hl h e _ h2⟩
 ·obtain ⟨rfl, rfl, rfl, hf⟩ := hl
  obtain ⟨xs, h1, h2, h3⟩ := x;refine ⟨xs, h1, h2, fun i hi => ?_⟩;obtain ⟨u, u1, u2⟩ := h3 i hi;exact ⟨u, hf i hi h u u1, u2⟩
 ·obtain ⟨⟨h1, h2, h3, h4⟩, h5⟩ := hl
  unfold zDp at x ⊢;simp only at x ⊢;rw [← h3];split at x
  ·exact zEb (Le.refl h) rfl (fun _ _ => rfl) (fun u hu => h5 h e u hu) x
  ·obtain ⟨o, g1, g2⟩ := x
   exact ⟨o, g1, zYf h1 h2 h3 h4 g2⟩
structure Wk (s s' : St) : Prop where
 n : s.n = s'.n
 sl : zQs s.sl s'.sl
 ow : zC2 s.ow s'.ow
section
variable {P : Program} {F : List Nat} {w0 : Base} {fin : Exit → Act → World → Prop} {k : List It} {s : St}
theorem Den.weak {h : Hp} {e : Nm} {a : Act} {w : World} (D : Den F w0 s h e a w) {s' : St} (hw : Wk s s') : Den F w0 s' h e a w := by
 refine ⟨D.defers, D.size.trans hw.n, fun t => zPi hw.sl t h e _ (D.slot t), fun j o hj => ?_, fun j o b hj hb => ?_, fun j j' o o' b hne hj hj' hb => ?_, D.sub, D.keeps, D.le, D.neww, D.fix⟩
 ·obtain ⟨o0, g1, g2⟩ := zFx hw.ow j o hj
  exact g2.ok (D.own j o0 g1)
 ·obtain ⟨o0, g1, g2⟩ := zFx hw.ow j o hj
  rw [g2.blk] at hb;exact D.ownb j o0 b g1 hb
 ·obtain ⟨o0, g1, g2⟩ := zFx hw.ow j o hj
  obtain ⟨o1, g3, g4⟩ := zFx hw.ow j' o' hj';rw [g2.blk] at hb;rw [g4.blk];exact D.apart j j' o0 o1 b hne g1 g3 hb
theorem zXx {s' : St} (hw : Wk s s') (h : Run P F w0 fin k s') : Run P F w0 fin k s := fun _ _ _ _ D => h _ _ _ _ (D.weak hw)
theorem wpIn_loop_ghost {F : Fence} {n : Nat} {P : Program} {Q : Exit → Act → World → Prop} {a : Act} {w : World} {c : Code} (I : Nat → Act → World → Prop) (n₀ : Nat) (h₀ : I n₀ a w)
  (round : ∀ m a w, I m a w → c.wpIn F n P (Exit.then (fun a' w' => ∃ n', n' < m ∧ I n' a' w') Q) a w) : (Code.loop c).wpIn F n P Q a w := by
 refine wpIn_loop (fun a w => ∃ n, I n a w) (fun a w => leastOf (fun n => I n a w)) ⟨n₀, h₀⟩ ?_
 intro a w hI
 refine wpIn_mono (round _ a w (leastOf_spec hI).1) ?_
 intro e a' w' hq
 cases e with
 | normal =>
  obtain ⟨n', hlt, hI'⟩ := hq;exact show (∃ n, I n a' w') ∧ leastOf (fun n => I n a' w') < leastOf (fun n => I n a w) from ⟨⟨n', hI'⟩, Nat.lt_of_le_of_lt ((leastOf_spec ⟨n', hI'⟩).2 n' hI') hlt⟩
 | exit id => exact hq
 | goto l => exact hq
 | ret => exact hq
 | panic ch => exact hq
 | outgrown => exact hq
def LI {σ : Type} (F : List Nat) (w0 : Base) (S : σ → St) (I : σ → Prop) (μ : σ → Nat) (x : σ) : Act → World → Prop :=
 fun a w => ∃ x', I x' ∧ μ x' < μ x ∧ ∃ h e, Den F w0 (S x') h e a w
theorem zS {σ : Type} {S : σ → St} {I : σ → Prop} {μ : σ → Nat} {x : σ} (x' : σ) (h1 : I x') (h2 : μ x' < μ x) (h3 : Wk s (S x')) : Run P F w0 fin (.lp (LI F w0 S I μ x) :: k) s :=
 fun _ _ _ _ D => ⟨x', h1, h2, _, _, D.weak h3⟩
structure FnOK (P : Program) (f : Nat) (R : List SD → SD → Prop) : Prop where
 call : ∀ args w, (callFunc f args).run P w = .ok (.enter f args) w
 ok : ∀ ds d, R ds d → ∀ h e w vs, GH h → Sub h w → repT h ds e vs → Calls P f vs.toArray w fun en w' => ∃ v h', en = .returned v ∧ Le h h' ∧ Sub h' w' ∧ Below w.heap.size w w' ∧
  (∀ b, b < w.heap.size → h' b = h b) ∧ ∀ e', rep h' d e' v
def zC0 (s : St) (t : Nat) (d : SD) : Option St := bif Nat.blt t s.n then some (s.put t d) else none
theorem zA0 {t : Nat} {d : SD} {s' : St} (hs : zC0 s t d = some s') : t < s.n ∧ s' = s.put t d := by
 unfold zC0 at hs
 cases hb : Nat.blt t s.n
 ·rw [hb] at hs; cases hs
 ·rw [hb] at hs
  simp only [cond_true, zz1] at hs;exact ⟨zAm hb, hs.symm⟩
variable {Q : Exit → Act → World → Prop} {ops : Array Oper} {rest : List Oper}
theorem zA1 {h : Hp} {e : Nm} {a : Act} {w : World} (D : Den F w0 s h e a w) {l0 : List Operand} (hg : ∀ x ∈ l0, ∀ c d, ev s x = .gd c d → c = true) :
  ∀ {l : List Operand}, (∀ x ∈ l, x ∈ l0) → repT h (l.map (unG s)) e (l.map a.eval)
 | [], _ => by simp [repT]
 | x :: r, hl => by
  simp only [List.map_cons, repT];exact ⟨_, _, rfl, zD4 (D.ev x) fun c d hc => hg x (hl x (by simp)) c d hc, zA1 D hg fun y hy => hl y (by simp [hy])⟩
theorem zEx {a : Act} {w : World} {f : Nat} {R : List SD → SD → Prop} (hf : FnOK P f R) {t : Option Nat} {args : Array Operand} {tys : Array Nat} {ty : Nat} {pos : String} {af : Array Edge} {g : Option (Nat × Bool)} :
  (execOp a.eval ⟨t, .call ⟨.value (.func f), args, tys⟩, ty, pos, af, g⟩).run P w = .ok (.enter f (args.toList.map a.eval).toArray) w := by
 have : (args.toList.map a.eval).toArray = args.map a.eval := by apply Array.ext'; simp
 rw [this]
 simp [execOp, resolve, Deferred.ofValue, Act.eval, invoke, hf.call]
theorem zM {f t : Nat} {args : Array Operand} {tys : Array Nat} {ty : Nat} {pos : String} {af : Array Edge} {R : List SD → SD → Prop} {ds : List SD} {d : SD} {s' : St} (hf : FnOK P f R)
  (ha : args.toList.map (unG s) = ds) (hg : zAn (gCs s args.toList [])) (hR : R ds d) (hs : zC0 s t d = some s')
  (hn : zAi P F w0 ops Q rest s') : zAi P F w0 ops Q (⟨some t, .call ⟨.value (.func f), args, tys⟩, ty, pos, af, none⟩ :: rest) s := fun h e a w D => by
 subst ha
 obtain ⟨ht, rfl⟩ := zA0 hs
 refine zAf rfl fun K hK => ?_
 unfold Oper.wp
 rw [zEx hf]
 refine (hf.ok _ _ hR h e w _ D.gh D.sub (zA1 D (zAt hg).1 fun _ hx => hx)).mono fun en w' hq => ?_
 obtain ⟨v, h', rfl, g1, g2, g3, g4, g5⟩ := hq
 exact hK _ _ (hn _ _ _ _ ((D.called g1 g2 g3 g4).put ht (g5 e)))
theorem zV {f t : Nat} {args : Array Operand} {tys : Array Nat} {ty : Nat} {pos : String} {af : Array Edge} {j : Nat} {b g : Bool} {R : List SD → SD → Prop} {ds : List SD} {d : SD} {s' : St} (tj : Nat)
  (hj : (ops[j]?).bind (·.dst) = some tj) (hc : gV (lkp s.sl tj) b = some g) (hf : FnOK P f R)
  (ha : args.toList.map (unG s) = ds) (hg : g = true → zAn (gCs s args.toList [])) (hR : g = true → R ds d) (hs : zC0 s t (.gd g d) = some s')
  (hn : zAi P F w0 ops Q rest s') : zAi P F w0 ops Q (⟨some t, .call ⟨.value (.func f), args, tys⟩, ty, pos, af, some (j, b)⟩ :: rest) s := fun h e a w D => by
 subst ha
 obtain ⟨ht, rfl⟩ := zA0 hs
 have hv := D.slot tj
 refine zHk fun K hK => ?_
 rw [zCh (o := ⟨some t, .call ⟨.value (.func f), args, tys⟩, ty, pos, af, some (j, b)⟩) rfl hj hv hc]
 cases hgb : g
 ·rw [if_neg (by simp)]
  refine hK _ _ (hn _ _ _ _ (D.put ht ?_));simp [rep, hgb]
 ·rw [if_pos rfl]
  unfold Oper.wp;rw [zEx hf];refine (hf.ok _ _ (hR hgb) h e w _ D.gh D.sub (zA1 D (zAt (hg hgb)).1 fun _ hx => hx)).mono fun en w' hq => ?_;obtain ⟨v, h', rfl, g1, g2, g3, g4, g5⟩ := hq;refine hK _ _ (hn _ _ _ _ ((D.called g1 g2 g3 g4).put ht ?_));simp only [rep];exact ⟨fun _ => g5 e, fun h => by rw [hgb] at h; cases h⟩
def zD6 (w0 : zB0) (d : SD) : Ending → World → Prop := fun en w' => ∃ v h', en = .returned v ∧ Le w0.h h' ∧ Sub h' w' ∧ Below w0.w.heap.size w0.w w' ∧
  (∀ b, b < w0.w.heap.size → h' b = w0.h b) ∧ ∀ e', rep h' d e' v
def zAc (d d' : SD) : Prop := ∀ h e v, rep h d e v → ∀ e', rep h d' e' v
theorem zAc.pure {d : SD} (h : zCy d = true) : zAc d d := fun _ _ v x _ => zDc d v h x
theorem zAc.bool {a b : Bool} (h : a = b) : zAc (.bool a) (.bool b) := h ▸ zAc.pure rfl
theorem zAc.int {k : IntKind} {a b : Int} (h : a = b) : zAc (.int k a) (.int k b) := h ▸ zAc.pure rfl
theorem zAc.str {a b : ByteArray} (h : a = b) : zAc (.str a) (.str b) := h ▸ zAc.pure rfl
theorem zAc.of {d d' : SD} (h : zCy d = true) (g : SLe d d') : zAc d d' := fun h' _ v x e' => g h' e' v (zDc d v h x)
theorem zI {b0 : zB0} {fn : Func} {r : Nat} {d : SD} (hr : fn.results = #[.tmp r]) (hd : zAc (lkp s.sl r) d) : Run P [] b0.std (bodyPost P fn (zD6 b0 d)) (.code .ret :: k) s := fun h e a w D => by
 refine wpIn_ret (zCc ?_)
 exact bodyPost_ret (results_tmp hr _ _ _) D.defers ⟨_, h, rfl, D.le, D.sub, D.keeps.below, D.neww, hd h e _ (D.slot r)⟩
def zR4 (i : Nat) : List SD → List (Nat × SD)
 | [] => []
 | d :: r => (i, d) :: zR4 (i + 1) r
theorem zGl {h : Hp} {e : Nm} : ∀ {l : List SD} {vs : List Value} (i t : Nat), repT h l e vs → rep h (lkp (zR4 i l) t) e (if i ≤ t then vs.getD (t - i) undef else undef)
 | [], _, i, t, x => by simp [zR4, lkp, rep]
 | d :: r, _, i, t, x => by
  simp only [repT] at x;obtain ⟨v, vs', rfl, h1, h2⟩ := x;simp only [zR4, lkp];cases hb : Nat.beq i t
  ·have hne := zB2 hb
   have ih := zGl (i + 1) t h2;simp only [cond_false];by_cases hle : i ≤ t
   ·rw [if_pos (by omega)] at ih
    rw [if_pos hle, show t - i = (t - (i + 1)) + 1 by omega];simpa using ih
   ·rw [if_neg hle]
    rw [if_neg (by omega)] at ih;exact ih
  ·have := zz4 hb
   subst this;simpa using h1
theorem zAa {f : Nat} {fn : Func} {c : Code} {n : Nat} {R : List SD → SD → Prop} (hcall : ∀ args w, (callFunc f args).run P w = .ok (.enter f args) w) (hf : P.funcs[f]? = some fn) (hb : fn.body = some c) (hn : fn.ntmps = n)
  (hrun : ∀ ds d, R ds d → ds.length ≤ n ∧ ∀ w0 : zB0, Run P [] w0.std (bodyPost P fn (zD6 w0 d)) [.code c] ⟨n, 0, zR4 0 ds, []⟩) : FnOK P f R := by
 refine ⟨hcall, fun ds d hR h e w vs gh hs hr => ?_⟩
 obtain ⟨hlen, hrun⟩ := hrun ds d hR
 have hvl : vs.length = ds.length := by
  clear hR hrun hlen
  induction ds generalizing vs with
  | nil => simp only [repT] at hr; simp [hr]
  | cons d r ih => simp only [repT] at hr; obtain ⟨v, vs', rfl, _, h2⟩ := hr; simp [ih vs' h2]
 refine calls_of_wp hf hb ?_
 refine (wpIn_wide (n := 0)).1 ?_
 refine hrun ⟨w, h, [], gh⟩ h e _ w ⟨rfl, ?_, fun t => ?_, fun k o hk => by simp [lkO] at hk, fun k o b hk => by simp [lkO] at hk, fun k k' o o' b _ hk => by simp [lkO] at hk, hs, zEt.refl _ _, Le.refl h, fun _ _ => rfl, fun i b hb => by simp [Base.fix, zB0.std] at hb⟩
 ·simp; omega
 ·have := zGl (e := e) 0 t hr
  simp only [Nat.zero_le, if_true, Nat.sub_zero] at this
  have e1 : (vs.toArray ++ Array.replicate (fn.ntmps - vs.toArray.size) undef).getD t undef = vs.getD t undef := by
   simp only [Array.getD_eq_getD_getElem?, Array.getElem?_append, zz2];by_cases ht : t < vs.length
   ·simp [ht]
   ·simp only [List.size_toArray, ht, if_false, Array.getElem?_replicate]
    rw [List.getElem?_eq_none (by omega)];split <;> simp
  rw [e1];exact this
end
end Go.Sx
namespace Go.Sx
open Go.RowKit
def zBc : List SD → Nat → SD
 | [], _ => .any
 | d :: _, 0 => d
 | _ :: r, i + 1 => zBc r i
def zS5 (es : Nat) : Nat → List (Nat × SD) → Bool
 | _, [] => true
 | k, (i, d) :: r => Nat.beq i k && zCy d && (match cellsD d with
  | some c => Nat.beq c.length es
  | none => false) && zS5 es (k + 1) r
def zSs : List (Nat × SD) → List SD
 | [] => []
 | (_, d) :: r => d :: zSs r
def zMs {α : Type} : List α → Nat
 | [] => 0
 | _ :: r => zMs r + 1
def zP8 : List SD → Option (IntKind × List Int)
 | [.int k a] => some (k, [a])
 | .int k a :: r => match zP8 r with
  | some (j, l) => if k = j then some (k, a :: l) else none
  | none => none
 | _ => none
def zPj : List SD → Option (List ByteArray)
 | [.str a] => some [a]
 | .str a :: r => match zPj r with
  | some l => some (a :: l)
  | none => none
 | _ => none
def yEj (L : List SD) : Nat → SD :=
 match zP8 L with
 | some (k, l) => fun i => .int k (l.getD i 0)
 | none => match zPj L with
  | some l => fun i => .str (l.getD i ByteArray.empty)
  | none => zBc L
theorem zRw : ∀ {L : List SD} {k : IntKind} {l : List Int}, zP8 L = some (k, l) → ∀ i, i < L.length → zBc L i = .int k (l.getD i 0)
 | [], _, _, h => by cases h
 | [.int k a], _, _, h => fun i hi => by
  simp only [zP8, zz1, Prod.mk.injEq] at h;obtain ⟨rfl, rfl⟩ := h;have : i = 0 := by simp at hi; exact hi
  subst this; rfl
 | .int k a :: y :: r, _, _, h => fun i hi => by
  simp only [zP8] at h;split at h
  ·rename_i j l hr
   split at h
   ·rename_i hkj
    simp only [zz1, Prod.mk.injEq] at h;obtain ⟨rfl, rfl⟩ := h;subst hkj;cases i with
    | zero => rfl
    | succ i => simp only [zBc, List.getD_cons_succ]; exact zRw (L := y :: r) hr i (by simpa using hi)
   ·cases h
  ·cases h
theorem zQt : ∀ {L : List SD} {l : List ByteArray}, zPj L = some l → ∀ i, i < L.length → zBc L i = .str (l.getD i ByteArray.empty)
 | [], _, h => by cases h
 | [.str a], _, h => fun i hi => by
  simp only [zPj, zz1] at h;subst h;have : i = 0 := by simp at hi; exact hi
  subst this; rfl
 | .str a :: y :: r, _, h => fun i hi => by
  simp only [zPj] at h;split at h
  ·rename_i l hr
   simp only [zz1] at h;subst h;cases i with
   | zero => rfl
   | succ i => simp only [zBc, List.getD_cons_succ]; exact zQt (L := y :: r) hr i (by simpa using hi)
  ·cases h
theorem yB5 (L : List SD) (i : Nat) (hi : i < L.length) : yEj L i = zBc L i := by
 unfold yEj
 cases h1 : zP8 L with
 | some p => obtain ⟨k, l⟩ := p; exact (zRw h1 i hi).symm
 | none =>
  cases h2 : zPj L with
  | some l => exact (zQt h2 i hi).symm
  | none => rfl
def bsD (P : Program) (s : St) (T len : Nat) (parts : List (Nat × Operand)) : Option (List Prop × SD) :=
 bif Nat.beq (kdT P T) 1 then
  match elT P T with
  | some t => bif Nat.ble 1 (szT P t) && Nat.ble 1 len && Nat.ble (len * szT P t) 16777216 && Nat.beq (zMs parts) len && zS5 (szT P t) 0 (zHt s parts) && (bdZ P t) then
    some (gCs s (zK1 parts) [], .list (szT P t) len (yEj (zSs (zHt s parts)))) else none
  | none => none
 else none
where bdZ (P : Program) (t : Nat) : Bool := match (P.info? t).bind (·.zero) with
 | some _ => true
 | none => false
theorem zM4 {es : Nat} : ∀ (vs : List Value) (k : Nat) (cells : Array Value), (∀ v ∈ vs, v.cells.size = es) → (k + vs.length) * es ≤ cells.size →
  ∃ cells' : Array Value, Instr.fill (fun i => some (i * es, es)) cells ((vs.zipIdx k).map fun p => (p.2, p.1)) = some cells' ∧
   cells'.toList = cells.toList.take (k * es) ++ vs.flatMap (·.cells.toList) ++ cells.toList.drop ((k + vs.length) * es)
 | [], k, cells, _, _ => ⟨cells, rfl, by simp⟩
 | v :: r, k, cells, hv, hs => by
  simp only [List.length_cons] at hs;have h1 : (k + 1) * es ≤ (k + (r.length + 1)) * es := Nat.mul_le_mul_right _ (by omega);have h2 : (k + 1) * es = k * es + es := by rw [Nat.add_mul, Nat.one_mul]
  obtain ⟨c1, g1, g2⟩ := zWh (place := fun i => some (i * es, es)) (cells := cells) (i := k) (o := k * es) (z := es) (v := v) (rest := (r.zipIdx (k + 1)).map fun p => (p.2, p.1)) rfl (hv v (by simp)) (by omega);have hcl : v.cells.toList.length = es := by simpa using hv v (by simp)
  have hsz : c1.size = cells.size := by
   have := congrArg List.length g2;simp only [Array.length_toList, List.length_append, List.length_take, List.length_drop, hcl] at this;omega
  obtain ⟨c2, g3, g4⟩ := zM4 r (k + 1) c1 (fun u hu => hv u (by simp [hu])) (by rw [hsz, show k + 1 + r.length = k + (r.length + 1) by omega]; exact hs);refine ⟨c2, by simp only [List.zipIdx_cons, List.map_cons]; rw [g1, g3], ?_⟩;rw [g4, g2];have hle : k * es + es ≤ cells.size := by omega
  have L : (List.take (k * es) cells.toList ++ v.cells.toList).length = k * es + es := by
   rw [List.length_append, List.length_take, hcl, Array.length_toList];omega
  have e1 : (List.take (k * es) cells.toList ++ v.cells.toList ++ List.drop (k * es + es) cells.toList).take ((k + 1) * es) = List.take (k * es) cells.toList ++ v.cells.toList := by
   rw [h2, List.take_append_of_le_length (by omega), List.take_of_length_le (by omega)]
  have e2 : (List.take (k * es) cells.toList ++ v.cells.toList ++ List.drop (k * es + es) cells.toList).drop ((k + 1 + r.length) * es) = cells.toList.drop ((k + (r.length + 1)) * es) := by
   have h3 : (k + 1 + r.length) * es = k * es + es + r.length * es := by rw [Nat.add_mul, Nat.add_mul, Nat.one_mul]
   rw [List.drop_append, List.drop_eq_nil_of_le (by omega), List.nil_append, List.drop_drop, L, h3, show k + (r.length + 1) = k + 1 + r.length by omega, h3]
   congr 1
   omega
  rw [e1, e2];simp
theorem zLp {h : Hp} {e : Nm} {es : Nat} : ∀ (l : List (Nat × SD)) (vs : List Value) (k : Nat), zS5 es k l = true → repT h (zSs l) e vs →
  vs.length = zMs l ∧ (∀ v ∈ vs, v.cells.size = es) ∧ (∀ v ∈ vs, ∀ c ∈ v.cells, c.oneCell' = true) ∧ (l.map (·.1) = (List.range' k vs.length)) ∧ ∀ (i : Nat) (v : Value), vs[i]? = some v → ∀ e', rep h (zBc (zSs l) i) e' v
 | [], vs, k, _, hr => by
  simp only [zSs, repT] at hr;subst hr;simp [zMs]
 | (i, d) :: r, vs, k, ho, hr => by
  simp only [zSs, repT] at hr;obtain ⟨v, vs', rfl, h1, h2⟩ := hr;simp only [zS5, zz3] at ho;obtain ⟨⟨⟨o1, o2⟩, o3⟩, o4⟩ := ho;obtain ⟨g1, g2, g3, g4, g5⟩ := zLp r vs' (k + 1) o4 h2;cases hc : cellsD d with
  | none => rw [hc] at o3; cases o3
  | some c =>
   rw [hc] at o3;have hcl := zz4 o3;have hcv := zAx hc h1;have hlen := zAq hcv;refine ⟨by simp [zMs, g1], ?_, ?_, ?_, ?_⟩
   ·intro u hu
    rcases List.mem_cons.1 hu with rfl | hu
    ·simp at hlen; omega
    ·exact g2 u hu
   ·intro u hu
    rcases List.mem_cons.1 hu with rfl | hu
    ·intro c' hc'; exact zDw hcv c' (by simpa using hc')
    ·exact g3 u hu
   ·have := zz4 o1
    subst this;simp [List.range'_succ, g4]
   ·intro j u hu e'
    cases j with
    | zero =>
     simp only [List.getElem?_cons_zero, zz1] at hu;subst hu;exact zDc d _ o2 h1
    | succ j =>
     simp only [List.getElem?_cons_succ] at hu;exact g5 j u hu e'
section
variable {P : Program} {F : List Nat} {w0 : Base} {s : St}
def Hp.set (h : Hp) (b : Nat) (o : Obj) : Hp := fun j => if j = b then some o else h j
theorem Den.stay {h : Hp} {e : Nm} {a : Act} {w : World} (D : Den F w0 s h e a w) (o : Obj) : Den F w0 s (h.set w.heap.size o) e a (w.alloc o) ∧ Le h (h.set w.heap.size o) := by
 have hnone : h w.heap.size = none := by
  cases hx : h w.heap.size with
  | none => rfl
  | some o => have := (Array.getElem?_eq_some_iff.1 (D.sub _ _ hx)).1; omega
 have hl : Le h (h.set w.heap.size o) := fun b x hx => by
  simp only [Hp.set];by_cases hb : b = w.heap.size
  ·subst hb; rw [hnone] at hx; cases hx
  ·simp [hb, hx]
 have hbel := Below.alloc (Below.refl w.heap.size w) (Nat.le_refl _) o
 refine ⟨D.called hl (fun b x hx => ?_) hbel (fun b hb => ?_), hl⟩
 ·simp only [Hp.set] at hx
  by_cases hb : b = w.heap.size
  ·subst hb
   simp only [if_true, zz1] at hx;subst hx;exact heap_alloc_new w _
  ·simp only [hb, if_false] at hx
   exact D.sub.below hbel b x hx
 ·have : b ≠ w.heap.size := by omega
  simp [Hp.set, this]
theorem yDr {h : Hp} {e : Nm} {a : Act} {w : World} (D : Den F w0 s h e a w) {t T len : Nat} {parts : Array (Nat × Operand)} {ty : Nat} {pos : String} {af : Array Edge} {g : Option (Nat × Bool)} {p : List Prop} {d : SD}
  (hq : bsD P s T len parts.toList = some (p, d)) (hp : zAn p) (ht : t < s.n) (K : Act → World → Prop) (Q : Exit → Act → World → Prop) (hK : ∀ h' e' a' w', Den F w0 (s.put t d) h' e' a' w' → K a' w') :
  (⟨some t, .buildSlice T len parts, ty, pos, af, g⟩ : Oper).wp P a w K Q := by
 unfold bsD at hq
 cases hk : Nat.beq (kdT P T) 1
 ·rw [hk] at hq; cases hq
 ·rw [hk] at hq
  simp only [cond_true] at hq;obtain ⟨te, hu⟩ := zPb hk;split at hq
  ·rename_i te' hte
   have := zBr hu hte;subst this;cases hb : (Nat.ble 1 (szT P te') && Nat.ble 1 len && Nat.ble (len * szT P te') 16777216 && Nat.beq (zMs parts.toList) len && zS5 (szT P te') 0 (zHt s parts.toList) && (bsD.bdZ P te'))
   ·rw [hb] at hq; cases hq
   ·rw [hb] at hq
    simp only [cond_true, zz1, Prod.mk.injEq] at hq;obtain ⟨rfl, rfl⟩ := hq;simp only [zz3] at hb;obtain ⟨⟨⟨⟨⟨b1, b2⟩, b3⟩, b4⟩, b5⟩, b6⟩ := hb;have b1 := Nat.le_of_ble_eq_true b1;have b2 := Nat.le_of_ble_eq_true b2;have b3 := Nat.le_of_ble_eq_true b3;have b4 := zz4 b4;obtain ⟨m, hm⟩ : ∃ m, szT P te' = m + 1 := ⟨szT P te' - 1, by omega⟩;obtain ⟨i, hi, hs⟩ := zAl hm;cases hz : i.zero with
    | none => simp [bsD.bdZ, hi, hz] at b6
    | some z =>
     have hes : szT P te' = i.size := by omega
     rw [hes] at b1 b3 b5 hK;have hg := (zAt hp).1
     have key : ∀ (l : List (Nat × Operand)), (∀ x ∈ zK1 l, ∀ c d, ev s x = .gd c d → c = true) → (l.map (·.1) = (zHt s l).map (·.1)) ∧ repT h (zSs (zHt s l)) e (l.map fun q => a.eval q.2) ∧ zMs (zHt s l) = zMs l := by
      intro l
      induction l with
      | nil => intro _; simp [zHt, zSs, repT, zMs]
      | cons q r ih =>
       obtain ⟨i, x⟩ := q;intro hl;obtain ⟨g1, g2, g3⟩ := ih fun y hy => hl y (by simp [zK1, hy]);refine ⟨by simp only [List.map_cons, zHt, g1], ?_, by simp [zHt, zMs, g3]⟩;simp only [zHt, List.map_cons, repT, zSs];exact ⟨_, _, rfl, zD4 (D.ev x) (hl x (by simp [zK1])), g2⟩
     obtain ⟨k1, k2, k3⟩ := key parts.toList hg;obtain ⟨o1, o2, o3, o4, o5⟩ := zLp (zHt s parts.toList) _ 0 b5 k2;have hlen : (parts.toList.map fun q => a.eval q.2).length = len := by rw [o1, k3, b4]
     generalize hvs : (parts.toList.map fun q => a.eval q.2) = vs at *
     have hzip : (parts.map fun (i, x) => (i, a.eval x)).toList = (vs.zipIdx 0).map fun p => (p.2, p.1) := by
      have h1 : (parts.map fun (i, x) => (i, a.eval x)).toList = parts.toList.map fun q => (q.1, a.eval q.2) := by simp
      rw [h1];apply List.ext_getElem?;intro j;have h2 := congrArg (·[j]?) (k1.trans o4);have h3 := congrArg (·[j]?) hvs;simp only [List.getElem?_map, List.getElem?_zipIdx, Nat.zero_add] at h2 h3 ⊢;cases hpj : parts.toList[j]? with
      | none =>
       rw [hpj] at h3;simp only [Option.map_none] at h3;rw [← h3];rfl
      | some q =>
       rw [hpj] at h2 h3;simp only [Option.map_some] at h2 h3;rw [← h3]
       have hj : j < vs.length := by
        rcases Nat.lt_or_ge j vs.length with hj | hj
        ·exact hj
        ·rw [List.getElem?_eq_none hj] at h3
         cases h3
       rw [List.getElem?_range' hj] at h2;simp only [zz1, Nat.zero_add, Nat.one_mul] at h2;simp [h2]
     obtain ⟨cells', f1, f2⟩ := zM4 (es := i.size) vs 0 ((Array.range (len * i.size)).map (z.cells[· % z.cells.size]!)) o2 (by simp [hlen]);rw [← hzip] at f1
     have hpos : ¬ len * i.size = 0 := by
      have := Nat.mul_le_mul b2 b1;omega
     have hrun := run_buildSlice (P := P) w T te' len (parts.map fun (i, x) => (i, a.eval x)) cells' i z hu hi hz (by omega) hpos f1;obtain ⟨D1, hl⟩ := D.stay (.cells cells' te')
     have hrep : rep (h.set w.heap.size (.cells cells' te')) (.list i.size len (yEj (zSs (zHt s parts.toList)))) e (.slice (some ⟨w.heap.size, 0, none⟩) len len) := by
      simp only [rep]
      have hbd : len ≤ 16777216 := by
       have := Nat.mul_le_mul_left len b1;omega
      refine ⟨_, _, rfl, Nat.le_refl _, ⟨by simp [maxLen]; omega, by simp [maxL]; omega⟩, fun _ => ⟨⟨w.heap.size, 0, none⟩, cells', te', (0, 0), rfl, rfl, by simp [Hp.set], fun j hj => ?_⟩⟩;have hj' : j < vs.length := by omega
      have hvj : vs[j]? = some vs[j] := List.getElem?_eq_getElem hj'
      have hlen2 : ∀ (l : List (Nat × Operand)), (zSs (zHt s l)).length = zMs l := fun l => by
       induction l with
       | nil => rfl
       | cons p r ih => obtain ⟨i, x⟩ := p; simp [zHt, zSs, zMs, ih]
      refine ⟨vs[j], fun e' => by rw [yB5 _ j (by rw [hlen2]; omega)]; exact zBa hl _ e' _ (o5 j _ hvj e'), ?_, o2 _ (List.getElem_mem hj'), o3 _ (List.getElem_mem hj')⟩;rw [f2];simp only [Nat.zero_mul, List.take_zero, List.nil_append, Nat.zero_add, hlen];rw [List.drop_eq_nil_of_le (by simp), List.append_nil]
      have : ∀ (vs : List Value) (j : Nat) (hj : j < vs.length), (∀ v ∈ vs, v.cells.size = i.size) → cut (vs.flatMap (·.cells.toList)) (j * i.size) i.size = vs[j].cells.toList := by
       intro vs
       induction vs with
       | nil => intro j hj; simp at hj
       | cons v r ih =>
        intro j hj hv;have hvl : v.cells.toList.length = i.size := by simpa using hv v (by simp)
        cases j with
        | zero => simp [cut, ← hvl]
        | succ j =>
         have := ih j (by simpa using hj) fun u hu => hv u (by simp [hu]);simp only [List.getElem_cons_succ];rw [← this];simp only [cut, List.flatMap_cons];rw [List.drop_append, List.drop_eq_nil_of_le (by rw [hvl, Nat.add_mul]; omega), List.nil_append]
         congr 2
         rw [hvl, Nat.add_mul]; omega
      rw [this vs j hj' o2]
     unfold Oper.wp
     have hex : (execOp a.eval ⟨some t, .buildSlice T len parts, ty, pos, af, g⟩).run P w = .ok (.value (.slice (some ⟨w.heap.size, 0, none⟩) len len)) (w.alloc (.cells cells' te')) := by
      simp only [execOp, Sem.run_bind, hrun, Result.andThen_ok];rfl
     rw [hex];exact hK _ e _ _ (D1.put ht hrep)
  ·cases hq
end
end Go.Sx
namespace Go.Sx
open Go.RowKit
def yCk (o : Oper) : Option Nat := o.dst
def zFo : List Oper → Nat → Option Nat
 | [], _ => none
 | o :: _, 0 => yCk o
 | _ :: r, j + 1 => zFo r j
theorem zF4 : ∀ (l : List Oper) (j : Nat), (l.toArray[j]?).bind (·.dst) = zFo l j
 | [], j => by simp [zFo]
 | o :: r, 0 => by simp [zFo, yCk]
 | o :: r, j + 1 => by
  have := zF4 r j;simpa [zFo] using this
def zUc (P : Program) (s : St) (dst : Option Nat) (op : Op) : Option (List Prop × St) :=
 match op with
 | .box _ x => match dst with
  | some t => match zLd s t (ev s x) with
   | some s' => some ([], s')
   | none => none
  | none => none
 | .alloc T => match dst with
  | some t => match zcT P T with
   | some z => match zLd s t z with
    | some s' => some ([], s')
    | none => none
   | none => none
  | none => none
 | .store T x y => match dst with
  | none => match zNx P s T (ev s x) (ev s y) with
   | some s' => some ([], s')
   | none => none
  | some _ => none
 | .buildSlice T len parts => match dst with
  | some t => match bsD P s T len parts.toList with
   | some (p, d) => bif Nat.blt t s.n then some (p, s.put t d) else none
   | none => none
  | none => none
 | op => match dst with
  | some t => zOa P s t op
  | none => none
def stepG (P : Program) (l : List Oper) (s : St) (dst : Option Nat) (op : Op) (j : Nat) (b : Bool) : Option (List Prop × St) :=
 match dst, zFo l j with
 | some t, some tj => match zTf P s t tj b op with
  | some (p, s') => some ([p], s')
  | none => none
 | _, _ => none
def zK6 (P : Program) (l : List Oper) (s : St) : Oper → Option (List Prop × St)
 | ⟨dst, op, _, _, _, none⟩ => zUc P s dst op
 | ⟨dst, op, _, _, _, some (j, b)⟩ => stepG P l s dst op j b
def zPn (P : Program) (l : List Oper) : List Oper → St → List Prop × St × List Oper
 | [], s => ([], s, [])
 | o :: r, s => match zK6 P l s o with
  | some (p, s') => match zPn P l r s' with
   | (q, s'', r') => (p ++ q, s'', r')
  | none => ([], s, o :: r)
section
variable {P : Program} {F : List Nat} {w0 : Base} {Q : Exit → Act → World → Prop} {s : St}
theorem zHh {p q : List Prop} : zAn (p ++ q) ↔ zAn p ∧ zAn q := by
 induction p with
 | nil => simp [zAn]
 | cons x r ih => simp [zAn, ih, and_assoc]
theorem zXq {ops : Array Oper} {rest : List Oper} {dst : Option Nat} {op : Op} {ty : Nat} {pos : String} {af : Array Edge} {p : List Prop} {s' : St} (hq : zUc P s dst op = some (p, s')) (hp : zAn p)
  (hn : zAi P F w0 ops Q rest s') : zAi P F w0 ops Q (⟨dst, op, ty, pos, af, none⟩ :: rest) s := by
 unfold zUc at hq
 split at hq
 ·split at hq
  ·split at hq
   ·rename_i hb
    simp only [zz1, Prod.mk.injEq] at hq;obtain ⟨rfl, rfl⟩ := hq;exact yA1 hb hn
   ·cases hq
  ·cases hq
 ·split at hq
  ·split at hq
   ·rename_i hz
    split at hq
    ·rename_i hb
     simp only [zz1, Prod.mk.injEq] at hq;obtain ⟨rfl, rfl⟩ := hq;exact zUb hz hb hn
    ·cases hq
   ·cases hq
  ·cases hq
 ·split at hq
  ·split at hq
   ·rename_i hb
    simp only [zz1, Prod.mk.injEq] at hq;obtain ⟨rfl, rfl⟩ := hq;exact zT9 hb hn
   ·cases hq
  ·cases hq
 ·split at hq
  ·split at hq
   ·rename_i t _ p' d hb
    cases hbl : Nat.blt t s.n
    ·rw [hbl] at hq; cases hq
    ·rw [hbl] at hq
     simp only [cond_true, zz1, Prod.mk.injEq] at hq;obtain ⟨rfl, rfl⟩ := hq;exact fun h e a w D => zAf rfl fun K hK => yDr D hb hp (zAm hbl) K _ fun h' e' a' w' D' => hK _ _ (hn _ _ _ _ D')
   ·cases hq
  ·cases hq
 ·split at hq
  ·exact yF6 hq hp hn
  ·cases hq
theorem zQw {l rest : List Oper} {o : Oper} {p : List Prop} {s' : St} (hq : zK6 P l s o = some (p, s')) (hp : zAn p) (hn : zAi P F w0 l.toArray Q rest s') : zAi P F w0 l.toArray Q (o :: rest) s := by
 obtain ⟨dst, op, ty, pos, af, g⟩ := o
 cases g with
 | none => exact zXq hq hp hn
 | some g =>
  obtain ⟨j, b⟩ := g;simp only [zK6] at hq;unfold stepG at hq;split at hq
  ·rename_i t tj hj
   split at hq
   ·rename_i p' s'' hg
    simp only [zz1, Prod.mk.injEq] at hq;obtain ⟨rfl, rfl⟩ := hq;exact yF7 tj ((zF4 l j).trans hj) hg hp.1 hn
   ·cases hq
  ·cases hq
end
end Go.Sx
namespace Go.Sx
open Go.RowKit
def zTe (l : List (Nat × SD)) : List Nat → List (Nat × SD)
 | [] => []
 | i :: r => (i, lkp l i) :: zTe l r
def yDs {α : Type} (l : List (Nat × α)) : List (Nat × α) → List (Nat × α)
 | [] => l
 | (i, x) :: r => upd (yDs l r) i x
theorem zHo {l : List (Nat × SD)} : ∀ (ns : List Nat), zQs l (zTe l ns)
 | [] => trivial
 | i :: r => ⟨SLe.refl _, zHo r⟩
theorem zJ3 {l a b : List (Nat × SD)} (ha : zQs l a) (hb : zQs l b) : zQs l (a ++ b) := by
 induction a with
 | nil => exact hb
 | cons p r ih => obtain ⟨i, d⟩ := p; exact ⟨ha.1, ih ha.2⟩
theorem zMp {l : List (Nat × OB)} : ∀ {u : List (Nat × OB)}, zC2 l u → ∀ {k : Nat} {o : OB}, lkO (yDs l u) k = some o → ∃ o0, lkO l k = some o0 ∧ OLe o0 o
 | [], _, k, o, h => ⟨o, h, OLe.refl o⟩
 | (i, d) :: r, hu, k, o, h => by
  simp only [yDs, zA2] at h;by_cases hk : k = i
  ·subst hk
   simp only [if_true, zz1] at h;subst h;exact hu.1
  ·simp only [hk, if_false] at h
   exact zMp hu.2 h
theorem zUu {P : Program} {F : List Nat} {w0 : Base} {fin : Exit → Act → World → Prop} {k : List It} {σ : Type} {body : Code} (I : σ → Prop) (μ : σ → Nat) (S : σ → St) (x0 : σ) (h0 : I x0)
  (hb : ∀ x, I x → Run P F w0 fin (.code body :: .lp (LI F w0 S I μ x) :: k) (S x)) : Run P F w0 fin (.code (.loop body) :: k) (S x0) := fun h e a w D0 => by
 show (Code.loop body).wpIn (fe w0.rd) 0 P (post P w0.rd fin k) a w
 refine wpIn_loop_ghost (fun n a w => ∃ x, I x ∧ μ x = n ∧ ∃ h e, Den F w0 (S x) h e a w) (μ x0) ⟨x0, h0, rfl, h, e, D0⟩ fun n a w hJ => ?_
 obtain ⟨x, hx, rfl, h, e, D⟩ := hJ
 refine wpIn_mono (hb x hx h e a w D) fun e a w hq => ?_
 cases e with
 | normal =>
  obtain ⟨x', h1, h2, h', e', D'⟩ := hq;exact ⟨μ x', h2, x', h1, rfl, h', e', D'⟩
 | _ => exact hq
section
variable {P : Program} {F : List Nat} {w0 : Base} {fin : Exit → Act → World → Prop} {k : List It} {s : St}
theorem Den.weak' {h : Hp} {e : Nm} {a : Act} {w : World} (D : Den F w0 s h e a w) {s' : St} (hn : s.n = s'.n) (h1 : zQs s.sl s'.sl) (h2 : ∀ k o, lkO s'.ow k = some o → ∃ o0, lkO s.ow k = some o0 ∧ OLe o0 o) : Den F w0 s' h e a w := by
 refine ⟨D.defers, D.size.trans hn, fun t => zPi h1 t h e _ (D.slot t), fun j o hj => ?_, fun j o b hj hb => ?_, fun j j' o o' b hne hj hj' hb => ?_, D.sub, D.keeps, D.le, D.neww, D.fix⟩
 ·obtain ⟨o0, g1, g2⟩ := h2 j o hj
  exact g2.ok (D.own j o0 g1)
 ·obtain ⟨o0, g1, g2⟩ := h2 j o hj
  rw [g2.blk] at hb;exact D.ownb j o0 b g1 hb
 ·obtain ⟨o0, g1, g2⟩ := h2 j o hj
  obtain ⟨o1, g3, g4⟩ := h2 j' o' hj';rw [g2.blk] at hb;rw [g4.blk];exact D.apart j j' o0 o1 b hne g1 g3 hb
def zWc {σ : Type} (s : St) (ns : List Nat) (U : σ → List (Nat × SD)) (UO : σ → List (Nat × OB)) (x : σ) : St := ⟨s.n, s.nx, U x ++ zTe s.sl ns, yDs s.ow (UO x)⟩
theorem zN {σ : Type} {body : Code} {S : σ → St} (ns : List Nat) (U : σ → List (Nat × SD)) (UO : σ → List (Nat × OB)) (I : σ → Prop) (μ : σ → Nat) (x0 : σ) (hS : ∀ x, zWc s ns U UO x = S x) (h0 : I x0)
  (hs : zQs s.sl (U x0)) (ho : zC2 s.ow (UO x0)) (hb : ∀ x, I x → Run P F w0 fin (.code body :: .lp (LI F w0 S I μ x) :: k) (S x)) : Run P F w0 fin (.code (.loop body) :: k) s := fun h e a w D => by
 have D0 : Den F w0 (S x0) h e a w := by
  rw [← hS x0];exact D.weak' rfl (zJ3 hs (zHo ns)) fun k o hk => zMp ho hk
 exact zUu I μ S x0 h0 hb h e a w D0
end
end Go.Sx
