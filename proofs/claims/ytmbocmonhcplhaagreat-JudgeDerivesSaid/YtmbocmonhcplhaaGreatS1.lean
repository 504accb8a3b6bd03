/- Part of the proof that the laws of the judge return true for every input: SxA, SxB, SxC, SxD, SxE, SxEb, SxF, SxG, SxH, SxHb, SxI, SxJ, SxK. -/
import Derived.Calls
import Derived.Orders
import Derived.Below
import Derived.Maps.AppendAt
import Derived.Laws.Cells
import Derived.Laws.Rows
import Derived.Deep.MidRow
import Derived.Attr
import Derived.KernelRfl
import Derived.Laws.StructEq
import Derived.Great.BuildSlice
import Derived.Laws.Tables
import Derived.Laws.Concat
import Derived.Laws.Pointers
import Derived.Laws.Cover3
import Derived.Tactics
import Derived.OwnWalk
import Derived.TacticsIn
import Derived.OrdersIn
import Derived.RangeFuncCalls
import Derived.LoopNIn
import Derived.Deep.LoopGhost
set_option linter.all false
namespace Go.Sx
abbrev Hp := Nat → Option Obj
structure Nm where
 bs : Nat → Nat
 hd : Nat → Value
inductive MK where
 | i (n : Int)
 | s (b : ByteArray)
def MK.val : Option IntKind → MK → Value
 | some k, .i n => .int k n
 | none, .s b => .string b
 | _, _ => .nilIface
def MK.ok : Option IntKind → MK → Bool
 | some _, .i _ => true
 | none, .s _ => true
 | _, _ => false
structure EsOk (kk : Option IntKind) (dom : MK → Bool) (es : Array MapEntry) (clock : Nat) : Prop where
 born : ∀ x ∈ es, x.born < clock
 nodup : (es.toList.map (·.born)).Nodup
 key : ∀ x ∈ es, ∃ q : MK, q.ok kk = true ∧ x.key = q.val kk ∧ dom q = true
 all : ∀ q : MK, dom q = true → q.ok kk = true ∧ ∃ x ∈ es, x.key = q.val kk
 apart : es.toList.Pairwise fun x y => x.key ≠ y.key
inductive SD where
 | any
 | int (k : IntKind) (n : Int)
 | bool (b : Bool)
 | str (s : ByteArray)
 | agg (l : List SD)
 | list (es n : Nat) (f : Nat → SD)
 | nils
 | fp (l : List SD)
 | nilp
 | loc (k off : Nat)
 | acc (k : Nat)
 | accH (k n : Nat)
 | aptr (k es i off : Nat)
 | accp (k es lo : Nat)
 | vsl (k off n cap : Nat)
 | bfn (fn : Fn) (l : List SD)
 | gd (c : Bool) (d : SD)
 | tup (l : List SD)
 | fn (f : Nat) (caps : List SD)
 | nilfn
 | iface (t : Nat) (d : SD)
 | nilif
 | omap (k : Nat)
 | nilmap
 | fmap (kk : Option IntKind) (n : Nat) (dom : MK → Bool) (f : MK → SD)
 | yld (l : Nat)
 | val (v : Value)
 | lng (n : Nat) (f : Nat → Int)
instance : Inhabited SD := ⟨.any⟩
def maxN : Nat := 68719476736
def maxL : Nat := 68719476736
theorem maxNL {n : Nat} (h : n ≤ maxN) : n ≤ maxL := Nat.le_trans h (by simp [maxN, maxL])
def cut (cs : List Value) (o n : Nat) : List Value := (cs.drop o).take n
mutual
def rep (h : Hp) : SD → Nm → Value → Prop
 | .any, _, _ => True
 | .int k n, _, v => v = .int k n
 | .bool b, _, v => v = .bool b
 | .str s, _, v => v = .string s
 | .agg l, e, v => ∃ vs : List Value, v = .agg vs.toArray ∧ repC h l e vs
 | .list es n f, _, v => ∃ a cap, v = .slice a n cap ∧ n ≤ cap ∧ (cap ≤ maxLen ∧ n ≤ maxL) ∧ (0 < n → ∃ ad cs T fr, a = some ad ∧ ad.spot = none ∧
   h ad.block = some (.cells cs T fr) ∧ ∀ i, i < n → ∃ u, (∀ e, rep h (f i) e u) ∧ u.cells.toList = cut cs.toList (ad.off + i * es) es ∧ u.cells.size = es ∧ ∀ c ∈ u.cells, c.oneCell' = true)
 | .nils, _, v => v = .slice none 0 0
 | .fp l, _, v => ∃ ad cs T fr, v = .pointer (some ad) ∧ ad.spot = none ∧ h ad.block = some (.cells cs T fr) ∧ ∀ e, repC h l e (cut cs.toList ad.off l.length)
 | .nilp, _, v => v = .pointer none
 | .loc k off, e, v => v = .pointer (some ⟨e.bs k, off, none⟩)
 | .acc k, e, v => v = e.hd k ∧ ∃ a n c, v = .slice a n c
 | .accH k n, e, v => v = e.hd k ∧ ∃ a c, v = .slice a n c
 | .aptr k es i off, e, v => ∃ b n c, e.hd k = .slice (some ⟨b, 0, none⟩) n c ∧ i < n ∧ v = .pointer (some ⟨b, i * es + off, none⟩)
 | .accp k es lo, e, v => ∃ b n c, e.hd k = .slice (some ⟨b, 0, none⟩) n c ∧ lo ≤ n ∧ n ≤ c ∧ v = .slice (some (if c = lo then ⟨b, 0, none⟩ else ⟨b, lo * es, none⟩)) (n - lo) (c - lo)
 | .vsl k off n cap, e, v => v = .slice (some ⟨e.bs k, off, none⟩) n cap ∧ n ≤ cap ∧ cap ≤ maxLen ∧ n ≤ maxN
 | .bfn fn l, e, v => ∃ vs : List Value, v = .func fn vs.toArray #[] ∧ repT h l e vs
 | .gd c d, e, v => (c = true → rep h d e v) ∧ (c = false → v = undef)
 | .tup l, e, v => ∃ vs : List Value, v = .tuple vs.toArray ∧ repT h l e vs
 | .fn f caps, e, v => ∃ vs : List Value, v = .func (.func f) #[] vs.toArray ∧ repT h caps e vs
 | .nilfn, _, v => v = .nilFunc
 | .iface t d, e, v => ∃ u, v = .iface t u ∧ rep h d e u
 | .nilif, _, v => v = .nilIface
 | .omap k, e, v => v = .map (some (e.bs k))
 | .nilmap, _, v => v = .map none
 | .yld l, _, v => v = .func (.yield l) #[] #[]
 | .val x, _, v => v = x
 | .lng n f, _, v => ∃ a cap, v = .slice a n cap ∧ n ≤ cap ∧ (cap ≤ maxLen ∧ n ≤ 17592186044416) ∧ (0 < n → ∃ ad cs T fr, a = some ad ∧ ad.spot = none ∧ h ad.block = some (.cells cs T fr) ∧ ∀ i, i < n → cs.toList[ad.off + i]? = some (.int .i64 (f i)))
 | .fmap kk n dom f, _, v => ∃ b es clock, v = .map (some b) ∧ h b = some (.map es clock) ∧ es.size = n ∧ n ≤ maxN ∧ EsOk kk dom es clock ∧ ∀ x, x ∈ es → ∀ q : MK, x.key = q.val kk → q.ok kk = true → ∀ e, rep h (f q) e x.val
def repC (h : Hp) : List SD → Nm → List Value → Prop
 | [], _, vs => vs = []
 | d :: r, e, vs => ∃ v vs', vs = v :: vs' ∧ v.oneCell' = true ∧ rep h d e v ∧ repC h r e vs'
def repT (h : Hp) : List SD → Nm → List Value → Prop
 | [], _, vs => vs = []
 | d :: r, e, vs => ∃ v vs', vs = v :: vs' ∧ rep h d e v ∧ repT h r e vs'
end
theorem repC_length {h : Hp} {e : Nm} : ∀ {l : List SD} {vs : List Value}, repC h l e vs → vs.length = l.length
 | [], _, hr => by simp [repC] at hr; simp [hr]
 | d :: r, _, hr => by
  obtain ⟨v, vs', rfl, _, _, h2⟩ := (by simpa only [repC] using hr : ∃ v vs', _ = v :: vs' ∧ v.oneCell' = true ∧ rep h d e v ∧ repC h r e vs')
  simp [repC_length h2]
def Sub (h : Hp) (w : World) : Prop := ∀ b o, h b = some o → w.heap[b]? = some o
def Le (h h' : Hp) : Prop := ∀ b o, h b = some o → h' b = some o
theorem Le.refl (h : Hp) : Le h h := fun _ _ x => x
theorem Le.trans {a b c : Hp} (x : Le a b) (y : Le b c) : Le a c := fun _ _ z => y _ _ (x _ _ z)
mutual
theorem rep_mono {h h' : Hp} (hl : Le h h') : ∀ (d : SD) (e : Nm) (v : Value), rep h d e v → rep h' d e v
 | .any, _, _, _ => by simp [rep]
 | .int .., _, _, x => by simpa [rep] using x
 | .bool .., _, _, x => by simpa [rep] using x
 | .str .., _, _, x => by simpa [rep] using x
 | .agg l, e, v, x => by
  simp only [rep] at x ⊢
  obtain ⟨vs, h1, h2⟩ := x
  exact ⟨vs, h1, repC_mono hl l e vs h2⟩
 | .lng n f, e, v, x => by
  simp only [rep] at x ⊢
  obtain ⟨a, cap, h1, h2, h3, h4⟩ := x
  exact ⟨a, cap, h1, h2, h3, fun hn => let ⟨ad, cs, T, fr, g1, g2, g3, g4⟩ := h4 hn; ⟨ad, cs, T, fr, g1, g2, hl _ _ g3, g4⟩⟩
 | .list es n f, e, v, x => by
  simp only [rep] at x ⊢
  obtain ⟨a, cap, h1, h2, h3, h4⟩ := x
  refine ⟨a, cap, h1, h2, h3, fun hn => ?_⟩
  obtain ⟨ad, cs, T, fr, g1, g2, g3, g4⟩ := h4 hn
  refine ⟨ad, cs, T, fr, g1, g2, hl _ _ g3, fun i hi => ?_⟩
  obtain ⟨u, u1, u2⟩ := g4 i hi
  exact ⟨u, fun e => rep_mono hl (f i) e u (u1 e), u2⟩
 | .nils, _, _, x => by simpa [rep] using x
 | .fp l, _, _, x => by
  simp only [rep] at x ⊢
  obtain ⟨ad, cs, T, fr, g1, g2, g3, g4⟩ := x
  exact ⟨ad, cs, T, fr, g1, g2, hl _ _ g3, fun e => repC_mono hl l e _ (g4 e)⟩
 | .nilp, _, _, x => by simpa [rep] using x
 | .loc .., _, _, x => by simpa [rep] using x
 | .acc .., _, _, x => by simpa [rep] using x
 | .accH .., _, _, x => by simpa [rep] using x
 | .aptr .., _, _, x => by simpa [rep] using x
 | .accp .., _, _, x => by simpa [rep] using x
 | .vsl .., _, _, x => by simpa [rep] using x
 | .bfn fn l, e, v, x => by
  simp only [rep] at x ⊢
  obtain ⟨vs, h1, h2⟩ := x
  exact ⟨vs, h1, repT_mono hl l e vs h2⟩
 | .gd c d, e, v, x => by
  simp only [rep] at x ⊢
  exact ⟨fun hc => rep_mono hl d e v (x.1 hc), x.2⟩
 | .tup l, e, v, x => by
  simp only [rep] at x ⊢
  obtain ⟨vs, h1, h2⟩ := x
  exact ⟨vs, h1, repT_mono hl l e vs h2⟩
 | .fn f l, e, v, x => by
  simp only [rep] at x ⊢
  obtain ⟨vs, h1, h2⟩ := x
  exact ⟨vs, h1, repT_mono hl l e vs h2⟩
 | .nilfn, _, _, x => by simpa [rep] using x
 | .iface t d, e, v, x => by
  simp only [rep] at x ⊢
  obtain ⟨u, h1, h2⟩ := x
  exact ⟨u, h1, rep_mono hl d e u h2⟩
 | .nilif, _, _, x => by simpa [rep] using x
 | .omap .., _, _, x => by simpa [rep] using x
 | .nilmap, _, _, x => by simpa [rep] using x
 | .yld .., _, _, x => by simpa [rep] using x
 | .val .., _, _, x => by simpa [rep] using x
 | .fmap kk n dom f, e, v, x => by
  simp only [rep] at x ⊢
  obtain ⟨b, es, clock, h1, h2, h3, h4, h5, h6⟩ := x
  exact ⟨b, es, clock, h1, hl _ _ h2, h3, h4, h5, fun x hx q hq hk e => rep_mono hl (f q) e _ (h6 x hx q hq hk e)⟩
theorem repC_mono {h h' : Hp} (hl : Le h h') : ∀ (l : List SD) (e : Nm) (vs : List Value), repC h l e vs → repC h' l e vs
 | [], _, _, x => by simpa [repC] using x
 | d :: r, e, vs, x => by
  simp only [repC] at x ⊢
  obtain ⟨v, vs', h1, h2, h3, h4⟩ := x
  exact ⟨v, vs', h1, h2, rep_mono hl d e v h3, repC_mono hl r e vs' h4⟩
theorem repT_mono {h h' : Hp} (hl : Le h h') : ∀ (l : List SD) (e : Nm) (vs : List Value), repT h l e vs → repT h' l e vs
 | [], _, _, x => by simpa [repT] using x
 | d :: r, e, vs, x => by
  simp only [repT] at x ⊢
  obtain ⟨v, vs', h1, h2, h3⟩ := x
  exact ⟨v, vs', h1, rep_mono hl d e v h2, repT_mono hl r e vs' h3⟩
end
mutual
def men (k : Nat) : SD → Bool
 | .agg l => menL k l
 | .loc j _ => Nat.beq j k
 | .acc j => Nat.beq j k
 | .accH j _ => Nat.beq j k
 | .aptr j _ _ _ => Nat.beq j k
 | .accp j _ _ => Nat.beq j k
 | .vsl j _ _ _ => Nat.beq j k
 | .bfn _ l => menL k l
 | .gd _ d => men k d
 | .tup l => menL k l
 | .fn _ l => menL k l
 | .iface _ d => men k d
 | .omap j => Nat.beq j k
 | _ => false
def menL (k : Nat) : List SD → Bool
 | [] => false
 | d :: r => men k d || menL k r
end
def Nm.but (e e' : Nm) (k : Nat) : Prop := ∀ j, j ≠ k → e'.bs j = e.bs j ∧ e'.hd j = e.hd j
theorem bne_of {j k : Nat} (h : Nat.beq j k = false) : j ≠ k := Nat.ne_of_beq_eq_false h
mutual
theorem rep_but {h : Hp} {e e' : Nm} {k : Nat} (he : e.but e' k) : ∀ (d : SD) (v : Value), men k d = false → rep h d e v → rep h d e' v
 | .any, _, _, _ => by simp [rep]
 | .int .., _, _, x => by simpa [rep] using x
 | .bool .., _, _, x => by simpa [rep] using x
 | .str .., _, _, x => by simpa [rep] using x
 | .agg l, v, hm, x => by
  simp only [rep] at x ⊢
  obtain ⟨vs, h1, h2⟩ := x
  exact ⟨vs, h1, repC_but he l vs (by simpa [men] using hm) h2⟩
 | .list .., _, _, x => by simpa [rep] using x
 | .lng .., _, _, x => by simpa [rep] using x
 | .nils, _, _, x => by simpa [rep] using x
 | .fp .., _, _, x => by simpa [rep] using x
 | .nilp, _, _, x => by simpa [rep] using x
 | .loc j o, v, hm, x => by
  have := (he j (bne_of (by simpa [men] using hm))).1
  simpa [rep, this] using x
 | .acc j, v, hm, x => by
  have := (he j (bne_of (by simpa [men] using hm))).2
  simpa [rep, this] using x
 | .accH j _, v, hm, x => by
  have := (he j (bne_of (by simpa [men] using hm))).2
  simpa [rep, this] using x
 | .aptr j _ _ _, v, hm, x => by
  have := (he j (bne_of (by simpa [men] using hm))).2
  simpa [rep, this] using x
 | .accp j _ _, v, hm, x => by
  have := (he j (bne_of (by simpa [men] using hm))).2
  simpa [rep, this] using x
 | .vsl j _ _ _, v, hm, x => by
  have := (he j (bne_of (by simpa [men] using hm))).1
  simpa [rep, this] using x
 | .bfn f l, v, hm, x => by
  simp only [rep] at x ⊢
  obtain ⟨vs, h1, h2⟩ := x
  exact ⟨vs, h1, repT_but he l vs (by simpa [men] using hm) h2⟩
 | .gd c d, v, hm, x => by
  simp only [rep] at x ⊢
  exact ⟨fun hc => rep_but he d v (by simpa [men] using hm) (x.1 hc), x.2⟩
 | .tup l, v, hm, x => by
  simp only [rep] at x ⊢
  obtain ⟨vs, h1, h2⟩ := x
  exact ⟨vs, h1, repT_but he l vs (by simpa [men] using hm) h2⟩
 | .fn f l, v, hm, x => by
  simp only [rep] at x ⊢
  obtain ⟨vs, h1, h2⟩ := x
  exact ⟨vs, h1, repT_but he l vs (by simpa [men] using hm) h2⟩
 | .nilfn, _, _, x => by simpa [rep] using x
 | .iface t d, v, hm, x => by
  simp only [rep] at x ⊢
  obtain ⟨u, h1, h2⟩ := x
  exact ⟨u, h1, rep_but he d u (by simpa [men] using hm) h2⟩
 | .nilif, _, _, x => by simpa [rep] using x
 | .omap j, v, hm, x => by
  have := (he j (bne_of (by simpa [men] using hm))).1
  simpa [rep, this] using x
 | .nilmap, _, _, x => by simpa [rep] using x
 | .fmap .., _, _, x => by simpa only [rep] using x
 | .yld .., _, _, x => by simpa only [rep] using x
 | .val .., _, _, x => by simpa only [rep] using x
theorem repC_but {h : Hp} {e e' : Nm} {k : Nat} (he : e.but e' k) : ∀ (l : List SD) (vs : List Value), menL k l = false → repC h l e vs → repC h l e' vs
 | [], _, _, x => by simpa [repC] using x
 | d :: r, vs, hm, x => by
  simp only [repC] at x ⊢
  simp only [menL, Bool.or_eq_false_iff] at hm
  obtain ⟨v, vs', h1, h2, h3, h4⟩ := x
  exact ⟨v, vs', h1, h2, rep_but he d v hm.1 h3, repC_but he r vs' hm.2 h4⟩
theorem repT_but {h : Hp} {e e' : Nm} {k : Nat} (he : e.but e' k) : ∀ (l : List SD) (vs : List Value), menL k l = false → repT h l e vs → repT h l e' vs
 | [], _, _, x => by simpa [repT] using x
 | d :: r, vs, hm, x => by
  simp only [repT] at x ⊢
  simp only [menL, Bool.or_eq_false_iff] at hm
  obtain ⟨v, vs', h1, h2, h3⟩ := x
  exact ⟨v, vs', h1, rep_but he d v hm.1 h2, repT_but he r vs' hm.2 h3⟩
end
end Go.Sx
namespace Go.Sx
open Go.RowKit
inductive ITD where
 | iter (c : Nat) (V : MK → Bool) (cur : Option MK)
 | raw (o : Obj) (K : Option Nat)
 | live (T es n : Nat) (f : Nat → SD) (i : Nat)
structure MD where
 kk : Option IntKind
 n : Nat
 dom : MK → Bool
 f : MK → SD
 it : Option ITD
inductive OB where
 | var (l : List SD)
 | acc (T : Nat) (es n : Nat) (f : Nat → SD)
 | mp (m : MD) (l : List (SD × SD))
structure St where
 n : Nat
 nx : Nat
 sl : List (Nat × SD)
 ow : List (Nat × OB)
def lkp : List (Nat × SD) → Nat → SD
 | [], _ => .any
 | (j, d) :: r, i => bif Nat.beq j i then d else lkp r i
def lkO : List (Nat × OB) → Nat → Option OB
 | [], _ => none
 | (j, d) :: r, i => bif Nat.beq j i then some d else lkO r i
def upd {α : Type} : List (Nat × α) → Nat → α → List (Nat × α)
 | [], i, x => [(i, x)]
 | (j, d) :: r, i, x => bif Nat.beq j i then (i, x) :: r else (j, d) :: upd r i x
def del {α : Type} : List (Nat × α) → Nat → List (Nat × α)
 | [], _ => []
 | (j, d) :: r, i => bif Nat.beq j i then del r i else (j, d) :: del r i
theorem beqF {i j : Nat} (h : i ≠ j) : Nat.beq i j = false := by
 cases hb : Nat.beq i j
 ·rfl
 ·exact absurd (Nat.eq_of_beq_eq_true hb) h
theorem lkp_upd (l : List (Nat × SD)) (i j : Nat) (x : SD) : lkp (upd l i x) j = if j = i then x else lkp l j := by
 induction l with
 | nil =>
  by_cases h : j = i
  ·subst h; simp [upd, lkp]
  ·have : Nat.beq i j = false := beqF fun e => h e.symm
   simp [upd, lkp, this, h]
 | cons p r ih =>
  obtain ⟨m, d⟩ := p
  by_cases hm : m = i
  ·subst hm
   by_cases h : j = m
   ·subst h; simp [upd, lkp]
   ·have : Nat.beq m j = false := beqF fun e => h e.symm
    simp [upd, lkp, this, h]
  ·have hmi : Nat.beq m i = false := beqF hm
   simp only [upd, hmi, cond_false, lkp, ih]
   by_cases hj : m = j
   ·subst hj; simp [hm]
   ·have : Nat.beq m j = false := beqF hj
    simp [this]
theorem lkO_upd (l : List (Nat × OB)) (i j : Nat) (x : OB) : lkO (upd l i x) j = if j = i then some x else lkO l j := by
 induction l with
 | nil =>
  by_cases h : j = i
  ·subst h; simp [upd, lkO]
  ·have : Nat.beq i j = false := beqF fun e => h e.symm
   simp [upd, lkO, this, h]
 | cons p r ih =>
  obtain ⟨m, d⟩ := p
  by_cases hm : m = i
  ·subst hm
   by_cases h : j = m
   ·subst h; simp [upd, lkO]
   ·have : Nat.beq m j = false := beqF fun e => h e.symm
    simp [upd, lkO, this, h]
  ·have hmi : Nat.beq m i = false := beqF hm
   simp only [upd, hmi, cond_false, lkO, ih]
   by_cases hj : m = j
   ·subst hj; simp [hm]
   ·have : Nat.beq m j = false := beqF hj
    simp [this]
theorem lkO_del (l : List (Nat × OB)) (i j : Nat) : lkO (del l i) j = if j = i then none else lkO l j := by
 induction l with
 | nil => simp [del, lkO]
 | cons p r ih =>
  obtain ⟨m, d⟩ := p
  by_cases hm : m = i
  ·subst hm
   simp only [del, Nat.beq_refl, cond_true, ih]
   by_cases h : j = m
   ·simp [h]
   ·have : Nat.beq m j = false := beqF fun e => h e.symm
    simp [lkO, this, h]
  ·have hmi : Nat.beq m i = false := beqF hm
   simp only [del, hmi, cond_false, lkO, ih]
   by_cases hj : m = j
   ·subst hj; simp [hm]
   ·have : Nat.beq m j = false := beqF hj
    simp [this]
def OB.blk (e : Nm) (k : Nat) : OB → Option Nat
 | .var _ => some (e.bs k)
 | .acc .. => (e.hd k).ownBlock
 | .mp m _ => match m.it with
  | some (.live ..) => (e.hd k).ownBlock
  | _ => some (e.bs k)
def mapOk (h : Hp) (m : MD) (es : Array MapEntry) (clock : Nat) : Prop :=
 es.size = m.n ∧ m.n ≤ maxN ∧ EsOk m.kk m.dom es clock ∧ ∀ x, x ∈ es → ∀ q : MK, x.key = q.val m.kk → q.ok m.kk = true → ∀ e, rep h (m.f q) e x.val
theorem mapOk_mono {h h' : Hp} (hl : Le h h') {m : MD} {es : Array MapEntry} {clock : Nat} (x : mapOk h m es clock) : mapOk h' m es clock :=
 ⟨x.1, x.2.1, x.2.2.1, fun y hy q hq hk e => rep_mono hl _ e _ (x.2.2.2 y hy q hq hk e)⟩
def iterOk (h : Hp) (m : MD) (c : Nat) (V : MK → Bool) (cur : Option MK) (o : Obj) : Prop :=
 ∃ b es clock seen, o = .mapIter (some b) clock seen clock ∧ h b = some (.map es clock) ∧ mapOk h m es clock ∧ (es.filter fun e => !seen.contains e.born).size = c ∧ (∀ x ∈ es, ∀ q : MK, x.key = q.val m.kk → q.ok m.kk = true → V q = seen.contains x.born) ∧
  ∀ q, cur = some q → q.ok m.kk = true ∧ ∃ x ∈ es, x.key = q.val m.kk ∧ seen.back? = some x.born
theorem iterOk_mono {h h' : Hp} (hl : Le h h') {m : MD} {c : Nat} {V : MK → Bool} {cur : Option MK} {o : Obj} (x : iterOk h m c V cur o) : iterOk h' m c V cur o := by
 obtain ⟨b, es, clock, seen, h1, h2, h3, h4⟩ := x
 exact ⟨b, es, clock, seen, h1, hl _ _ h2, mapOk_mono hl h3, h4⟩
def mpObj (h : Hp) (m : MD) (b : Nat) (o : Obj) : Prop :=
 match m.it with
 | none => ∃ es clock, o = .map es clock ∧ mapOk h m es clock
 | some (.iter c V cur) => iterOk h m c V cur o
 | some (.raw x K) => o = x ∧ ∀ b', K = some b' → b = b'
 | some (.live ..) => True
theorem mpObj_mono {h h' : Hp} (hl : Le h h') {m : MD} {b : Nat} {o : Obj} (x : mpObj h m b o) : mpObj h' m b o := by
 unfold mpObj at x ⊢
 split at x
 ·obtain ⟨es, clock, h1, h2⟩ := x
  exact ⟨es, clock, h1, mapOk_mono hl h2⟩
 ·exact iterOk_mono hl x
 ·exact x
 ·exact x
def elAt (h : Hp) (d : SD) (cs : List Value) (es j : Nat) : Prop := ∃ u : Value, (∀ e, rep h d e u) ∧ u.cells.toList = cut cs (j * es) es ∧ u.cells.size = es ∧ ∀ c ∈ u.cells, c.oneCell' = true
def elNow (h : Hp) (e : Nm) (l : List (SD × SD)) (cs : List Value) (es j : Nat) : Prop := ∃ u : Value, (∀ d c r, l = (d, c) :: r → rep h d e u) ∧ u.cells.toList = cut cs (j * es) es ∧ u.cells.size = es ∧ ∀ c ∈ u.cells, c.oneCell' = true
def liveOk (h : Hp) (e : Nm) (w : World) (k : Nat) (T es n : Nat) (f : Nat → SD) (i : Nat) (l : List (SD × SD)) : Prop :=
 ∃ xs, w.ownsRow 0 T es (e.hd k) n xs ∧ n ≤ maxN ∧ i < n ∧ (∀ j, j < n → j ≠ i → elAt h (f j) xs es j) ∧ elNow h e l xs es i
def obOk (h : Hp) (e : Nm) (w : World) (k : Nat) : OB → Prop
 | .var l => ∃ cs T, w.heap[e.bs k]? = some (.cells cs T (0, 0)) ∧ repC h l e cs.toList
 | .acc T es n f => ∃ xs, w.ownsRow 0 T es (e.hd k) n xs ∧ n ≤ maxN ∧
   ∀ i, i < n → ∃ u, (∀ e, rep h (f i) e u) ∧ u.cells.toList = cut xs (i * es) es ∧ u.cells.size = es ∧ ∀ c ∈ u.cells, c.oneCell' = true
 | .mp m l => match m.it with
  | some (.live T es n f i) => liveOk h e w k T es n f i l
  | _ => ∃ o, w.heap[e.bs k]? = some o ∧ mpObj h m (e.bs k) o
theorem elAt_mono {h h' : Hp} (hl : Le h h') {d : SD} {cs : List Value} {es j : Nat} (x : elAt h d cs es j) : elAt h' d cs es j := by
 obtain ⟨u, u1, u2⟩ := x
 exact ⟨u, fun e => rep_mono hl _ e u (u1 e), u2⟩
theorem liveOk_to {h h' : Hp} {e e' : Nm} {w w' : World} {k k' T es n i : Nat} {f : Nat → SD} {l l' : List (SD × SD)} (hl : Le h h') (hh : e'.hd k' = e.hd k) (hw : ∀ b, (e.hd k).ownBlock = some b → w'.heap[b]? = w.heap[b]?)
  (hn : ∀ u, (∀ d c r, l = (d, c) :: r → rep h d e u) → ∀ d c r, l' = (d, c) :: r → rep h' d e' u) (x : liveOk h e w k T es n f i l) : liveOk h' e' w' k' T es n f i l' := by
 obtain ⟨xs, g1, g2, g3, g4, u, u1, u2⟩ := x
 refine ⟨xs, ⟨g1.1, ?_⟩, g2, g3, fun j hj hne => elAt_mono hl (g4 j hj hne), u, hn u u1, u2⟩
 rw [hh]
 rcases g1.2 with hx | ⟨g, cap, cur, hv, hbase, hg, rest⟩
 ·exact .inl hx
 ·exact .inr ⟨g, cap, cur, hv, hbase, (hw g (by simp [hv, Value.ownBlock])).trans hg, rest⟩
def MD.lv (m : MD) : Bool := match m.it with
 | some (.live ..) => true
 | _ => false
theorem MD.nlv {m : MD} (h : m.lv = false) : ∀ T es n f i, m.it ≠ some (.live T es n f i) := fun T es n f i hc => by
 simp only [MD.lv, hc] at h; cases h
theorem obOk_mp {h : Hp} {e : Nm} {w : World} {k : Nat} {m : MD} {l : List (SD × SD)} (hm : m.lv = false) : obOk h e w k (.mp m l) ↔ ∃ o, w.heap[e.bs k]? = some o ∧ mpObj h m (e.bs k) o := by
 unfold obOk
 simp only
 split
 ·exact absurd ‹_› (MD.nlv hm _ _ _ _ _)
 ·exact Iff.rfl
theorem blk_mp {e : Nm} {k : Nat} {m : MD} {l : List (SD × SD)} (hm : m.lv = false) : (OB.mp m l).blk e k = some (e.bs k) := by
 simp only [OB.blk]
 split
 ·exact absurd ‹_› (MD.nlv hm _ _ _ _ _)
 ·rfl
structure Keeps (F : List Nat) (w0 w : World) : Prop where
 os : w.os = w0.os
 tape : w.tape = w0.tape
 output : w.output = w0.output
 size : w0.heap.size ≤ w.heap.size
 block : ∀ b, b < w0.heap.size → b ∉ F → w.heap[b]? = w0.heap[b]?
theorem Keeps.refl (F : List Nat) (w : World) : Keeps F w w := ⟨rfl, rfl, rfl, Nat.le_refl _, fun _ _ _ => rfl⟩
theorem Keeps.below {w0 w : World} (h : Keeps [] w0 w) : Below w0.heap.size w0 w := ⟨h.os, h.tape, h.output, h.size, fun b hb => h.block b hb (by simp)⟩
def GH (_ : Hp) : Prop := True
theorem GH.mono {h h' : Hp} (_ : GH h) (_ : Le h h') : GH h' := trivial
structure Base0 where
 w : World
 h : Hp
 fix : List Nat
 gh : GH h
structure Base where
 b0 : Base0
 rd : Option Nat
 ds : List Deferred
abbrev Base.w (x : Base) : World := x.b0.w
abbrev Base.h (x : Base) : Hp := x.b0.h
abbrev Base.fix (x : Base) : List Nat := x.b0.fix
abbrev Base0.std (x : Base0) : Base := ⟨x, none, []⟩
structure Den (F : List Nat) (w0 : Base) (s : St) (h : Hp) (e : Nm) (a : Act) (w : World) : Prop where
 defers : a.defers = w0.ds
 size : a.tmps.size = s.n
 slot : ∀ t, rep h (lkp s.sl t) e (a.tmps.getD t undef)
 own : ∀ k o, lkO s.ow k = some o → obOk h e w k o
 ownb : ∀ k o b, lkO s.ow k = some o → o.blk e k = some b → (w0.w.heap.size ≤ b ∨ (b ∈ F ∧ 700 ≤ k)) ∧ h b = none
 apart : ∀ k k' o o' b, k ≠ k' → lkO s.ow k = some o → lkO s.ow k' = some o' → o.blk e k = some b → o'.blk e k' ≠ some b
 sub : Sub h w
 keeps : Keeps F w0.w w
 le : Le w0.h h
 neww : ∀ b, b < w0.w.heap.size → h b = w0.h b
 fix : ∀ i b, w0.fix[i]? = some b → e.bs (1000 + i) = b
theorem Den.gh {F : List Nat} {w0 : Base} {s : St} {h : Hp} {e : Nm} {a : Act} {w : World} (D : Den F w0 s h e a w) : GH h := w0.b0.gh.mono D.le
theorem Den.ownM {F : List Nat} {w0 : Base} {s : St} {h : Hp} {e : Nm} {a : Act} {w : World} (D : Den F w0 s h e a w) {k : Nat} {m : MD} {l : List (SD × SD)} (ho : lkO s.ow k = some (.mp m l)) (hn : ∀ T es n f i, m.it ≠ some (.live T es n f i)) : ∃ o, w.heap[e.bs k]? = some o ∧ mpObj h m (e.bs k) o := by
 have x := D.own k _ ho
 unfold obOk at x
 simp only at x
 exact x
def St.put (s : St) (i : Nat) (d : SD) : St := { s with sl := upd s.sl i d }
theorem getD_set (ts : Array Value) (i t : Nat) (v : Value) (hi : i < ts.size) : (ts.setIfInBounds i v).getD t undef = if t = i then v else ts.getD t undef := by
 simp only [Array.getD_eq_getD_getElem?, Array.getElem?_setIfInBounds]
 by_cases h : t = i
 ·subst h; simp [hi]
 ·have : ¬ i = t := fun e => h e.symm
  simp [this, h]
section
variable {F : List Nat} {w0 : Base} {s : St} {h : Hp} {e : Nm} {a : Act} {w : World}
theorem Den.put (D : Den F w0 s h e a w) {i : Nat} {d : SD} {v : Value} (hi : i < s.n) (hv : rep h d e v) : Den F w0 (s.put i d) h e (a.put (some i) v) w := by
 refine ⟨D.defers, by simp [Act.put, St.put, D.size], fun t => ?_, D.own, D.ownb, D.apart, D.sub, D.keeps, D.le, D.neww, D.fix⟩
 simp only [St.put, lkp_upd, Act.put]
 rw [getD_set _ _ _ _ (by rw [D.size]; exact hi)]
 by_cases ht : t = i
 ·simp [ht, hv]
 ·simp only [ht, if_false]; exact D.slot t
theorem Den.put_none (D : Den F w0 s h e a w) (v : Value) : Den F w0 s h e (a.put none v) w := D
theorem obOk_mono {h h' : Hp} {e : Nm} {w w' : World} {k : Nat} {o : OB} (hl : Le h h') (hb : ∀ b, o.blk e k = some b → w'.heap[b]? = w.heap[b]?) (x : obOk h e w k o) : obOk h' e w' k o := by
 cases o with
 | var l =>
  obtain ⟨cs, T, h1, h2⟩ := x
  exact ⟨cs, T, (hb _ rfl).trans h1, repC_mono hl l e _ h2⟩
 | acc T es n f =>
  obtain ⟨xs, h1, h2, h3⟩ := x
  refine ⟨xs, ⟨h1.1, ?_⟩, h2, fun i hi => ?_⟩
  ·rcases h1.2 with hn | ⟨g, cap, cur, hv, hbase, hg, rest⟩
   ·exact .inl hn
   ·exact .inr ⟨g, cap, cur, hv, hbase, (hb g (by simp [OB.blk, hv, Value.ownBlock])).trans hg, rest⟩
  ·obtain ⟨u, u1, u2⟩ := h3 i hi
   exact ⟨u, fun e => rep_mono hl _ e u (u1 e), u2⟩
 | mp m l =>
  unfold obOk at x ⊢
  simp only at x ⊢
  split at x
  ·rename_i hit
   exact liveOk_to hl rfl (fun b hbb => hb b (by simp only [OB.blk, hit]; exact hbb)) (fun u hu d c r hlr => rep_mono hl d e u (hu d c r hlr)) x
  ·rename_i hit
   obtain ⟨o, h1, h2⟩ := x
   refine ⟨o, (hb _ ?_).trans h1, mpObj_mono hl h2⟩
   simp only [OB.blk]
theorem Den.world (D : Den F w0 s h e a w) {h' : Hp} {w' : World} (hl : Le h h') (hs : Sub h' w') (hk : Keeps F w0.w w') (hnw : ∀ b, b < w.heap.size → h' b = h b)
  (hnew : ∀ k o b, lkO s.ow k = some o → o.blk e k = some b → h' b = none)
  (hown : ∀ k o b, lkO s.ow k = some o → o.blk e k = some b → w'.heap[b]? = w.heap[b]?) : Den F w0 s h' e a w' :=
 ⟨D.defers, D.size, fun t => rep_mono hl _ e _ (D.slot t), fun k o ho => obOk_mono hl (fun b hb => hown k o b ho hb) (D.own k o ho),
  fun k o b ho hb => ⟨(D.ownb k o b ho hb).1, hnew k o b ho hb⟩, D.apart, hs, hk, D.le.trans hl, fun b hb => (hnw b (Nat.lt_of_lt_of_le hb D.keeps.size)).trans (D.neww b hb), D.fix⟩
theorem obOk_lt {h : Hp} {e : Nm} {w : World} {k : Nat} {o : OB} (x : obOk h e w k o) {b : Nat} (hb : o.blk e k = some b) : b < w.heap.size := by
 cases o with
 | var l =>
  obtain ⟨cs, T, h1, _⟩ := x
  simp only [OB.blk, Option.some.injEq] at hb
  subst hb
  exact (Array.getElem?_eq_some_iff.1 h1).1
 | acc T es n f =>
  obtain ⟨xs, h1, _⟩ := x
  exact (h1.lt b hb).2
 | mp m l =>
  unfold obOk at x
  simp only at x
  split at x
  ·rename_i hit
   simp only [OB.blk, hit] at hb
   obtain ⟨xs, h1, _⟩ := x
   exact (h1.lt b hb).2
  ·rename_i hit
   have hb2 : e.bs k = b := by
    simp only [OB.blk] at hb
    exact Option.some.inj hb
   obtain ⟨o, h1, _⟩ := x
   subst hb2
   exact (Array.getElem?_eq_some_iff.1 h1).1
theorem Keeps.trans_below {w0 : World} (hk : Keeps F w0 w) {w' : World} (hb : Below w.heap.size w w') : Keeps F w0 w' :=
 ⟨hb.os.trans hk.os, hb.tape.trans hk.tape, hb.output.trans hk.output, Nat.le_trans hk.size hb.size,
  fun b h1 h2 => (hb.block b (Nat.lt_of_lt_of_le h1 hk.size)).trans (hk.block b h1 h2)⟩
theorem Sub.below (hs : Sub h w) {w' : World} (hb : Below w.heap.size w w') : Sub h w' := fun b o ho =>
 (hb.block b (Array.getElem?_eq_some_iff.1 (hs b o ho)).1).trans (hs b o ho)
theorem Den.below (D : Den F w0 s h e a w) {w' : World} (hb : Below w.heap.size w w') : Den F w0 s h e a w' :=
 D.world (Le.refl h) (D.sub.below hb) (D.keeps.trans_below hb) (fun _ _ => rfl) (fun k o b ho hbk => (D.ownb k o b ho hbk).2)
  (fun k o b ho hbk => hb.block b (obOk_lt (D.own k o ho) hbk))
theorem Den.drew (D : Den F w0 s h e a w) : Den F w0 s h e a w.drew := D.below (Below.refl _ _).drew
theorem Den.called (D : Den F w0 s h e a w) {h' : Hp} {w' : World} (hl : Le h h') (hs : Sub h' w') (hb : Below w.heap.size w w') (hn : ∀ b, b < w.heap.size → h' b = h b) : Den F w0 s h' e a w' :=
 D.world hl hs (D.keeps.trans_below hb) hn (fun k o b ho hbk => by rw [hn b (obOk_lt (D.own k o ho) hbk)]; exact (D.ownb k o b ho hbk).2)
  (fun k o b ho hbk => hb.block b (obOk_lt (D.own k o ho) hbk))
end
def menS (k : Nat) : List (Nat × SD) → Bool
 | [] => false
 | (_, d) :: r => men k d || menS k r
def menM (k : Nat) : List (SD × SD) → Bool
 | [] => false
 | (x, _) :: r => men k x || menM k r
def menO (k : Nat) : List (Nat × OB) → Bool
 | [] => false
 | (j, .var l) :: r => Nat.beq j k || menL k l || menO k r
 | (j, .acc ..) :: r => Nat.beq j k || menO k r
 | (j, .mp _ l) :: r => Nat.beq j k || menM k l || menO k r
def St.free (s : St) (k : Nat) : Bool := Nat.blt k 1000 && !(menS k s.sl || menO k s.ow)
theorem menS_lkp {k : Nat} : ∀ {l : List (Nat × SD)}, menS k l = false → ∀ t, men k (lkp l t) = false
 | [], _, _ => rfl
 | (j, d) :: r, h, t => by
  simp only [menS, Bool.or_eq_false_iff] at h
  simp only [lkp]
  cases Nat.beq j t
  ·exact menS_lkp h.2 t
  ·exact h.1
theorem menO_lkO {k : Nat} : ∀ {l : List (Nat × OB)}, menO k l = false → ∀ j o, lkO l j = some o → j ≠ k ∧ (∀ x, o = .var x → menL k x = false) ∧ (∀ kd x, o = .mp kd x → menM k x = false)
 | [], _, _, _, h => by simp [lkO] at h
 | (m, .var l) :: r, h, j, o, hj => by
  simp only [menO, Bool.or_eq_false_iff] at h
  simp only [lkO] at hj
  cases hm : Nat.beq m j
  ·rw [hm] at hj; exact menO_lkO h.2 j o hj
  ·rw [hm] at hj
   have := Nat.eq_of_beq_eq_true hm
   subst this
   simp only [cond_true, Option.some.injEq] at hj
   subst hj
   exact ⟨bne_of h.1.1, fun x hx => by cases hx; exact h.1.2, fun kd x hx => by cases hx⟩
 | (m, .acc ..) :: r, h, j, o, hj => by
  simp only [menO, Bool.or_eq_false_iff] at h
  simp only [lkO] at hj
  cases hm : Nat.beq m j
  ·rw [hm] at hj; exact menO_lkO h.2 j o hj
  ·rw [hm] at hj
   have := Nat.eq_of_beq_eq_true hm
   subst this
   simp only [cond_true, Option.some.injEq] at hj
   subst hj
   exact ⟨bne_of h.1, (fun x hx => by cases hx), fun kd x hx => by cases hx⟩
 | (m, .mp kd l) :: r, h, j, o, hj => by
  simp only [menO, Bool.or_eq_false_iff] at h
  simp only [lkO] at hj
  cases hm : Nat.beq m j
  ·rw [hm] at hj; exact menO_lkO h.2 j o hj
  ·rw [hm] at hj
   have := Nat.eq_of_beq_eq_true hm
   subst this
   simp only [cond_true, Option.some.injEq] at hj
   subst hj
   exact ⟨bne_of h.1.1, (fun x hx => by cases hx), fun kd x hx => by cases hx; exact h.1.2⟩
structure Free (s : St) (k : Nat) : Prop where
 sl : ∀ t, men k (lkp s.sl t) = false
 ow : ∀ j o, lkO s.ow j = some o → j ≠ k ∧ (∀ x, o = .var x → menL k x = false) ∧ (∀ kd x, o = .mp kd x → menM k x = false)
 lt : k < 1000
theorem Free.of {s : St} {k : Nat} (hf : s.free k = true) : Free s k := by
 simp only [St.free, Bool.and_eq_true, Bool.not_eq_true', Bool.or_eq_false_iff] at hf
 exact ⟨menS_lkp hf.2.1, menO_lkO hf.2.2, Nat.le_of_ble_eq_true hf.1⟩
theorem blk_but {e e' : Nm} {k j : Nat} (he : e.but e' k) (hj : j ≠ k) (o : OB) : o.blk e' j = o.blk e j := by
 cases o with
 | mp m l =>
  simp only [OB.blk]
  split
  ·rw [(he j hj).2]
  ·rw [(he j hj).1]
 | _ => simp [OB.blk, he j hj]
theorem obOk_but {h : Hp} {e e' : Nm} {w : World} {k j : Nat} {o : OB} (he : e.but e' k) (hj : j ≠ k) (h1 : ∀ x, o = .var x → menL k x = false) (h2 : ∀ kd x, o = .mp kd x → menM k x = false) (x : obOk h e w j o) : obOk h e' w j o := by
 cases o with
 | var l =>
  obtain ⟨cs, T, g1, g2⟩ := x
  exact ⟨cs, T, by rw [(he j hj).1]; exact g1, repC_but he l _ (h1 l rfl) g2⟩
 | acc T es n f =>
  obtain ⟨xs, g1, g2⟩ := x
  exact ⟨xs, by rw [(he j hj).2]; exact g1, g2⟩
 | mp m l =>
  unfold obOk at x ⊢
  simp only at x ⊢
  split at x
  ·refine liveOk_to (Le.refl h) (he j hj).2 (fun _ _ => rfl) (fun u hu d c r hlr => ?_) x
   have := h2 m l rfl
   rw [hlr] at this
   simp only [menM, Bool.or_eq_false_iff] at this
   exact rep_but he d u this.1 (hu d c r hlr)
  ·obtain ⟨o, g1, g2⟩ := x
   exact ⟨o, by rw [(he j hj).1]; exact g1, by rw [(he j hj).1]; exact g2⟩
def Nm.setB (e : Nm) (k b : Nat) : Nm := { e with bs := fun j => if j = k then b else e.bs j }
def Nm.setH (e : Nm) (k : Nat) (v : Value) : Nm := { e with hd := fun j => if j = k then v else e.hd j }
theorem Nm.but_setB (e : Nm) (k b : Nat) : e.but (e.setB k b) k := fun j hj => by simp [Nm.setB, hj]
theorem Nm.but_setH (e : Nm) (k : Nat) (v : Value) : e.but (e.setH k v) k := fun j hj => by simp [Nm.setH, hj]
section
variable {F : List Nat} {w0 : Base} {s : St} {h : Hp} {e : Nm} {a : Act} {w : World}
theorem Den.rename (D : Den F w0 s h e a w) {e' : Nm} {k : Nat} (he : e.but e' k) (hf : Free s k) : Den F w0 s h e' a w := by
 have ho := hf.ow
 refine ⟨D.defers, D.size, fun t => rep_but he _ _ (hf.sl t) (D.slot t), fun j o hj => ?_, fun j o b hj hb => ?_, fun j j' o o' b hne hj hj' hb => ?_, D.sub, D.keeps, D.le, D.neww, fun i b hb => by rw [(he (1000 + i) (by have := hf.lt; omega)).1]; exact D.fix i b hb⟩
 ·obtain ⟨h1, h2, h3⟩ := ho j o hj
  exact obOk_but he h1 h2 h3 (D.own j o hj)
 ·rw [blk_but he (ho j o hj).1] at hb
  exact D.ownb j o b hj hb
 ·rw [blk_but he (ho j o hj).1] at hb
  rw [blk_but he (ho j' o' hj').1]
  exact D.apart j j' o o' b hne hj hj' hb
theorem Den.addOwn (D : Den F w0 s h e a w) {k : Nat} {o : OB} (hf : lkO s.ow k = none) (h1 : obOk h e w k o)
  (h2 : ∀ b, o.blk e k = some b → (w0.w.heap.size ≤ b ∨ (b ∈ F ∧ 700 ≤ k)) ∧ h b = none)
  (h3 : ∀ j o' b, lkO s.ow j = some o' → o'.blk e j = some b → o.blk e k ≠ some b) (nx : Nat) : Den F w0 { s with nx := nx, ow := upd s.ow k o } h e a w := by
 refine ⟨D.defers, D.size, D.slot, fun j o' hj => ?_, fun j o' b hj hb => ?_, fun j j' o1 o2 b hne hj hj' hb => ?_, D.sub, D.keeps, D.le, D.neww, D.fix⟩
 ·rw [lkO_upd] at hj
  by_cases hjk : j = k
  ·subst hjk; simp only [if_true, Option.some.injEq] at hj; subst hj; exact h1
  ·simp only [hjk, if_false] at hj; exact D.own j o' hj
 ·rw [lkO_upd] at hj
  by_cases hjk : j = k
  ·subst hjk; simp only [if_true, Option.some.injEq] at hj; subst hj; exact h2 b hb
  ·simp only [hjk, if_false] at hj; exact D.ownb j o' b hj hb
 ·rw [lkO_upd] at hj hj'
  by_cases hjk : j = k
  ·subst hjk
   have hjk' : j' ≠ j := fun x => hne x.symm
   simp only [if_true, Option.some.injEq] at hj
   simp only [hjk', if_false] at hj'
   subst hj
   exact fun hc => h3 j' o2 b hj' hc hb
  ·simp only [hjk, if_false] at hj
   by_cases hjk' : j' = k
   ·subst hjk'
    simp only [if_true, Option.some.injEq] at hj'
    subst hj'
    exact h3 j o1 b hj hb
   ·simp only [hjk', if_false] at hj'
    exact D.apart j j' o1 o2 b hne hj hj' hb
theorem free_lkO {s : St} {k : Nat} (hf : Free s k) : lkO s.ow k = none := by
 cases h : lkO s.ow k with
 | none => rfl
 | some o => exact absurd rfl (hf.ow k o h).1
theorem Den.newVar (D : Den F w0 s h e a w) {k : Nat} {l : List SD} {cs : Array Value} {T : Nat} (hf : Free s k) (hm : menL k l = false) (hc : repC h l e cs.toList) (nx : Nat) :
  Den F w0 { s with nx := nx, ow := upd s.ow k (.var l) } h (e.setB k w.heap.size) a (w.alloc (.cells cs T)) := by
 have hb := Below.alloc (Below.refl w.heap.size w) (Nat.le_refl _) (.cells cs T)
 have D1 := (D.below hb).rename (e.but_setB k w.heap.size) hf
 have hnone : h w.heap.size = none := by
  cases hx : h w.heap.size with
  | none => rfl
  | some o => have := (Array.getElem?_eq_some_iff.1 (D.sub _ _ hx)).1; omega
 refine D1.addOwn (o := .var l) (free_lkO hf) ⟨cs, T, ?_, repC_but (e.but_setB k _) l _ hm hc⟩ (fun b hb => ?_) (fun j o' b hj hb' hc' => ?_) nx
 ·simp only [Nm.setB, if_true]; exact heap_alloc_new w _
 ·simp only [OB.blk, Nm.setB, if_true, Option.some.injEq] at hb
  subst hb
  exact ⟨.inl D.keeps.size, hnone⟩
 ·simp only [OB.blk, Nm.setB, if_true, Option.some.injEq] at hc'
  subst hc'
  have hjk : j ≠ k := fun x => by subst x; rw [free_lkO hf] at hj; cases hj
  rw [blk_but (e.but_setB k _) hjk] at hb'
  have := obOk_lt (D.own j o' hj) hb'
  omega
theorem Den.setOwn (D : Den F w0 s h e a w) {k : Nat} {o o' : OB} {w' : World} (ho : lkO s.ow k = some o) (hbk : o'.blk e k = o.blk e k) (h1 : obOk h e w' k o')
  (hw : ∀ b, o.blk e k ≠ some b → w'.heap[b]? = w.heap[b]?) (hos : w'.os = w.os) (htp : w'.tape = w.tape) (hout : w'.output = w.output) (hsz : w'.heap.size = w.heap.size) : Den F w0 { s with ow := upd s.ow k o' } h e a w' := by
 refine ⟨D.defers, D.size, D.slot, fun j x hj => ?_, fun j x b hj hb => ?_, fun j j' o1 o2 b hne hj hj' hb => ?_, fun b x hx => ?_, ?_, D.le, D.neww, D.fix⟩
 ·rw [lkO_upd] at hj
  by_cases hjk : j = k
  ·subst hjk; simp only [if_true, Option.some.injEq] at hj; subst hj; exact h1
  ·simp only [hjk, if_false] at hj
   exact obOk_mono (Le.refl h) (fun b hb => hw b (fun hc => D.apart j k x o b hjk hj ho hb hc)) (D.own j x hj)
 ·rw [lkO_upd] at hj
  by_cases hjk : j = k
  ·subst hjk; simp only [if_true, Option.some.injEq] at hj; subst hj; rw [hbk] at hb; exact D.ownb j o b ho hb
  ·simp only [hjk, if_false] at hj; exact D.ownb j x b hj hb
 ·have key : ∀ j x, (if j = k then some o' else lkO s.ow j) = some x → ∃ y, lkO s.ow j = some y ∧ x.blk e j = y.blk e j := fun j x hx => by
   by_cases hjk : j = k
   ·subst hjk; simp only [if_true, Option.some.injEq] at hx; subst hx; exact ⟨o, ho, hbk⟩
   ·simp only [hjk, if_false] at hx; exact ⟨x, hx, rfl⟩
  rw [lkO_upd] at hj hj'
  obtain ⟨y, hy, ey⟩ := key j o1 hj
  obtain ⟨y', hy', ey'⟩ := key j' o2 hj'
  rw [ey] at hb
  rw [ey']
  exact D.apart j j' y y' b hne hy hy' hb
 ·rw [hw b (fun hc => by have := (D.ownb k o b ho hc).2; rw [this] at hx; cases hx)]
  exact D.sub b x hx
 ·refine ⟨hos.trans D.keeps.os, htp.trans D.keeps.tape, hout.trans D.keeps.output, by rw [hsz]; exact D.keeps.size, fun b hb hF => ?_⟩
  rw [hw b (fun hc => ?_)]
  ·exact D.keeps.block b hb hF
  ·rcases (D.ownb k o b ho hc).1 with hx | hx
   ·omega
   ·exact hF hx.1
end
end Go.Sx
namespace Go.Sx
open Go.RowKit
def ofS : Value → SD
 | .bool b => .bool b
 | .int k n => .int k n
 | .string s => .str s
 | .pointer none => .nilp
 | .slice none 0 0 => .nils
 | .map none => .nilmap
 | .nilFunc => .nilfn
 | .nilIface => .nilif
 | _ => .any
theorem rep_ofS (h : Hp) (e : Nm) (v : Value) : rep h (ofS v) e v := by
 unfold ofS
 split <;> simp [rep]
def ofV : Value → SD
 | .agg cs => bif cs.all (·.oneCell') then .agg (cs.toList.map ofS) else .any
 | v => ofS v
theorem repC_ofS (h : Hp) (e : Nm) : ∀ (l : List Value), (∀ v ∈ l, v.oneCell' = true) → repC h (l.map ofS) e l
 | [], _ => by simp [repC]
 | v :: r, hl => by
  simp only [List.map_cons, repC]
  exact ⟨v, r, rfl, hl v (by simp), rep_ofS h e v, repC_ofS h e r fun u hu => hl u (by simp [hu])⟩
theorem rep_ofV (h : Hp) (e : Nm) (v : Value) : rep h (ofV v) e v := by
 unfold ofV
 split
 ·rename_i cs
  cases hc : cs.all (·.oneCell')
  ·simp [rep]
  ·simp only [cond_true, rep]
   exact ⟨cs.toList, by simp, repC_ofS h e _ fun v hv => (Array.all_eq_true_iff_forall_mem.1 hc) v (by simpa using hv)⟩
 ·exact rep_ofS h e v
def ev (s : St) : Operand → SD
 | .tmp t => lkp s.sl t
 | .const v => ofV v
 | .func f => .fn f []
 | .global _ => .any
section
variable {F : List Nat} {w0 : Base} {s : St} {h : Hp} {e : Nm} {a : Act} {w : World}
theorem Den.ev (D : Den F w0 s h e a w) (x : Operand) : rep h (ev s x) e (a.eval x) := by
 cases x with
 | tmp t => exact D.slot t
 | const v => exact rep_ofV h e v
 | func f => simp [Sx.ev, rep, Act.eval, repT]
 | global g => simp [Sx.ev, rep]
end
def ungd : SD → SD
 | .gd _ d => d
 | d => d
def cellsD : SD → Option (List SD)
 | .agg l => some l
 | .any | .gd .. | .tup _ | .val _ => none
 | d => some [d]
theorem one_cell {h : Hp} {e : Nm} {d : SD} {v : Value} (x : rep h d e v) (h1 : v.oneCell' = true) (h2 : v.cells = #[v]) : repC h [d] e v.cells.toList := by
 rw [h2]
 simp only [repC]
 exact ⟨v, [], rfl, h1, x, rfl⟩
def leaf : SD → Bool
 | .agg _ | .any | .gd .. | .tup _ | .val _ => false
 | _ => true
theorem leaf_ok {h : Hp} {e : Nm} {d : SD} {v : Value} (hc : leaf d = true) (x : rep h d e v) : v.oneCell' = true ∧ v.cells = #[v] := by
 cases d <;> simp only [leaf, reduceCtorEq] at hc <;> simp only [rep] at x
 case int => subst x; exact ⟨rfl, rfl⟩
 case bool => subst x; exact ⟨rfl, rfl⟩
 case str => subst x; exact ⟨rfl, rfl⟩
 case list => obtain ⟨a, cap, rfl, rest⟩ := x; exact ⟨rfl, rfl⟩
 case lng => obtain ⟨a, cap, rfl, rest⟩ := x; exact ⟨rfl, rfl⟩
 case nils => subst x; exact ⟨rfl, rfl⟩
 case fp => obtain ⟨ad, cs, T, fr, rfl, rest⟩ := x; exact ⟨rfl, rfl⟩
 case nilp => subst x; exact ⟨rfl, rfl⟩
 case loc => subst x; exact ⟨rfl, rfl⟩
 case acc => obtain ⟨_, _, _, _, rfl⟩ := x; exact ⟨rfl, rfl⟩
 case accH => obtain ⟨_, _, _, rfl⟩ := x; exact ⟨rfl, rfl⟩
 case aptr => obtain ⟨b, n, c, h1, h2, rfl⟩ := x; exact ⟨rfl, rfl⟩
 case accp => obtain ⟨b, n, c, h1, h2, h3, rfl⟩ := x; exact ⟨rfl, rfl⟩
 case vsl => obtain ⟨rfl, _⟩ := x; exact ⟨rfl, rfl⟩
 case bfn => obtain ⟨vs, rfl, h2⟩ := x; exact ⟨rfl, rfl⟩
 case fn => obtain ⟨vs, rfl, h2⟩ := x; exact ⟨rfl, rfl⟩
 case nilfn => subst x; exact ⟨rfl, rfl⟩
 case iface => obtain ⟨u, rfl, h2⟩ := x; exact ⟨rfl, rfl⟩
 case nilif => subst x; exact ⟨rfl, rfl⟩
 case omap => subst x; exact ⟨rfl, rfl⟩
 case nilmap => subst x; exact ⟨rfl, rfl⟩
 case fmap => obtain ⟨_, _, _, rfl, _⟩ := x; exact ⟨rfl, rfl⟩
 case yld => subst x; exact ⟨rfl, rfl⟩
theorem cellsD_ok {h : Hp} {e : Nm} {d : SD} {l : List SD} {v : Value} (hc : cellsD d = some l) (x : rep h d e v) : repC h l e v.cells.toList := by
 by_cases hl : leaf d = true
 ·have : l = [d] := by cases d <;> simp_all [cellsD, leaf]
  subst this
  obtain ⟨h1, h2⟩ := leaf_ok hl x
  exact one_cell x h1 h2
 ·cases d <;> simp only [cellsD, Option.some.injEq, reduceCtorEq] at hc <;> simp [leaf] at hl
  subst hc
  simp only [rep] at x
  obtain ⟨vs, rfl, h2⟩ := x
  simpa [Value.cells] using h2
theorem repC_one {h : Hp} {e : Nm} : ∀ {l : List SD} {vs : List Value}, repC h l e vs → ∀ v ∈ vs, v.oneCell' = true
 | [], _, x => by simp only [repC] at x; subst x; simp
 | d :: r, _, x => by
  simp only [repC] at x
  obtain ⟨v, vs', rfl, h1, _, h3⟩ := x
  intro u hu
  rcases List.mem_cons.1 hu with rfl | hu
  ·exact h1
  ·exact repC_one h3 u hu
theorem repC_drop {h : Hp} {e : Nm} : ∀ (n : Nat) {l : List SD} {vs : List Value}, repC h l e vs → repC h (l.drop n) e (vs.drop n)
 | 0, _, _, x => by simpa using x
 | n + 1, [], _, x => by simp only [repC] at x; subst x; simp [repC]
 | n + 1, d :: r, _, x => by
  simp only [repC] at x
  obtain ⟨v, vs', rfl, _, _, h3⟩ := x
  simpa using repC_drop n h3
theorem repC_take {h : Hp} {e : Nm} : ∀ (n : Nat) {l : List SD} {vs : List Value}, repC h l e vs → repC h (l.take n) e (vs.take n)
 | 0, _, _, _ => by simp [repC]
 | n + 1, [], _, x => by simp only [repC] at x; subst x; simp [repC]
 | n + 1, d :: r, _, x => by
  simp only [repC] at x
  obtain ⟨v, vs', rfl, h1, h2, h3⟩ := x
  simp only [List.take_succ_cons, repC]
  exact ⟨v, _, rfl, h1, h2, repC_take n h3⟩
theorem repC_append {h : Hp} {e : Nm} : ∀ {l l' : List SD} {vs vs' : List Value}, repC h l e vs → repC h l' e vs' → repC h (l ++ l') e (vs ++ vs')
 | [], _, _, _, x, y => by simp only [repC] at x; subst x; simpa using y
 | d :: r, _, _, _, x, y => by
  simp only [repC] at x
  obtain ⟨v, vs1, rfl, h1, h2, h3⟩ := x
  simp only [List.cons_append, repC]
  exact ⟨v, _, rfl, h1, h2, repC_append h3 y⟩
theorem repC_head {h : Hp} {e : Nm} {d : SD} {r : List SD} {vs : List Value} (x : repC h (d :: r) e vs) : ∃ v vs', vs = v :: vs' ∧ v.oneCell' = true ∧ rep h d e v := by
 simp only [repC] at x
 obtain ⟨v, vs', h1, h2, h3, _⟩ := x
 exact ⟨v, vs', h1, h2, h3⟩
def szT (P : Program) (T : Nat) : Nat := P.cellsOf T
def aggT (P : Program) (T : Nat) : Option Bool :=
 match P.underlying T with
 | some (.struct _) | some (.array ..) => some true
 | some _ => some false
 | none => none
theorem run_isAgg {P : Program} {T : Nat} {b : Bool} (h : aggT P T = some b) (w : World) : (isAgg T).run P w = .ok b w := by
 unfold aggT at h
 unfold isAgg
 rw [Sem.run_bind]
 split at h
 ·rename_i fs hu; rw [run_underlying hu w]; simp at h; subst h; rfl
 ·rename_i n t hu; rw [run_underlying hu w]; simp at h; subst h; rfl
 ·rename_i d h1 h2 hu
  rw [run_underlying hu w]
  simp at h
  subst h
  cases d <;> first | rfl | simp_all
 ·cases h
def plT (P : Program) (T i : Nat) : Option (Nat × Nat) :=
 match P.underlying T with
 | some (.struct fs) => match fs[i]? with
  | some f => if P.cellsOf f.type = 0 ∨ (P.info? f.type).isNone then none else some (f.offset, P.cellsOf f.type)
  | none => none
 | some (.array _ t) => if P.cellsOf t = 0 then none else some (i * P.cellsOf t, P.cellsOf t)
 | _ => none
theorem info_of_szT {P : Program} {T n : Nat} (h : szT P T = n + 1) : ∃ i, P.info? T = some i ∧ i.size = n + 1 := by
 unfold szT Program.cellsOf at h
 cases hi : P.info? T with
 | none => simp [hi] at h
 | some i => exact ⟨i, rfl, by simpa [hi] using h⟩
def ldc (P : Program) (T : Nat) (l : List SD) : Option SD :=
 match aggT P T with
 | some true => bif Nat.ble 1 (szT P T) && Nat.ble (szT P T) l.length then some (.agg (l.take (szT P T))) else none
 | some false => match l with
  | d :: _ => some d
  | [] => none
 | none => none
theorem run_ldc {P : Program} {T : Nat} {w : World} {h : Hp} {e : Nm} {b o : Nat} {l : List SD} {vs : List Value} {d : SD}
  (hc : ∀ j v, vs[j]? = some v → w.cell? ⟨b, o + j, none⟩ = some v) (hr : repC h l e vs) (hd : ldc P T l = some d) :
  ∃ v, rep h d e v ∧ (Instr.loadAt T (.pointer (some ⟨b, o, none⟩))).run P w = .ok v w := by
 unfold ldc at hd
 split at hd
 ·rename_i ha
  cases hb : (Nat.ble 1 (szT P T) && Nat.ble (szT P T) l.length)
  ·rw [hb] at hd; cases hd
  ·rw [hb] at hd
   simp only [cond_true, Option.some.injEq] at hd
   subst hd
   simp only [Bool.and_eq_true] at hb
   have h1 := Nat.le_of_ble_eq_true hb.1
   have h2 := Nat.le_of_ble_eq_true hb.2
   obtain ⟨m, hm⟩ : ∃ m, szT P T = m + 1 := ⟨szT P T - 1, by omega⟩
   obtain ⟨i, hi, hsz⟩ := info_of_szT hm
   have hl := repC_length hr
   have hlen : (vs.take (szT P T)).length = szT P T := by simp; omega
   refine ⟨.agg (vs.take (szT P T)).toArray, by simp only [rep]; exact ⟨_, rfl, repC_take _ hr⟩, ?_⟩
   have hcells := run_loadCells_list (P := P) w ⟨b, o, none⟩ (vs.take (szT P T)) (fun j v hv => by
    rw [Addr.add_mid]
    refine hc j v ?_
    rw [List.getElem?_take] at hv
    split at hv
    ·exact hv
    ·cases hv)
   rw [hlen, hm] at hcells
   simp [Instr.loadAt, Instr.sureAddr, loadVar, Sem.run_bind, run_isAgg ha, sizeOf, typeInfo, hi, hsz, hcells, hm]
 ·rename_i ha
  cases l with
  | nil => simp at hd
  | cons d' r =>
   simp only [Option.some.injEq] at hd
   subst hd
   obtain ⟨v, vs', rfl, h1, h2⟩ := repC_head hr
   refine ⟨v, h2, ?_⟩
   have := hc 0 v rfl
   simp only [Nat.add_zero] at this
   simp [Instr.loadAt, Instr.sureAddr, loadVar, Sem.run_bind, run_isAgg ha, run_load, this]
 ·cases hd
end Go.Sx
namespace Go.Sx
open Go.RowKit
def kdT (P : Program) (T : Nat) : Nat :=
 match P.underlying T with
 | some (.slice _) => 1
 | some .string => 2
 | some (.map ..) => 3
 | some (.array ..) => 4
 | some (.struct _) => 5
 | some (.int _) => 6
 | some .bool => 7
 | some (.interface _) => 8
 | some _ => 9
 | none => 0
def ikT (P : Program) (T : Nat) : Option IntKind :=
 match P.underlying T with
 | some (.int k) => some k
 | _ => none
def elT (P : Program) (T : Nat) : Option Nat :=
 match P.underlying T with
 | some (.slice t) => some t
 | some (.array _ t) => some t
 | _ => none
def lnT (P : Program) (T : Nat) : Option Nat :=
 match P.underlying T with
 | some (.array n _) => some n
 | _ => none
def ftT (P : Program) (T i : Nat) : Option Nat :=
 match P.underlying T with
 | some (.struct fs) => (fs[i]?).map (·.type)
 | _ => none
def lvN (m : MD) : Option (Nat × Nat) := match m.it with
 | some (.live _ es n _ _) => some (es, n)
 | _ => none
def lvE (m : MD) (l : List (SD × SD)) (j : Nat) : Option (Nat × SD) := match m.it, l with
 | some (.live _ es _ f i), (d, _) :: _ => some (es, bif Nat.beq j i then d else f j)
 | _, _ => none
theorem lvN_ok {h : Hp} {e : Nm} {w : World} {k es n : Nat} {m : MD} {l : List (SD × SD)} (hm : lvN m = some (es, n)) (x : obOk h e w k (.mp m l)) : ∃ T xs, w.ownsRow 0 T es (e.hd k) n xs ∧ n ≤ maxN ∧ 0 < n := by
 unfold lvN at hm
 split at hm
 ·rename_i T es' n' f i hit
  simp only [Option.some.injEq, Prod.mk.injEq] at hm
  obtain ⟨rfl, rfl⟩ := hm
  unfold obOk at x
  simp only [hit] at x
  obtain ⟨xs, h1, h2, h3, _⟩ := x
  exact ⟨T, xs, h1, h2, by omega⟩
 ·cases hm
theorem lvE_ok {h : Hp} {e : Nm} {w : World} {k es j : Nat} {m : MD} {l : List (SD × SD)} {d : SD} (hm : lvE m l j = some (es, d)) (x : obOk h e w k (.mp m l)) : ∃ T n xs, w.ownsRow 0 T es (e.hd k) n xs ∧ n ≤ maxN ∧
  (j < n → ∃ u : Value, rep h d e u ∧ u.cells.toList = cut xs (j * es) es ∧ u.cells.size = es ∧ ∀ c ∈ u.cells, c.oneCell' = true) := by
 unfold lvE at hm
 split at hm
 ·rename_i T es' n' f i d0 c0 r hit
  simp only [Option.some.injEq, Prod.mk.injEq] at hm
  obtain ⟨rfl, rfl⟩ := hm
  unfold obOk at x
  simp only [hit] at x
  obtain ⟨xs, h1, h2, h3, h4, u, h5, h6⟩ := x
  refine ⟨T, n', xs, h1, h2, fun hj => ?_⟩
  cases hb : Nat.beq j i
  ·obtain ⟨u', u1, u2⟩ := h4 j hj (bne_of hb)
   exact ⟨u', u1 e, u2⟩
  ·have := Nat.eq_of_beq_eq_true hb
   subst this
   exact ⟨u, h5 d0 c0 r rfl, h6⟩
 ·cases hm
def lenD (s : St) : SD → Option Nat
 | .list _ n _ => some n
 | .lng n _ => some n
 | .nils => some 0
 | .vsl _ _ n _ => some n
 | .accH _ n => some n
 | .acc k => match lkO s.ow k with
  | some (.acc _ _ n _) => some n
  | some (.mp m _) => (lvN m).map (·.2)
  | _ => none
 | _ => none
def andI (k : IntKind) (a b : Int) : Int := k.wrap (BitVec.ofInt k.bits a &&& BitVec.ofInt k.bits b).toNat
def orI (k : IntKind) (a b : Int) : Int := k.wrap (BitVec.ofInt k.bits a ||| BitVec.ofInt k.bits b).toNat
def xorI (k : IntKind) (a b : Int) : Int := k.wrap (BitVec.ofInt k.bits a ^^^ BitVec.ofInt k.bits b).toNat
def bicI (k : IntKind) (a b : Int) : Int := k.wrap (BitVec.ofInt k.bits a &&& ~~~(BitVec.ofInt k.bits b)).toNat
def shlI (k : IntKind) (a b : Int) : Int := k.wrap (a * 2 ^ (min b.toNat k.bits))
def shrI (k : IntKind) (a b : Int) : Int := a.fdiv (2 ^ (min b.toNat k.bits))
def binI (op : BinOp) (k : IntKind) (a b : Int) : Option SD :=
 match op with
 | .add => some (.int k (k.wrap (a + b)))
 | .sub => some (.int k (k.wrap (a - b)))
 | .mul => some (.int k (k.wrap (a * b)))
 | .and => some (.int k (andI k a b))
 | .or => some (.int k (orI k a b))
 | .xor => some (.int k (xorI k a b))
 | .andNot => some (.int k (bicI k a b))
 | .eql => some (.bool (a == b))
 | .neq => some (.bool (a != b))
 | .lss => some (.bool (decide (a < b)))
 | .leq => some (.bool (decide (a ≤ b)))
 | .gtr => some (.bool (decide (b < a)))
 | .geq => some (.bool (decide (b ≤ a)))
 | _ => none
theorem run_binI {P : Program} {op : BinOp} {k : IntKind} {a b : Int} {d : SD} (hd : binI op k a b = some d) (w : World) (h : Hp) (e : Nm) (T : Nat) :
  ∃ v, rep h d e v ∧ (binOp op T (.int k a) (.int k b)).run P w = .ok v w := by
 cases op <;> simp only [binI, Option.some.injEq, reduceCtorEq] at hd <;> subst hd <;> simp [rep, binOp, Op.intArith, Op.intBits, Op.intCmp, andI, orI, xorI, bicI]
def binS (op : BinOp) (a b : ByteArray) : Option SD :=
 match op with
 | .eql => some (.bool (a == b))
 | .neq => some (.bool (!(a == b)))
 | .lss => some (.bool (Op.bytesLess a.toList b.toList))
 | .leq => some (.bool (Op.bytesLess a.toList b.toList || a.toList == b.toList))
 | .gtr => some (.bool (!(Op.bytesLess a.toList b.toList || a.toList == b.toList)))
 | .geq => some (.bool (!Op.bytesLess a.toList b.toList))
 | _ => none
theorem run_binS {P : Program} {op : BinOp} {a b : ByteArray} {d : SD} (hd : binS op a b = some d) (w : World) (h : Hp) (e : Nm) (T : Nat) :
  ∃ v, rep h d e v ∧ (binOp op T (.string a) (.string b)).run P w = .ok v w := by
 cases op <;> simp only [binS, Option.some.injEq, reduceCtorEq] at hd <;> subst hd <;> simp [rep, binOp, Op.stringOp, beq_toListBytes]
def binB (P : Program) (T : Nat) (op : BinOp) (a b : Bool) : Option SD :=
 bif Nat.beq (kdT P T) 7 then
  match op with
  | .eql => some (.bool (a == b))
  | .neq => some (.bool (!(a == b)))
  | _ => none
 else none
theorem und7 {P : Program} {T : Nat} (h : Nat.beq (kdT P T) 7 = true) : P.underlying T = some .bool := by
 have := Nat.eq_of_beq_eq_true h
 unfold kdT at this
 split at this <;> first | assumption | (simp at this)
theorem run_binB {P : Program} {T : Nat} {op : BinOp} {a b : Bool} {d : SD} (hd : binB P T op a b = some d) (w : World) (h : Hp) (e : Nm) :
  ∃ v, rep h d e v ∧ (binOp op T (.bool a) (.bool b)).run P w = .ok v w := by
 unfold binB at hd
 cases hk : Nat.beq (kdT P T) 7
 ·rw [hk] at hd; cases hd
 ·rw [hk] at hd
  have hu := und7 hk
  simp only [cond_true] at hd
  have he : ∀ w, (Op.equal T (.bool a) (.bool b)).run P w = .ok (a == b) w := fun w => by
   have : ∀ n, (Op.equalIn (n + 1) T (.bool a) (.bool b)).run P w = .ok (a == b) w := fun n => by simp [Op.equalIn, run_underlying hu]
   exact this 9999
  cases op <;> simp only [Option.some.injEq, reduceCtorEq] at hd <;> subst hd <;> simp [rep, binOp, he]
def eqL : List SD → List SD → Option Bool
 | [], [] => some true
 | .int _ a :: l, .int _ b :: r => (eqL l r).map fun t => (a == b) && t
 | .str a :: l, .str b :: r => (eqL l r).map fun t => (a == b) && t
 | .bool a :: l, .bool b :: r => (eqL l r).map fun t => (a == b) && t
 | _, _ => none
def binD (P : Program) (T : Nat) (op : BinOp) : SD → SD → Option SD
 | .int j a, .int k b => if j = k then (match op with
  | .shl | .shr | .quo | .rem => none
  | _ => binI op k a b) else none
 | .str a, .str b => binS op a b
 | .bool a, .bool b => binB P T op a b
 | _, _ => none
theorem run_binD {P : Program} {T : Nat} {op : BinOp} {x y d : SD} (hd : binD P T op x y = some d) (w : World) (h : Hp) (e : Nm) (va vb : Value) (ha : rep h x e va) (hb : rep h y e vb) (X Y : Operand) :
  ∃ v, rep h d e v ∧ (do eqGuard op T X Y va vb; binOp op T va vb : Sem Value).run P w = .ok v w := by
 unfold binD at hd
 split at hd
 ·rename_i j a k b
  simp only [rep] at ha hb
  subst ha hb
  split at hd
  ·rename_i hjk
   subst hjk
   have hd' : binI op j a b = some d := by
    revert hd
    cases op <;> simp
   obtain ⟨v, h1, h2⟩ := run_binI (P := P) hd' w h e T
   refine ⟨v, h1, ?_⟩
   have hg : (eqGuard op T X Y (.int j a) (.int j b)).run P w = .ok () w := by cases op <;> simp [eqGuard]
   simp [hg, h2]
  ·cases hd
 ·rename_i a b
  simp only [rep] at ha hb
  subst ha hb
  obtain ⟨v, h1, h2⟩ := run_binS (P := P) hd w h e T
  refine ⟨v, h1, ?_⟩
  have hg : (eqGuard op T X Y (.string a) (.string b)).run P w = .ok () w := by cases op <;> simp [eqGuard]
  simp [hg, h2]
 ·rename_i a b
  simp only [rep] at ha hb
  subst ha hb
  obtain ⟨v, h1, h2⟩ := run_binB (P := P) hd w h e
  refine ⟨v, h1, ?_⟩
  have hg : (eqGuard op T X Y (.bool a) (.bool b)).run P w = .ok () w := by cases op <;> simp [eqGuard]
  simp [hg, h2]
 ·cases hd
def unD (op : UnOp) : SD → Option SD
 | .bool b => match op with
  | .not => some (.bool (!b))
  | _ => none
 | .int k n => match op with
  | .neg => some (.int k (k.wrap (0 - n)))
  | _ => none
 | _ => none
theorem run_unD {P : Program} {op : UnOp} {x d : SD} (hd : unD op x = some d) (w : World) (h : Hp) (e : Nm) (va : Value) (ha : rep h x e va) :
  ∃ v, rep h d e v ∧ (Op.unary op va).run P w = .ok v w := by
 unfold unD at hd
 split at hd
 ·simp only [rep] at ha
  subst ha
  split at hd
  ·simp only [Option.some.injEq] at hd; subst hd; simp [rep, Op.unary]
  ·cases hd
 ·simp only [rep] at ha
  subst ha
  split at hd
  ·simp only [Option.some.injEq] at hd; subst hd; simp [rep, Op.unary, Op.intArith]
  ·cases hd
 ·cases hd
def atD (s : St) : SD → Option (List SD)
 | .loc k off => match lkO s.ow k with
  | some (.var l) => some (l.drop off)
  | _ => none
 | .fp l => some l
 | .aptr k es i off => match lkO s.ow k with
  | some (.acc _ es' _ f) => bif Nat.beq es es' then (cellsD (f i)).map (·.drop off) else none
  | some (.mp m l) => match lvE m l i with
   | some (es', d) => bif Nat.beq es es' then (cellsD d).map (·.drop off) else none
   | none => none
  | _ => none
 | _ => none
section
variable {P : Program} {F : List Nat} {w0 : Base} {s : St} {h : Hp} {e : Nm} {a : Act} {w : World}
theorem cell_of_block {w : World} {b : Nat} {cs : Array Value} {T : Nat} {fr : Nat × Nat} (hb : w.heap[b]? = some (.cells cs T fr)) (o : Nat) : w.cell? ⟨b, o, none⟩ = cs[o]? := cell_of_row w b o cs T fr hb
theorem Den.at (D : Den F w0 s h e a w) {x : SD} {l : List SD} {v : Value} (hx : rep h x e v) (hl : atD s x = some l) :
  ∃ b o vs, v = .pointer (some ⟨b, o, none⟩) ∧ (∀ j u, vs[j]? = some u → w.cell? ⟨b, o + j, none⟩ = some u) ∧ repC h l e vs := by
 cases x <;> simp only [atD, reduceCtorEq, Option.some.injEq] at hl
 case loc k off =>
  split at hl
  ·rename_i l' ho
   simp only [Option.some.injEq] at hl
   subst hl
   obtain ⟨cs, T, h1, h2⟩ := D.own k _ ho
   simp only [rep] at hx
   refine ⟨_, _, cs.toList.drop off, hx, fun j u hu => ?_, repC_drop off h2⟩
   rw [cell_of_block h1]
   simpa using hu
  ·cases hl
 case fp l' =>
  subst hl
  simp only [rep] at hx
  obtain ⟨ad, cs, T, fr, h1, h2, h3, h4⟩ := hx
  obtain ⟨b, o, sp⟩ := ad
  simp only at h2
  subst h2
  refine ⟨b, o, _, h1, fun j u hu => ?_, h4 e⟩
  rw [cell_of_block (D.sub _ _ h3)]
  unfold cut at hu
  rw [List.getElem?_take] at hu
  split at hu
  ·simpa using hu
  ·cases hu
 case aptr k es i off =>
  split at hl
  ·rename_i T es' n f ho
   cases hb : Nat.beq es es'
   ·rw [hb] at hl; cases hl
   ·rw [hb] at hl
    have := Nat.eq_of_beq_eq_true hb
    subst this
    simp only [cond_true] at hl
    cases hc : cellsD (f i) with
    | none => rw [hc] at hl; cases hl
    | some cl =>
     rw [hc] at hl
     simp only [Option.map_some, Option.some.injEq] at hl
     subst hl
     simp only [rep] at hx
     obtain ⟨b, m, c, h1, h2, h3⟩ := hx
     obtain ⟨xs, g1, g2, g3⟩ := D.own k _ ho
     have hmn : m = n := by
      rcases g1.2 with ⟨hv, _⟩ | ⟨g, cap, cur, hv, _⟩
      ·rw [h1] at hv; cases hv
      ·rw [h1] at hv; cases hv; rfl
     subst hmn
     obtain ⟨u, u1, u2, u3, u4⟩ := g3 i h2
     refine ⟨b, i * es + off, (u.cells.toList).drop off, h3, fun j v hv => ?_, repC_drop off (cellsD_ok hc (u1 e))⟩
     have hcell := g1.cells (g := b) (by rw [h1]; rfl) (i * es + off + j) v ?_
     ·rwa [show (⟨b, 0, none⟩ : Addr).add (i * es + off + j) = ⟨b, i * es + off + j, none⟩ by unfold Addr.add; split <;> simp_all] at hcell
     ·rw [List.getElem?_drop, u2] at hv
      unfold cut at hv
      rw [List.getElem?_take] at hv
      split at hv
      ·rw [List.getElem?_drop] at hv
       rw [← hv]; congr 1; omega
      ·cases hv
  ·rename_i m ml ho
   split at hl
   ·rename_i es' d hle
    cases hb : Nat.beq es es'
    ·rw [hb] at hl; cases hl
    ·rw [hb] at hl
     have := Nat.eq_of_beq_eq_true hb
     subst this
     simp only [cond_true] at hl
     cases hc : cellsD d with
     | none => rw [hc] at hl; cases hl
     | some cl =>
      rw [hc] at hl
      simp only [Option.map_some, Option.some.injEq] at hl
      subst hl
      simp only [rep] at hx
      obtain ⟨b, m', c, h1, h2, h3⟩ := hx
      obtain ⟨T, n, xs, g1, g2, g3⟩ := lvE_ok hle (D.own k _ ho)
      have hmn : m' = n := by
       rcases g1.2 with ⟨hv, _⟩ | ⟨g, cap, cur, hv, _⟩
       ·rw [h1] at hv; cases hv
       ·rw [h1] at hv; cases hv; rfl
      subst hmn
      obtain ⟨u, u1, u2, u3, u4⟩ := g3 h2
      refine ⟨b, i * es + off, (u.cells.toList).drop off, h3, fun j v hv => ?_, repC_drop off (cellsD_ok hc u1)⟩
      have hcell := g1.cells (g := b) (by rw [h1]; rfl) (i * es + off + j) v ?_
      ·rwa [show (⟨b, 0, none⟩ : Addr).add (i * es + off + j) = ⟨b, i * es + off + j, none⟩ by unfold Addr.add; split <;> simp_all] at hcell
      ·rw [List.getElem?_drop, u2] at hv
       unfold cut at hv
       rw [List.getElem?_take] at hv
       split at hv
       ·rw [List.getElem?_drop] at hv
        rw [← hv]; congr 1; omega
       ·cases hv
   ·cases hl
  ·cases hl
end
end Go.Sx
namespace Go.Sx
open Go.RowKit
def allP : List Prop → Prop
 | [] => True
 | p :: r => p ∧ allP r
def gC : SD → List Prop → List Prop
 | .gd c _, r => (c = true) :: r
 | _, r => r
def gCs (s : St) : List Operand → List Prop → List Prop
 | [], r => r
 | x :: l, r => gC (ev s x) (gCs s l r)
theorem allP_gCs {s : St} : ∀ {l : List Operand} {r : List Prop}, allP (gCs s l r) → (∀ x ∈ l, ∀ c d, ev s x = .gd c d → c = true) ∧ allP r
 | [], _, h => ⟨by simp, h⟩
 | x :: l, r, h => by
  simp only [gCs] at h
  cases hx : ev s x with
  | gd c d =>
   rw [hx] at h
   simp only [gC, allP] at h
   have ih := allP_gCs h.2
   refine ⟨fun y hy c' d' hc => ?_, ih.2⟩
   rcases List.mem_cons.1 hy with rfl | hy
   ·rw [hx] at hc; cases hc; exact h.1
   ·exact ih.1 y hy c' d' hc
  | _ =>
   rw [hx] at h
   simp only [gC] at h
   have ih := allP_gCs h
   refine ⟨fun y hy c' d' hc => ?_, ih.2⟩
   rcases List.mem_cons.1 hy with rfl | hy
   ·rw [hx] at hc; cases hc
   ·exact ih.1 y hy c' d' hc
theorem ungd_ok {h : Hp} {e : Nm} {d : SD} {v : Value} (x : rep h d e v) (hc : ∀ c d', d = .gd c d' → c = true) : rep h (ungd d) e v := by
 cases d with
 | gd c d' => simp only [rep] at x; exact x.1 (hc c d' rfl)
 | _ => exact x
def faD (P : Program) (T i : Nat) (d : SD) : Option SD :=
 bif Nat.beq (kdT P T) 5 then
  match plT P T i with
  | some (o, _) => match d with
   | .loc k off => some (.loc k (off + o))
   | .fp l => some (.fp (l.drop o))
   | .aptr k es j off => some (.aptr k es j (off + o))
   | _ => none
  | none => none
 else none
theorem und5 {P : Program} {T : Nat} (h : Nat.beq (kdT P T) 5 = true) : ∃ fs, P.underlying T = some (.struct fs) := by
 have := Nat.eq_of_beq_eq_true h
 unfold kdT at this
 split at this <;> first | exact ⟨_, by assumption⟩ | (simp at this)
theorem und1 {P : Program} {T : Nat} (h : Nat.beq (kdT P T) 1 = true) : ∃ t, P.underlying T = some (.slice t) := by
 have := Nat.eq_of_beq_eq_true h
 unfold kdT at this
 split at this <;> first | exact ⟨_, by assumption⟩ | (simp at this)
theorem und2 {P : Program} {T : Nat} (h : Nat.beq (kdT P T) 2 = true) : P.underlying T = some .string := by
 have := Nat.eq_of_beq_eq_true h
 unfold kdT at this
 split at this <;> first | assumption | (simp at this)
theorem und4 {P : Program} {T : Nat} (h : Nat.beq (kdT P T) 4 = true) : ∃ n t, P.underlying T = some (.array n t) := by
 have := Nat.eq_of_beq_eq_true h
 unfold kdT at this
 split at this <;> first | exact ⟨_, _, by assumption⟩ | (simp at this)
theorem plT_struct {P : Program} {T i o z : Nat} {fs : Array Field} (hu : P.underlying T = some (.struct fs)) (h : plT P T i = some (o, z)) :
  ∃ f j, fs[i]? = some f ∧ f.offset = o ∧ P.info? f.type = some j ∧ j.size = z ∧ z ≠ 0 := by
 unfold plT at h
 rw [hu] at h
 simp only at h
 cases hf : fs[i]? with
 | none => rw [hf] at h; cases h
 | some f =>
  rw [hf] at h
  simp only at h
  split at h
  ·cases h
  ·rename_i hn
   simp only [not_or, Option.isNone_iff_eq_none] at hn
   simp only [Option.some.injEq, Prod.mk.injEq] at h
   cases hi : P.info? f.type with
   | none => exact absurd hi hn.2
   | some j =>
    have hz : P.cellsOf f.type = j.size := by simp [Program.cellsOf, hi]
    exact ⟨f, j, rfl, h.1, hi, by rw [← hz]; exact h.2, by rw [← h.2]; exact hn.1⟩
theorem plT_array {P : Program} {T i o z n t : Nat} (hu : P.underlying T = some (.array n t)) (h : plT P T i = some (o, z)) :
  ∃ j, P.info? t = some j ∧ o = i * j.size ∧ z = j.size ∧ z ≠ 0 := by
 unfold plT at h
 rw [hu] at h
 simp only at h
 split at h
 ·cases h
 ·rename_i hn
  simp only [Option.some.injEq, Prod.mk.injEq] at h
  cases hi : P.info? t with
  | none => simp [Program.cellsOf, hi] at hn
  | some j =>
   have hz : P.cellsOf t = j.size := by simp [Program.cellsOf, hi]
   rw [hz] at h hn
   exact ⟨j, rfl, h.1.symm, h.2.symm, by rw [← h.2]; exact hn⟩
theorem rep_fp_drop {h : Hp} {e : Nm} {l : List SD} {ad : Addr} {o : Nat} (x : rep h (.fp l) e (.pointer (some ad))) : rep h (.fp (l.drop o)) e (.pointer (some (ad.add o))) := by
 simp only [rep] at x ⊢
 obtain ⟨ad', cs, T, fr, h1, h2, h3, h4⟩ := x
 simp only [Value.pointer.injEq, Option.some.injEq] at h1
 subst h1
 obtain ⟨b, off, sp⟩ := ad
 simp only at h2
 subst h2
 rw [Addr.add_mid]
 refine ⟨_, cs, T, fr, rfl, rfl, h3, fun e => ?_⟩
 have := repC_drop o (h4 e)
 unfold cut at this ⊢
 rw [List.drop_take, List.drop_drop] at this
 simpa using this
section
variable {P : Program} {F : List Nat} {w0 : Base} {s : St} {h : Hp} {e : Nm} {a : Act} {w : World}
theorem run_faD {T i : Nat} {x d : SD} {v : Value} (hx : rep h x e v) (hd : faD P T i x = some d) : ∃ u, rep h d e u ∧ ∀ w : World, (Instr.fieldAt T v i).run P w = .ok u w := by
 unfold faD at hd
 cases hk : Nat.beq (kdT P T) 5
 ·rw [hk] at hd; cases hd
 ·rw [hk] at hd
  simp only [cond_true] at hd
  obtain ⟨fs, hu⟩ := und5 hk
  split at hd
  ·rename_i o z hp
   obtain ⟨f, j, hf, ho, hi, hz, hz0⟩ := plT_struct hu hp
   have key : ∀ (ad : Addr) (w : World), (Instr.fieldAt T (.pointer (some ad)) i).run P w = .ok (.pointer (some (ad.add o))) w := fun ad w => by
    have : ¬ j.size = 0 := by rw [hz]; exact hz0
    simp [Instr.fieldAt, run_underlying hu, hf, Instr.sureAddr, fieldPlace, sizeOf, typeInfo, hi, this, ho]
   split at hd
   ·rename_i k off
    simp only [Option.some.injEq] at hd
    subst hd
    simp only [rep] at hx
    subst hx
    exact ⟨_, by simp only [rep, Addr.add_mid], key _⟩
   ·rename_i l
    simp only [Option.some.injEq] at hd
    subst hd
    have hx' := hx
    simp only [rep] at hx'
    obtain ⟨ad, _, _, _, rfl, _⟩ := hx'
    exact ⟨_, rep_fp_drop hx, key _⟩
   ·rename_i k es j' off
    simp only [Option.some.injEq] at hd
    subst hd
    simp only [rep] at hx
    obtain ⟨b, n, c, h1, h2, rfl⟩ := hx
    exact ⟨_, by simp only [rep, Addr.add_mid]; exact ⟨b, n, c, h1, h2, by rw [Nat.add_assoc]⟩, key _⟩
   ·cases hd
  ·cases hd
end
def iaD (P : Program) (s : St) (T : Nat) (x : SD) (i : Int) : Option (List Prop × SD) :=
 bif Nat.beq (kdT P T) 1 then
  match elT P T with
  | some t => match x with
   | .list es n f => bif Nat.beq es (szT P t) && Nat.ble 1 es then
     match cellsD (f i.toNat) with
     | some l => some ([0 ≤ i, i < (n : Int)], .fp l)
     | none => none
    else none
   | .acc k => match lkO s.ow k with
    | some (.acc _ es n _) => bif Nat.beq es (szT P t) && Nat.ble 1 es then some ([0 ≤ i, i < (n : Int)], .aptr k es i.toNat 0) else none
    | some (.mp m _) => match lvN m with
     | some (es, n) => bif Nat.beq es (szT P t) && Nat.ble 1 es then some ([0 ≤ i, i < (n : Int)], .aptr k es i.toNat 0) else none
     | none => none
    | _ => none
   | .vsl k off n _ => bif Nat.ble 1 (szT P t) then some ([0 ≤ i, i < (n : Int)], .loc k (off + i.toNat * szT P t)) else none
   | .lng n f => bif Nat.beq (szT P t) 1 then some ([0 ≤ i, i < (n : Int)], .fp [.int .i64 (f i.toNat)]) else none
   | _ => none
  | none => none
 else bif Nat.beq (kdT P T) 4 then
  match lnT P T, plT P T i.toNat with
  | some n, some (o, _) => match x with
   | .loc k off => some ([0 ≤ i, i < (n : Int)], .loc k (off + o))
   | .fp l => some ([0 ≤ i, i < (n : Int)], .fp (l.drop o))
   | .aptr k es j off => some ([0 ≤ i, i < (n : Int)], .aptr k es j (off + o))
   | _ => none
  | _, _ => none
 else none
theorem elT_slice {P : Program} {T t t' : Nat} (hu : P.underlying T = some (.slice t)) (h : elT P T = some t') : t' = t := by
 unfold elT at h; rw [hu] at h; simp at h; exact h.symm
theorem run_iaD {P : Program} {F : List Nat} {w0 : Base} {s : St} {h : Hp} {e : Nm} {a : Act} {w : World} (D : Den F w0 s h e a w) {T : Nat} {x d : SD} {k : IntKind} {i : Int} {v : Value} {vc : List Prop}
  (hx : rep h x e v) (hd : iaD P s T x i = some (vc, d)) (hvc : allP vc) : ∃ u, rep h d e u ∧ (Instr.indexAt T v (.int k i)).run P w = .ok u w := by
 unfold iaD at hd
 cases hk : Nat.beq (kdT P T) 1
 ·rw [hk] at hd
  simp only [cond_false] at hd
  cases hk4 : Nat.beq (kdT P T) 4
  ·rw [hk4] at hd; cases hd
  ·rw [hk4] at hd
   simp only [cond_true] at hd
   obtain ⟨n, t, hu⟩ := und4 hk4
   split at hd
   ·rename_i n' o z hn hp
    have hnn : n' = n := by unfold lnT at hn; rw [hu] at hn; simp at hn; exact hn.symm
    subst hnn
    obtain ⟨j, hi, ho, hz, hz0⟩ := plT_array hu hp
    have key : ∀ (ad : Addr) (w : World), 0 ≤ i → i < (n' : Int) → (Instr.indexAt T (.pointer (some ad)) (.int k i)).run P w = .ok (.pointer (some (ad.add o))) w := fun ad w h0 h1 => by
     simp [Instr.indexAt, asIntOf, run_underlying hu, Instr.sureAddr, sizeOf, typeInfo, hi, h0, h1, ho]
    split at hd
    ·rename_i k' off
     simp only [Option.some.injEq, Prod.mk.injEq] at hd
     obtain ⟨rfl, rfl⟩ := hd
     simp only [allP] at hvc
     simp only [rep] at hx
     subst hx
     exact ⟨_, by simp only [rep, Addr.add_mid], key _ w hvc.1 hvc.2.1⟩
    ·rename_i l
     simp only [Option.some.injEq, Prod.mk.injEq] at hd
     obtain ⟨rfl, rfl⟩ := hd
     simp only [allP] at hvc
     have hx' := hx
     simp only [rep] at hx'
     obtain ⟨ad, _, _, _, rfl, _⟩ := hx'
     exact ⟨_, rep_fp_drop hx, key _ w hvc.1 hvc.2.1⟩
    ·rename_i k' es j' off
     simp only [Option.some.injEq, Prod.mk.injEq] at hd
     obtain ⟨rfl, rfl⟩ := hd
     simp only [allP] at hvc
     simp only [rep] at hx
     obtain ⟨b, n, c, h1, h2, rfl⟩ := hx
     exact ⟨_, by simp only [rep, Addr.add_mid]; exact ⟨b, n, c, h1, h2, by rw [Nat.add_assoc]⟩, key _ w hvc.1 hvc.2.1⟩
    ·cases hd
   ·cases hd
 ·rw [hk] at hd
  simp only [cond_true] at hd
  obtain ⟨t, hu⟩ := und1 hk
  split at hd
  ·rename_i t' ht
   have := elT_slice hu ht
   subst this
   have key : ∀ (ad : Addr) (n c : Nat) (m : Nat) (w : World), szT P t' = m + 1 → 0 ≤ i → i < (n : Int) →
     (Instr.indexAt T (.slice (some ad) n c) (.int k i)).run P w = .ok (.pointer (some (ad.add (i.toNat * szT P t')))) w := fun ad n c m w hm h0 h1 => by
    obtain ⟨j, hi, hs⟩ := info_of_szT hm
    simp [Instr.indexAt, asIntOf, run_underlying hu, sizeOf, typeInfo, hi, h0, h1, hm, hs]
   split at hd
   ·rename_i es n f
    cases hb : (Nat.beq es (szT P t') && Nat.ble 1 es)
    ·rw [hb] at hd; cases hd
    ·rw [hb] at hd
     simp only [cond_true] at hd
     simp only [Bool.and_eq_true] at hb
     have he := Nat.eq_of_beq_eq_true hb.1
     have he1 := Nat.le_of_ble_eq_true hb.2
     split at hd
     ·rename_i l hl
      simp only [Option.some.injEq, Prod.mk.injEq] at hd
      obtain ⟨rfl, rfl⟩ := hd
      simp only [allP] at hvc
      obtain ⟨h0, h1, _⟩ := hvc
      simp only [rep] at hx
      obtain ⟨ao, cap, rfl, g2, g3, g4⟩ := hx
      have hin : i.toNat < n := by omega
      obtain ⟨ad, cs, T', fr, rfl, h5, h6, h7⟩ := g4 (by omega)
      obtain ⟨u, u1, u2, u3, u4⟩ := h7 i.toNat hin
      refine ⟨_, ?_, key ad n cap (es - 1) w (by rw [← he]; omega) h0 h1⟩
      obtain ⟨b, off, sp⟩ := ad
      simp only at h5
      subst h5
      rw [Addr.add_mid]
      simp only [rep]
      refine ⟨_, cs, T', fr, rfl, rfl, h6, fun e' => ?_⟩
      have hr := cellsD_ok hl (u1 e')
      have hlen := repC_length hr
      rw [u2] at hr
      rw [← he]
      have : l.length = es := by rw [← hlen]; simpa using u3
      rw [this]
      exact hr
     ·cases hd
   ·rename_i k'
    split at hd
    ·rename_i Ta es n f ho
     cases hb : (Nat.beq es (szT P t') && Nat.ble 1 es)
     ·rw [hb] at hd; cases hd
     ·rw [hb] at hd
      simp only [cond_true, Option.some.injEq, Prod.mk.injEq] at hd
      obtain ⟨rfl, rfl⟩ := hd
      simp only [Bool.and_eq_true] at hb
      have he := Nat.eq_of_beq_eq_true hb.1
      have he1 := Nat.le_of_ble_eq_true hb.2
      simp only [allP] at hvc
      obtain ⟨h0, h1, _⟩ := hvc
      simp only [rep] at hx
      obtain ⟨xs, g1, g2, g3⟩ := D.own _ _ ho
      rcases g1.2 with ⟨hv, hn0⟩ | ⟨g, cap, cur, hv, _⟩
      ·omega
      ·obtain ⟨hx1, _⟩ := hx
       rw [hv] at hx1
       subst hx1
       refine ⟨_, ?_, key _ n cap (es - 1) w (by rw [← he]; omega) h0 h1⟩
       rw [Addr.add_mid, ← he]
       simp only [rep]
       exact ⟨g, n, cap, hv, by omega, by simp⟩
    ·rename_i m ml ho
     split at hd
     ·rename_i es n hle
      cases hb : (Nat.beq es (szT P t') && Nat.ble 1 es)
      ·rw [hb] at hd; cases hd
      ·rw [hb] at hd
       simp only [cond_true, Option.some.injEq, Prod.mk.injEq] at hd
       obtain ⟨rfl, rfl⟩ := hd
       simp only [Bool.and_eq_true] at hb
       have he := Nat.eq_of_beq_eq_true hb.1
       have he1 := Nat.le_of_ble_eq_true hb.2
       simp only [allP] at hvc
       obtain ⟨h0, h1, _⟩ := hvc
       simp only [rep] at hx
       obtain ⟨Ta, xs, g1, g2, g3⟩ := lvN_ok hle (D.own _ _ ho)
       rcases g1.2 with ⟨hv, hn0⟩ | ⟨g, cap, cur, hv, _⟩
       ·omega
       ·obtain ⟨hx1, _⟩ := hx
        rw [hv] at hx1
        subst hx1
        refine ⟨_, ?_, key _ n cap (es - 1) w (by rw [← he]; omega) h0 h1⟩
        rw [Addr.add_mid, ← he]
        simp only [rep]
        exact ⟨g, n, cap, hv, by omega, by simp⟩
     ·cases hd
    ·cases hd
   ·rename_i k' off n cap
    cases hb : Nat.ble 1 (szT P t')
    ·rw [hb] at hd; cases hd
    ·rw [hb] at hd
     simp only [cond_true, Option.some.injEq, Prod.mk.injEq] at hd
     obtain ⟨rfl, rfl⟩ := hd
     have he1 := Nat.le_of_ble_eq_true hb
     simp only [allP] at hvc
     obtain ⟨h0, h1, _⟩ := hvc
     simp only [rep] at hx
     obtain ⟨rfl, _⟩ := hx
     refine ⟨_, ?_, key _ n cap (szT P t' - 1) w (by omega) h0 h1⟩
     rw [Addr.add_mid]
     simp only [rep]
   ·rename_i n f
    cases hb : Nat.beq (szT P t') 1
    ·rw [hb] at hd; cases hd
    ·rw [hb] at hd
     simp only [cond_true, Option.some.injEq, Prod.mk.injEq] at hd
     obtain ⟨rfl, rfl⟩ := hd
     have he := Nat.eq_of_beq_eq_true hb
     obtain ⟨h0, h1, _⟩ : 0 ≤ i ∧ i < (n : Int) ∧ True := hvc
     simp only [rep] at hx
     obtain ⟨ao, cap, rfl, g2, g3, g4⟩ := hx
     obtain ⟨ad, cs, T', fr, rfl, h5, h6, h7⟩ := g4 (by omega)
     obtain ⟨hlt, hv⟩ := List.getElem?_eq_some_iff.1 (h7 i.toNat (by omega))
     refine ⟨_, ?_, key ad n cap 0 w (by omega) h0 h1⟩
     obtain ⟨b, off, sp⟩ := ad
     simp only at h5
     subst h5
     rw [Addr.add_mid, he, Nat.mul_one]
     simp only [rep]
     refine ⟨_, cs, T', fr, rfl, rfl, h6, fun e' => ?_⟩
     have hc : cut cs.toList (off + i.toNat) 1 = [.int .i64 (f i.toNat)] := by unfold cut; rw [List.drop_eq_getElem_cons hlt, hv]; rfl
     rw [show [SD.int .i64 (f i.toNat)].length = 1 from rfl, hc]
     simp only [repC, rep]
     exact ⟨_, _, rfl, rfl, rfl, rfl⟩
   ·cases hd
  ·cases hd
end Go.Sx
namespace Go.Sx
open Go.RowKit
mutual
def pureD : SD → Bool
 | .agg l => pureL l
 | .loc .. => false
 | .acc _ => false
 | .accH .. => false
 | .aptr .. => false
 | .accp .. => false
 | .vsl .. => false
 | .bfn _ l => pureL l
 | .gd _ d => pureD d
 | .tup l => pureL l
 | .fn _ l => pureL l
 | .iface _ d => pureD d
 | .omap _ => false
 | _ => true
def pureL : List SD → Bool
 | [] => true
 | d :: r => pureD d && pureL r
end
mutual
theorem pure_rep {h : Hp} {e e' : Nm} : ∀ (d : SD) (v : Value), pureD d = true → rep h d e v → rep h d e' v
 | .any, _, _, _ => by simp [rep]
 | .int .., _, _, x => by simpa [rep] using x
 | .bool .., _, _, x => by simpa [rep] using x
 | .str .., _, _, x => by simpa [rep] using x
 | .agg l, v, hm, x => by
  simp only [rep] at x ⊢
  obtain ⟨vs, h1, h2⟩ := x
  exact ⟨vs, h1, pure_repC l vs (by simpa [pureD] using hm) h2⟩
 | .list .., _, _, x => by simpa [rep] using x
 | .lng .., _, _, x => by simpa [rep] using x
 | .nils, _, _, x => by simpa [rep] using x
 | .fp .., _, _, x => by simpa [rep] using x
 | .nilp, _, _, x => by simpa [rep] using x
 | .loc .., _, hm, _ => by simp [pureD] at hm
 | .acc .., _, hm, _ => by simp [pureD] at hm
 | .accH .., _, hm, _ => by simp [pureD] at hm
 | .aptr .., _, hm, _ => by simp [pureD] at hm
 | .accp .., _, hm, _ => by simp [pureD] at hm
 | .vsl .., _, hm, _ => by simp [pureD] at hm
 | .bfn f l, v, hm, x => by
  simp only [rep] at x ⊢
  obtain ⟨vs, h1, h2⟩ := x
  exact ⟨vs, h1, pure_repT l vs (by simpa [pureD] using hm) h2⟩
 | .gd c d, v, hm, x => by
  simp only [rep] at x ⊢
  exact ⟨fun hc => pure_rep d v (by simpa [pureD] using hm) (x.1 hc), x.2⟩
 | .tup l, v, hm, x => by
  simp only [rep] at x ⊢
  obtain ⟨vs, h1, h2⟩ := x
  exact ⟨vs, h1, pure_repT l vs (by simpa [pureD] using hm) h2⟩
 | .fn f l, v, hm, x => by
  simp only [rep] at x ⊢
  obtain ⟨vs, h1, h2⟩ := x
  exact ⟨vs, h1, pure_repT l vs (by simpa [pureD] using hm) h2⟩
 | .nilfn, _, _, x => by simpa [rep] using x
 | .iface t d, v, hm, x => by
  simp only [rep] at x ⊢
  obtain ⟨u, h1, h2⟩ := x
  exact ⟨u, h1, pure_rep d u (by simpa [pureD] using hm) h2⟩
 | .nilif, _, _, x => by simpa [rep] using x
 | .omap .., _, hm, _ => by simp [pureD] at hm
 | .nilmap, _, _, x => by simpa [rep] using x
 | .fmap .., _, _, x => by simpa only [rep] using x
 | .yld .., _, _, x => by simpa only [rep] using x
 | .val .., _, _, x => by simpa only [rep] using x
theorem pure_repC {h : Hp} {e e' : Nm} : ∀ (l : List SD) (vs : List Value), pureL l = true → repC h l e vs → repC h l e' vs
 | [], _, _, x => by simpa [repC] using x
 | d :: r, vs, hm, x => by
  simp only [repC] at x ⊢
  simp only [pureL, Bool.and_eq_true] at hm
  obtain ⟨v, vs', h1, h2, h3, h4⟩ := x
  exact ⟨v, vs', h1, h2, pure_rep d v hm.1 h3, pure_repC r vs' hm.2 h4⟩
theorem pure_repT {h : Hp} {e e' : Nm} : ∀ (l : List SD) (vs : List Value), pureL l = true → repT h l e vs → repT h l e' vs
 | [], _, _, x => by simpa [repT] using x
 | d :: r, vs, hm, x => by
  simp only [repT] at x ⊢
  simp only [pureL, Bool.and_eq_true] at hm
  obtain ⟨v, vs', h1, h2, h3⟩ := x
  exact ⟨v, vs', h1, pure_rep d v hm.1 h2, pure_repT r vs' hm.2 h3⟩
end
theorem fold_set (o : Nat) : ∀ (vs : List Value) (i : Nat) (cs : Array Value), o + i + vs.length ≤ cs.size →
  ((vs.zipIdx i).foldl (fun cs (p : Value × Nat) => cs.setIfInBounds (o + p.2) p.1) cs).toList = cs.toList.take (o + i) ++ vs ++ cs.toList.drop (o + i + vs.length)
 | [], i, cs, _ => by simp
 | v :: r, i, cs, h => by
  simp only [List.length_cons] at h
  simp only [List.zipIdx_cons, List.foldl_cons]
  rw [fold_set o r (i + 1) _ (by simp; omega)]
  simp only [Array.toList_setIfInBounds]
  have hlt : o + i < cs.toList.length := by simp; omega
  rw [show o + (i + 1) = o + i + 1 by omega, List.length_cons, show o + i + (r.length + 1) = o + i + 1 + r.length by omega]
  rw [List.drop_set_of_lt (by omega)]
  have : (cs.toList.set (o + i) v).take (o + i + 1) = cs.toList.take (o + i) ++ [v] := by
   rw [List.take_set, List.take_succ_eq_append_getElem hlt]
   rw [List.set_append_right _ _ (by simp; omega)]
   have : o + i - (List.take (o + i) cs.toList).length = 0 := by rw [List.length_take]; omega
   rw [this]
   rfl
  rw [this]
  simp
theorem fill_ok {place : Nat → Option (Nat × Nat)} {cells : Array Value} {i o z : Nat} {v : Value} {rest : List (Nat × Value)} (hp : place i = some (o, z)) (hz : v.cells.size = z) (hf : o + z ≤ cells.size) :
  ∃ cells' : Array Value, Instr.fill place cells ((i, v) :: rest) = Instr.fill place cells' rest ∧ cells'.toList = cells.toList.take o ++ v.cells.toList ++ cells.toList.drop (o + z) := by
 refine ⟨v.cells.zipIdx.foldl (fun cs (p : Value × Nat) => cs.setIfInBounds (o + p.2) p.1) cells, ?_, ?_⟩
 ·simp only [Instr.fill, hp]
  rw [if_neg (by simp; omega)]
 ·have := fold_set o v.cells.toList 0 cells (by simp; omega)
  simp only [Nat.add_zero] at this
  rw [← Array.foldl_toList]
  simp only [Array.toList_zipIdx]
  rw [this]
  simp [hz]
def bdT (P : Program) (T : Nat) : Option (List SD) :=
 match P.info? T, P.underlying T with
 | some it, some (.array _ e) => match it.zero, P.info? e with
  | some z, some _ => bif z.cells.all (·.oneCell') then some (z.cells.toList.map ofS) else none
  | _, _ => none
 | some it, some (.struct fields) => match it.zero, fields.toList.mapM (fun f => (P.info? f.type).map fun i => (f.offset, i.size)) with
  | some z, some _ => bif z.cells.all (·.oneCell') then some (z.cells.toList.map ofS) else none
  | _, _ => none
 | _, _ => none
theorem mapM_get {P : Program} : ∀ (fs : List Field) (ps : List (Nat × Nat)), fs.mapM (fun f => (P.info? f.type).map fun i => (f.offset, i.size)) = some ps → ∀ (i : Nat) (f : Field), fs[i]? = some f → ∀ j, P.info? f.type = some j → ps[i]? = some (f.offset, j.size)
 | [], _, _, i, f, h, _, _ => by simp at h
 | g :: fs, ps, h, i, f, hf, j, hj => by
  simp only [List.mapM_cons, Option.bind_eq_bind, Option.pure_def] at h
  cases hi : P.info? g.type with
  | none => simp [hi] at h
  | some ii =>
   cases hr : fs.mapM (fun f => (P.info? f.type).map fun i => (f.offset, i.size)) with
   | none => simp [hi, hr] at h
   | some rest =>
    simp [hi, hr] at h
    subst h
    cases i with
    | zero =>
     simp only [List.getElem?_cons_zero, Option.some.injEq] at hf ⊢
     subst hf
     rw [hi] at hj
     cases hj
     rfl
    | succ i =>
     simp only [List.getElem?_cons_succ] at hf ⊢
     exact mapM_get fs rest hr i f hf j hj
theorem bdT_spec {P : Program} {T : Nat} {zl : List SD} (h : bdT P T = some zl) : ∃ (place : Nat → Option (Nat × Nat)) (z : Value), (∀ parts, P.built T parts = Instr.fill place z.cells parts) ∧ (∀ hp e, repC hp zl e z.cells.toList) ∧
  ∀ i o sz, plT P T i = some (o, sz) → place i = some (o, sz) := by
 unfold bdT at h
 split at h
 ·rename_i it n e hit hu
  split at h
  ·rename_i z ie hz hie
   cases hc : z.cells.all (·.oneCell')
   ·rw [hc] at h; cases h
   ·rw [hc] at h
    simp only [cond_true, Option.some.injEq] at h
    subst h
    refine ⟨fun i => some (i * ie.size, ie.size), z, fun parts => by simp [Program.built, hit, hu, hz, hie], fun hp e => repC_ofS hp e _ fun v hv => (Array.all_eq_true_iff_forall_mem.1 hc) v (by simpa using hv), fun i o sz hp => ?_⟩
    obtain ⟨j, hj, h1, h2, _⟩ := plT_array hu hp
    rw [hie] at hj
    cases hj
    rw [h1, h2]
  ·cases h
 ·rename_i it fs hit hu
  split at h
  ·rename_i z ps hz hps
   cases hc : z.cells.all (·.oneCell')
   ·rw [hc] at h; cases h
   ·rw [hc] at h
    simp only [cond_true, Option.some.injEq] at h
    subst h
    refine ⟨(ps.toArray[·]?), z, fun parts => by simp [Program.built, hit, hu, hz, hps], fun hp e => repC_ofS hp e _ fun v hv => (Array.all_eq_true_iff_forall_mem.1 hc) v (by simpa using hv), fun i o sz hp => ?_⟩
    obtain ⟨f, j, hf, ho, hj, hsz, _⟩ := plT_struct hu hp
    have := mapM_get fs.toList ps hps i f (by simpa using hf) j hj
    simp [this, ho, hsz]
  ·cases h
 ·cases h
def bdF (P : Program) (T : Nat) : List (Nat × SD) → List SD → Option SD
 | [], z => some (.agg z)
 | (i, d) :: r, z => match plT P T i, cellsD d with
  | some (o, sz), some c => bif Nat.beq c.length sz && Nat.ble (o + sz) z.length then bdF P T r (z.take o ++ c ++ z.drop (o + sz)) else none
  | _, _ => none
theorem bdF_ok {P : Program} {T : Nat} {h : Hp} {e : Nm} {place : Nat → Option (Nat × Nat)} (hpl : ∀ i o sz, plT P T i = some (o, sz) → place i = some (o, sz)) :
  ∀ (l : List (Nat × SD)) (vs : List (Nat × Value)) (z : List SD) (cells : Array Value) (d : SD), bdF P T l z = some d → repC h z e cells.toList →
   (vs.map (·.1) = l.map (·.1)) → repT h (l.map (·.2)) e (vs.map (·.2)) → ∃ cells' : Array Value, Instr.fill place cells vs = some cells' ∧ rep h d e (.agg cells')
 | [], vs, z, cells, d, hd, hz, h1, _ => by
  have : vs = [] := by simpa using h1
  subst this
  simp only [bdF, Option.some.injEq] at hd
  subst hd
  exact ⟨cells, rfl, by simp only [rep]; exact ⟨cells.toList, by simp, hz⟩⟩
 | (i, x) :: r, vs, z, cells, d, hd, hz, h1, h2 => by
  cases vs with
  | nil => simp at h1
  | cons q vs =>
   obtain ⟨i', v⟩ := q
   simp only [List.map_cons, List.cons.injEq] at h1
   obtain ⟨rfl, h1⟩ := h1
   simp only [List.map_cons, repT] at h2
   obtain ⟨v', vs', hv, hx, h2⟩ := h2
   simp only [List.cons.injEq] at hv
   obtain ⟨rfl, rfl⟩ := hv
   simp only [bdF] at hd
   split at hd
   ·rename_i o sz c hp hc
    cases hb : (Nat.beq c.length sz && Nat.ble (o + sz) z.length)
    ·rw [hb] at hd; cases hd
    ·rw [hb] at hd
     simp only [cond_true] at hd
     simp only [Bool.and_eq_true] at hb
     have hb1 := Nat.eq_of_beq_eq_true hb.1
     have hb2 := Nat.le_of_ble_eq_true hb.2
     have hcv := cellsD_ok hc hx
     have hcl := repC_length hcv
     have hzl := repC_length hz
     obtain ⟨cells', g1, g2⟩ := fill_ok (place := place) (cells := cells) (i := i') (rest := vs) (v := v) (hpl _ _ _ hp) (by simp at hcl; omega) (by simp at hzl; omega)
     rw [g1]
     refine bdF_ok hpl r vs _ cells' d hd ?_ h1 h2
     rw [g2]
     exact repC_append (repC_append (repC_take o hz) hcv) (repC_drop _ hz)
   ·cases hd
def unG (s : St) (x : Operand) : SD := ungd (ev s x)
def sndG (s : St) : List (Nat × Operand) → List (Nat × SD)
 | [] => []
 | (i, x) :: r => (i, unG s x) :: sndG s r
def sndO : List (Nat × Operand) → List Operand
 | [] => []
 | (_, x) :: r => x :: sndO r
def bdD (P : Program) (s : St) (T : Nat) (parts : List (Nat × Operand)) : Option (List Prop × SD) :=
 match bdT P T with
 | some z => match bdF P T (sndG s parts) z with
  | some d => some (gCs s (sndO parts) [], d)
  | none => none
 | none => none
theorem run_bdD {P : Program} {F : List Nat} {w0 : Base} {s : St} {h : Hp} {e : Nm} {a : Act} {w : World} (D : Den F w0 s h e a w) {T : Nat} {parts : Array (Nat × Operand)} {p : List Prop} {d : SD}
  (hq : bdD P s T parts.toList = some (p, d)) (hp : allP p) : ∃ v, rep h d e v ∧ (Instr.build T (parts.map fun (i, x) => (i, a.eval x))).run P w = .ok v w := by
 unfold bdD at hq
 split at hq
 ·rename_i z hz
  split at hq
  ·rename_i d' hd
   simp only [Option.some.injEq, Prod.mk.injEq] at hq
   obtain ⟨rfl, rfl⟩ := hq
   obtain ⟨place, zv, h1, h2, h3⟩ := bdT_spec hz
   have hg := (allP_gCs hp).1
   have key : ∀ (l : List (Nat × Operand)), (∀ x ∈ sndO l, ∀ c d, ev s x = .gd c d → c = true) → (l.map fun (q : Nat × Operand) => (q.1, a.eval q.2)).map (·.1) = (sndG s l).map (·.1) ∧ repT h ((sndG s l).map (·.2)) e ((l.map fun (q : Nat × Operand) => (q.1, a.eval q.2)).map (·.2)) := by
    intro l
    induction l with
    | nil => intro _; simp [sndG, repT]
    | cons q r ih =>
     obtain ⟨i, x⟩ := q
     intro hl
     obtain ⟨g1, g2⟩ := ih fun y hy => hl y (by simp [sndO, hy])
     refine ⟨by simp [sndG] at g1 ⊢; exact g1, ?_⟩
     simp only [sndG, List.map_cons, repT]
     exact ⟨_, _, rfl, ungd_ok (D.ev x) (hl x (by simp [sndO])), by simpa using g2⟩
   obtain ⟨k1, k2⟩ := key parts.toList hg
   obtain ⟨cells, g1, g2⟩ := bdF_ok (h := h) (e := e) h3 (sndG s parts.toList) _ z zv.cells d' hd (h2 h e) k1 k2
   refine ⟨_, g2, run_build w T _ cells ?_⟩
   rw [h1]
   have : (parts.map fun (i, x) => (i, a.eval x)).toList = parts.toList.map fun (q : Nat × Operand) => (q.1, a.eval q.2) := by simp
   rw [this]
   exact g1
  ·cases hq
 ·cases hq
end Go.Sx
namespace Go.Sx
open Go.RowKit
def pC (d : SD) (cv b : Bool) (r : List Prop) : List Prop :=
 match d with
 | .gd c _ => (cv = b → c = true) :: r
 | _ => r
def pkD (c x y : SD) : Option (List Prop × SD) :=
 match ungd c with
 | .bool cv => match ungd x, ungd y with
  | .bool a, .bool b => some (gC c (pC x cv true (pC y cv false [])), .bool (bif cv then a else b))
  | _, _ => none
 | _ => none
def shD (op : BinOp) : SD → SD → Option (List Prop × SD)
 | .int k a, .int _ b => match op with
  | .shl => some ([0 ≤ b], .int k (shlI k a b))
  | .shr => some ([0 ≤ b], .int k (shrI k a b))
  | _ => none
 | _, _ => none
def dvD (op : BinOp) : SD → SD → Option (List Prop × SD)
 | .int j a, .int k b => if j = k then (match op with
  | .quo => some ([b ≠ 0], .int j (j.wrap (a.tdiv b)))
  | .rem => some ([b ≠ 0], .int j (a.tmod b))
  | _ => none) else none
 | _, _ => none
def bnD (P : Program) (T : Nat) (op : BinOp) (x y : SD) : Option (List Prop × SD) :=
 match op with
 | .shl | .shr => shD op x y
 | .quo | .rem => dvD op x y
 | _ => (binD P T op x y).map fun d => ([], d)
def AggEq (P : Program) (T : Nat) (l r : List SD) (t : Bool) : Prop := P.eqGuardType P.depth T = false ∧
 ∀ h e xs ys, repC h l e xs → repC h r e ys → ∀ w, (Op.equal T (.agg xs.toArray) (.agg ys.toArray)).run P w = .ok t w
def aeD (P : Program) (T : Nat) (op : BinOp) (l r : List SD) : Option (List Prop × SD) :=
 match eqL l r with
 | some t => match op with
  | .eql => some ([AggEq P T l r t], .bool t)
  | .neq => some ([AggEq P T l r t], .bool (!t))
  | _ => none
 | none => none
def adS (P : Program) (T : Nat) (op : BinOp) (a b : ByteArray) : Option (List Prop × SD) :=
 match op with
 | .add => some ([a.size + b.size ≤ 9223372036854775807], .str (a ++ b))
 | op => bnD P T op (.str a) (.str b)
def PtrT (P : Program) (T : Nat) : Prop := ∃ e, P.underlying T = some (.pointer e)
def ptrNil : SD → Option Bool
 | .loc .. => some false
 | .fp _ => some false
 | .aptr .. => some false
 | .nilp => some true
 | _ => none
def nlD (P : Program) (T : Nat) (op : BinOp) (x : SD) : Option (List Prop × SD) :=
 match op, ptrNil x with
 | .eql, some b => some ([PtrT P T], .bool b)
 | .neq, some b => some ([PtrT P T], .bool (!b))
 | _, _ => none
def slNil : SD → Option Bool
 | .nils => some true
 | .list _ (_ + 1) _ => some false
 | .vsl .. => some false
 | _ => none
def nsD (P : Program) (T : Nat) (op : BinOp) (x : SD) : Option (List Prop × SD) :=
 bif Nat.beq (kdT P T) 1 then
  match op, slNil x with
  | .eql, some b => some ([], .bool b)
  | .neq, some b => some ([], .bool (!b))
  | _, _ => none
 else none
def bn2 (P : Program) (T : Nat) (op : BinOp) (x y : SD) : Option (List Prop × SD) :=
 match x, y with
 | .agg l, .agg r => aeD P T op l r
 | .str a, .str b => adS P T op a b
 | x, .nilp => nlD P T op x
 | x, .nils => nsD P T op x
 | _, _ => bnD P T op x y
def ncD : SD → Option SD
 | .loc k o => some (.loc k o)
 | .fp l => some (.fp l)
 | .aptr k es i o => some (.aptr k es i o)
 | .fn f l => some (.fn f l)
 | _ => none
def exD : SD → Nat → Option SD
 | .tup l, i => match l.drop i with
  | d :: _ => some d
  | [] => none
 | _, _ => none
def cvD (P : Program) (S T : Nat) : SD → Option SD
 | .int _ n => bif Nat.beq (kdT P S) 0 then none else (ikT P T).map fun k => .int k (k.wrap n)
 | .str b => bif Nat.beq (kdT P S) 2 && Nat.beq (kdT P T) 2 then some (.str b) else none
 | _ => none
def ifD (P : Program) (T : Nat) (x : SD) : Option SD :=
 bif Nat.beq (kdT P T) 0 || Nat.beq (kdT P T) 8 then none else some (.iface T x)
def mnD (mx : Bool) : SD → SD → Option SD
 | .int k x, .int j y => if k = j then some (.int k (bif mx then (if y > x then y else x) else (if y < x then y else x))) else none
 | _, _ => none
def lnD (P : Program) (s : St) (T : Nat) (x : SD) : Option SD :=
 bif Nat.beq (kdT P T) 1 then (lenD s x).map fun (n : Nat) => SD.int .i64 (n : Int)
 else bif Nat.beq (kdT P T) 2 then match x with
  | .str b => some (.int .i64 b.size)
  | _ => none
 else none
def clD (P : Program) (s : St) (c : Callee) (l : List Operand) (ts : List Nat) : Option (List Prop × SD) :=
 match c, l, ts with
 | .builtin .len, [x], T :: _ => (lnD P s T (unG s x)).map fun d => (gCs s [x] [], d)
 | .builtin .min, [x, y], _ => (mnD false (unG s x) (unG s y)).map fun d => (gCs s [x, y] [], d)
 | .builtin .max, [x, y], _ => (mnD true (unG s x) (unG s y)).map fun d => (gCs s [x, y] [], d)
 | _, _, _ => none
def ptD (P : Program) (t o : Nat) (l : List SD) : Option SD := ldc P t (l.drop o)
def flD (P : Program) (T i : Nat) : SD → Option SD
 | .agg l => match plT P T i, ftT P T i with
  | some (o, _), some t => ptD P t o l
  | _, _ => none
 | _ => none
def ixD (P : Program) (T : Nat) : SD → SD → Option (List Prop × SD)
 | .str b, .int _ i => bif Nat.beq (kdT P T) 2 then some ([0 ≤ i, i < (b.size : Int)], .int .u8 ((b.data.toList.getD i.toNat 0).toNat : Int)) else none
 | .agg l, .int _ i => match lnT P T, elT P T, plT P T i.toNat with
  | some n, some t, some (o, _) => (ptD P t o l).map fun d => ([0 ≤ i, i < (n : Int)], d)
  | _, _, _ => none
 | _, _ => none
def slD (P : Program) (T : Nat) (x : SD) (lo hi : Option SD) : Option (List Prop × SD) :=
 match x with
 | .list es n f => bif Nat.beq (kdT P T) 1 then
   match elT P T with
   | some t => bif Nat.beq es (szT P t) && Nat.ble 1 es then
     match lo, hi with
     | none, none => some ([], .list es n f)
     | some (.int _ a), none => some ([0 ≤ a, a ≤ (n : Int)], .list es (n - a.toNat) fun j => f (a.toNat + j))
     | none, some (.int _ b) => some ([0 ≤ b, b ≤ (n : Int)], .list es b.toNat f)
     | some (.int _ a), some (.int _ b) => some ([0 ≤ a, a ≤ b, b ≤ (n : Int)], .list es (b.toNat - a.toNat) fun j => f (a.toNat + j))
     | _, _ => none
    else none
   | none => none
  else none
 | .str s => bif Nat.beq (kdT P T) 2 then
   match lo, hi with
   | none, none => some ([], .str s)
   | some (.int _ a), none => some ([0 ≤ a, a ≤ (s.size : Int)], .str (s.extract a.toNat s.size))
   | none, some (.int _ b) => some ([0 ≤ b, b ≤ (s.size : Int)], .str (s.extract 0 b.toNat))
   | some (.int _ a), some (.int _ b) => some ([0 ≤ a, a ≤ b, b ≤ (s.size : Int)], .str (s.extract a.toNat b.toNat))
   | _, _ => none
  else none
 | .loc k off => bif Nat.beq (kdT P T) 4 then
   match lnT P T, elT P T, lo, hi with
   | some n, some t, none, none => bif Nat.ble 1 n && Nat.ble n maxN && Nat.ble 1 (szT P t) then some ([], .vsl k off n n) else none
   | _, _, _, _ => none
  else none
 | _ => none
def withG (s : St) (l : List Operand) : Option (List Prop × SD) → Option (List Prop × SD)
 | some (p, d) => some (gCs s l p, d)
 | none => none
def qv (P : Program) (s : St) : Op → Option (List Prop × SD)
 | .move x => some ([], ev s x)
 | .assign x => some ([], ev s x)
 | .pick c x y => pkD (ev s c) (ev s x) (ev s y)
 | .load T x => match atD s (unG s x) with
  | some l => match ldc P T l with
   | some d => some (gCs s [x] [], d)
   | none => none
  | none => none
 | .fieldAddr T x i => match faD P T i (unG s x) with
  | some d => some (gCs s [x] [], d)
  | none => none
 | .field T x i => match flD P T i (unG s x) with
  | some d => some (gCs s [x] [], d)
  | none => none
 | .indexAddr T x i => match unG s i with
  | .int _ n => withG s [x, i] (iaD P s T (unG s x) n)
  | _ => none
 | .index T x i => withG s [x, i] (ixD P T (unG s x) (unG s i))
 | .binOp op T x y _ => withG s [x, y] (bn2 P T op (unG s x) (unG s y))
 | .unOp op _ x => match unD op (unG s x) with
  | some d => some (gCs s [x] [], d)
  | none => none
 | .nilCheck x => match ncD (unG s x) with
  | some d => some (gCs s [x] [], d)
  | none => none
 | .extract x i => match exD (unG s x) i with
  | some d => some (gCs s [x] [], d)
  | none => none
 | .convert S T x => match cvD P S T (unG s x) with
  | some d => some (gCs s [x] [], d)
  | none => none
 | .makeInterface T x => match ifD P T (unG s x) with
  | some d => some (gCs s [x] [], d)
  | none => none
 | .makeFunc (.func f) first caps => bif Nat.beq first.size 0 then some ([], .fn f (caps.toList.map (ev s))) else (bif Nat.beq caps.size 0 then some ([], .bfn (.func f) (first.toList.map (ev s))) else none)
 | .makeFunc (.method nm) first caps => bif Nat.beq caps.size 0 then some ([], .bfn (.method nm) (first.toList.map (ev s))) else none
 | .build T parts => bdD P s T parts.toList
 | .slice T x lo hi none => withG s ([x] ++ lo.toList ++ hi.toList) (slD P T (unG s x) (lo.map (unG s)) (hi.map (unG s)))
 | .call c => clD P s c.callee c.args.toList c.argTypes.toList
 | _ => none
section
variable {P : Program} {F : List Nat} {w0 : Base} {s : St} {h : Hp} {e : Nm} {a : Act} {w : World}
theorem Den.unG (D : Den F w0 s h e a w) {x : Operand} {l : List Operand} {r : List Prop} (hv : allP (gCs s l r)) (hx : x ∈ l) : rep h (unG s x) e (a.eval x) :=
 ungd_ok (D.ev x) fun c d hc => (allP_gCs hv).1 x hx c d hc
theorem pC_spec {d : SD} {cv b : Bool} {r : List Prop} (hp : allP (pC d cv b r)) : (∀ c d', d = .gd c d' → cv = b → c = true) ∧ allP r := by
 cases d <;> simp only [pC, allP] at hp
 case gd c d' => exact ⟨(fun c' d'' hc hb => by cases hc; exact hp.1 hb), hp.2⟩
 all_goals exact ⟨(fun c' d'' hc => by cases hc), hp⟩
theorem gC_spec {d : SD} {r : List Prop} (hp : allP (gC d r)) : (∀ c d', d = .gd c d' → c = true) ∧ allP r := by
 cases d <;> simp only [gC, allP] at hp
 case gd c d' => exact ⟨(fun c' d'' hc => by cases hc; exact hp.1), hp.2⟩
 all_goals exact ⟨(fun c' d'' hc => by cases hc), hp⟩
theorem run_ptD {t o : Nat} {l : List SD} {vs : List Value} {d : SD} (hr : repC h l e vs) (hd : ptD P t o l = some d) :
  ∃ v, rep h d e v ∧ ∀ w : World, (part t vs.toArray o).run P w = .ok v w := by
 unfold ptD ldc at hd
 have hr' := repC_drop o hr
 split at hd
 ·rename_i ha
  cases hb : (Nat.ble 1 (szT P t) && Nat.ble (szT P t) (l.drop o).length)
  ·rw [hb] at hd; cases hd
  ·rw [hb] at hd
   simp only [cond_true, Option.some.injEq] at hd
   subst hd
   simp only [Bool.and_eq_true] at hb
   have h1 := Nat.le_of_ble_eq_true hb.1
   obtain ⟨m, hm⟩ : ∃ m, szT P t = m + 1 := ⟨szT P t - 1, by omega⟩
   obtain ⟨i, hi, hsz⟩ := info_of_szT hm
   refine ⟨.agg ((vs.drop o).take (szT P t)).toArray, by simp only [rep]; exact ⟨_, rfl, repC_take _ hr'⟩, fun w => ?_⟩
   have hx : vs.toArray.extract o (o + (m + 1)) = ((vs.drop o).take (m + 1)).toArray := by
    apply Array.ext'
    simp [List.extract_eq_take_drop]
   simp [part, run_isAgg ha, sizeOf, typeInfo, hi, hsz, hm]
 ·rename_i ha
  cases hl : l.drop o with
  | nil => rw [hl] at hd; cases hd
  | cons d' r =>
   rw [hl] at hd hr'
   simp only [Option.some.injEq] at hd
   subst hd
   obtain ⟨v, vs', h1, h2, h3⟩ := repC_head hr'
   refine ⟨v, h3, fun w => ?_⟩
   have : vs[o]? = some v := by
    have := congrArg (·[0]?) h1
    simpa using this
   simp [part, run_isAgg ha, this]
 ·cases hd
theorem run_pkD {c x y d : SD} {p : List Prop} {vc vx vy : Value} (hc : rep h c e vc) (hx : rep h x e vx) (hy : rep h y e vy) (hd : pkD c x y = some (p, d)) (hp : allP p) :
  ∃ b, vc = .bool b ∧ rep h d e (if b then vx else vy) := by
 unfold pkD at hd
 split at hd
 ·rename_i cv hcv
  split at hd
  ·rename_i a b hxa hyb
   simp only [Option.some.injEq, Prod.mk.injEq] at hd
   obtain ⟨rfl, rfl⟩ := hd
   obtain ⟨h0, hp⟩ := gC_spec hp
   replace hc := ungd_ok hc h0
   rw [hcv] at hc
   simp only [rep] at hc
   subst hc
   obtain ⟨h1, hp2⟩ := pC_spec hp
   obtain ⟨h2, _⟩ := pC_spec hp2
   refine ⟨cv, rfl, ?_⟩
   cases cv
   ·have := ungd_ok hy fun c d' hc => h2 c d' hc rfl
    rw [hyb] at this
    simpa using this
   ·have := ungd_ok hx fun c d' hc => h1 c d' hc rfl
    rw [hxa] at this
    simpa using this
  ·cases hd
 ·cases hd
theorem run_shD {T : Nat} {op : BinOp} {x y d : SD} {p : List Prop} (hd : shD op x y = some (p, d)) (hp : allP p) (w : World) (va vb : Value) (ha : rep h x e va) (hb : rep h y e vb) (X Y : Operand) :
  ∃ v, rep h d e v ∧ (do eqGuard op T X Y va vb; binOp op T va vb : Sem Value).run P w = .ok v w := by
 unfold shD at hd
 split at hd
 ·rename_i k a j b
  simp only [rep] at ha hb
  subst ha hb
  split at hd
  ·simp only [Option.some.injEq, Prod.mk.injEq] at hd
   obtain ⟨rfl, rfl⟩ := hd
   simp only [allP] at hp
   have : ¬ b < 0 := by omega
   simp [rep, eqGuard, binOp, Op.shift, this, shlI, shrI]
  ·simp only [Option.some.injEq, Prod.mk.injEq] at hd
   obtain ⟨rfl, rfl⟩ := hd
   simp only [allP] at hp
   have : ¬ b < 0 := by omega
   simp [rep, eqGuard, binOp, Op.shift, this, shlI, shrI]
  ·cases hd
 ·cases hd
theorem run_dvD {T : Nat} {op : BinOp} {x y d : SD} {p : List Prop} (hd : dvD op x y = some (p, d)) (hp : allP p) (w : World) (va vb : Value) (ha : rep h x e va) (hb : rep h y e vb) (X Y : Operand) :
  ∃ v, rep h d e v ∧ (do eqGuard op T X Y va vb; binOp op T va vb : Sem Value).run P w = .ok v w := by
 unfold dvD at hd
 split at hd
 ·rename_i k a j b
  simp only [rep] at ha hb
  subst ha hb
  split at hd
  ·rename_i hjk
   subst hjk
   split at hd
   ·simp only [Option.some.injEq, Prod.mk.injEq] at hd
    obtain ⟨rfl, rfl⟩ := hd
    simp only [allP] at hp
    simp [rep, eqGuard, binOp, Op.intDiv, hp.1]
   ·simp only [Option.some.injEq, Prod.mk.injEq] at hd
    obtain ⟨rfl, rfl⟩ := hd
    simp only [allP] at hp
    simp [rep, eqGuard, binOp, Op.intDiv, hp.1]
   ·cases hd
  ·cases hd
 ·cases hd
theorem run_bnD {T : Nat} {op : BinOp} {x y d : SD} {p : List Prop} (hd : bnD P T op x y = some (p, d)) (hp : allP p) (w : World) (va vb : Value) (ha : rep h x e va) (hb : rep h y e vb) (X Y : Operand) :
  ∃ v, rep h d e v ∧ (do eqGuard op T X Y va vb; binOp op T va vb : Sem Value).run P w = .ok v w := by
 have key : ∀ op, (binD P T op x y).map (fun d => (([] : List Prop), d)) = some (p, d) → ∃ v, rep h d e v ∧ (do eqGuard op T X Y va vb; binOp op T va vb : Sem Value).run P w = .ok v w := fun op hd => by
  cases hq : binD P T op x y with
  | none => rw [hq] at hd; cases hd
  | some d' =>
   rw [hq] at hd
   simp only [Option.map_some, Option.some.injEq, Prod.mk.injEq] at hd
   obtain ⟨_, rfl⟩ := hd
   exact run_binD hq w h e va vb ha hb X Y
 cases op <;> simp only [bnD] at hd <;> first
  | exact run_shD hd hp w va vb ha hb X Y
  | exact run_dvD hd hp w va vb ha hb X Y
  | exact key _ hd
theorem run_aeD {T : Nat} {op : BinOp} {l r : List SD} {d : SD} {p : List Prop} (hd : aeD P T op l r = some (p, d)) (hp : allP p) (w : World) (va vb : Value) (ha : rep h (.agg l) e va) (hb : rep h (.agg r) e vb) (X Y : Operand) :
  ∃ v, rep h d e v ∧ (do eqGuard op T X Y va vb; binOp op T va vb : Sem Value).run P w = .ok v w := by
 unfold aeD at hd
 simp only [rep] at ha hb
 obtain ⟨xs, rfl, h1⟩ := ha
 obtain ⟨ys, rfl, h2⟩ := hb
 split at hd
 ·rename_i t _
  split at hd
  ·simp only [Option.some.injEq, Prod.mk.injEq] at hd
   obtain ⟨rfl, rfl⟩ := hd
   obtain ⟨⟨g1, g2⟩, _⟩ := hp
   refine ⟨.bool t, by simp only [rep], ?_⟩
   simp [run_eqGuard_agg w _ T X Y _ _ g1, binOp, g2 h e xs ys h1 h2]
  ·simp only [Option.some.injEq, Prod.mk.injEq] at hd
   obtain ⟨rfl, rfl⟩ := hd
   obtain ⟨⟨g1, g2⟩, _⟩ := hp
   refine ⟨.bool (!t), by simp only [rep], ?_⟩
   simp [run_eqGuard_agg w _ T X Y _ _ g1, binOp, g2 h e xs ys h1 h2]
  ·cases hd
 ·cases hd
theorem run_nlD {T : Nat} {op : BinOp} {x d : SD} {p : List Prop} (hd : nlD P T op x = some (p, d)) (hp : allP p) (w : World) (va vb : Value) (ha : rep h x e va) (hb : rep h .nilp e vb) (X Y : Operand) :
  ∃ v, rep h d e v ∧ (do eqGuard op T X Y va vb; binOp op T va vb : Sem Value).run P w = .ok v w := by
 simp only [rep] at hb
 subst hb
 have hx : ∀ b, ptrNil x = some b → ∃ p, va = .pointer p ∧ p.isNone = b := fun b hb => by
  cases x <;> simp only [ptrNil, Option.some.injEq, reduceCtorEq] at hb <;> subst hb <;> simp only [rep] at ha
  ·obtain ⟨ad, _, _, _, rfl, _⟩ := ha; exact ⟨_, rfl, rfl⟩
  ·exact ⟨_, ha, rfl⟩
  ·exact ⟨_, ha, rfl⟩
  ·obtain ⟨_, _, _, _, _, rfl⟩ := ha; exact ⟨_, rfl, rfl⟩
 unfold nlD at hd
 split at hd
 ·rename_i b hb
  simp only [Option.some.injEq, Prod.mk.injEq] at hd
  obtain ⟨rfl, rfl⟩ := hd
  obtain ⟨⟨te, ht⟩, _⟩ := hp
  have ht' : P.underlying T = some (.pointer (P.pointee T)) := by simp [Program.pointee, ht]
  obtain ⟨q, rfl, rfl⟩ := hx b hb
  refine ⟨.bool q.isNone, by simp only [rep], ?_⟩
  have := run_eql_pointer_nil w T q ht'
  simp [eqGuard, this]
 ·rename_i b hb
  simp only [Option.some.injEq, Prod.mk.injEq] at hd
  obtain ⟨rfl, rfl⟩ := hd
  obtain ⟨⟨te, ht⟩, _⟩ := hp
  have ht' : P.underlying T = some (.pointer (P.pointee T)) := by simp [Program.pointee, ht]
  obtain ⟨q, rfl, rfl⟩ := hx b hb
  refine ⟨.bool (!q.isNone), by simp only [rep], ?_⟩
  have := run_neq_pointer_nil w T q ht'
  simp [eqGuard, this]
 ·cases hd
theorem run_nsD {T : Nat} {op : BinOp} {x d : SD} {p : List Prop} (hd : nsD P T op x = some (p, d)) (w : World) (va vb : Value) (ha : rep h x e va) (hb : rep h .nils e vb) (X Y : Operand) :
  ∃ v, rep h d e v ∧ (do eqGuard op T X Y va vb; binOp op T va vb : Sem Value).run P w = .ok v w := by
 simp only [rep] at hb
 subst hb
 have hx : ∀ b, slNil x = some b → ∃ a l c, va = .slice a l c ∧ a.isNone = b := fun b hb => by
  cases x <;> simp only [slNil, Option.some.injEq, reduceCtorEq] at hb
  ·rename_i es n f
   cases n with
   | zero => cases hb
   | succ n =>
    simp only [Option.some.injEq] at hb
    subst hb
    simp only [rep] at ha
    obtain ⟨a, cap, rfl, _, _, h4⟩ := ha
    obtain ⟨ad, _, _, _, rfl, _⟩ := h4 (by omega)
    exact ⟨_, _, _, rfl, rfl⟩
  ·subst hb
   simp only [rep] at ha
   exact ⟨_, _, _, ha, rfl⟩
  ·subst hb
   simp only [rep] at ha
   exact ⟨_, _, _, ha.1, rfl⟩
 unfold nsD at hd
 cases hk : Nat.beq (kdT P T) 1
 ·rw [hk] at hd; cases hd
 ·rw [hk] at hd
  simp only [cond_true] at hd
  obtain ⟨te, hu⟩ := und1 hk
  split at hd
  ·rename_i b hb
   simp only [Option.some.injEq, Prod.mk.injEq] at hd
   obtain ⟨rfl, rfl⟩ := hd
   obtain ⟨a, l, c, rfl, rfl⟩ := hx b hb
   refine ⟨.bool a.isNone, by simp only [rep], ?_⟩
   simp [eqGuard, binOp, run_equal_slice_nil w T te a l c hu]
  ·rename_i b hb
   simp only [Option.some.injEq, Prod.mk.injEq] at hd
   obtain ⟨rfl, rfl⟩ := hd
   obtain ⟨a, l, c, rfl, rfl⟩ := hx b hb
   refine ⟨.bool (!a.isNone), by simp only [rep], ?_⟩
   simp [eqGuard, run_neq_slice_nil w T te a l c hu]
  ·cases hd
theorem run_bn2 {T : Nat} {op : BinOp} {x y d : SD} {p : List Prop} (hd : bn2 P T op x y = some (p, d)) (hp : allP p) (w : World) (va vb : Value) (ha : rep h x e va) (hb : rep h y e vb) (X Y : Operand) :
  ∃ v, rep h d e v ∧ (do eqGuard op T X Y va vb; binOp op T va vb : Sem Value).run P w = .ok v w := by
 unfold bn2 at hd
 split at hd
 ·exact run_aeD hd hp w va vb ha hb X Y
 ·rename_i a b
  unfold adS at hd
  split at hd
  ·simp only [Option.some.injEq, Prod.mk.injEq] at hd
   obtain ⟨rfl, rfl⟩ := hd
   simp only [rep] at ha hb
   subst ha hb
   refine ⟨.string (a ++ b), by simp only [rep], ?_⟩
   simp only [eqGuard, binOp]
   exact run_string_add_sum w a b hp.1
  ·exact run_bnD hd hp w _ _ ha hb X Y
 ·exact run_nlD hd hp w va vb ha hb X Y
 ·exact run_nsD hd w va vb ha hb X Y
 ·exact run_bnD hd hp w va vb ha hb X Y
theorem run_flD {T i : Nat} {x d : SD} {v : Value} (hx : rep h x e v) (hd : flD P T i x = some d) : ∃ u, rep h d e u ∧ ∀ w : World, (Instr.field T v i).run P w = .ok u w := by
 unfold flD at hd
 split at hd
 ·rename_i l
  split at hd
  ·rename_i o z t hp ht
   simp only [rep] at hx
   obtain ⟨vs, rfl, hr⟩ := hx
   obtain ⟨u, h1, h2⟩ := run_ptD hr hd
   refine ⟨u, h1, fun w => ?_⟩
   unfold ftT at ht
   cases hu : P.underlying T with
   | none => rw [hu] at ht; cases ht
   | some du =>
    rw [hu] at ht
    cases du <;> try (cases ht; done)
    rename_i fs
    obtain ⟨f, j, hf, ho, _⟩ := plT_struct hu hp
    simp only [hf, Option.map_some, Option.some.injEq] at ht
    subst ht
    simp [Instr.field, run_underlying hu, hf, asAgg, ho, h2]
  ·cases hd
 ·cases hd
theorem run_ixD {T : Nat} {x i d : SD} {p : List Prop} {v vi : Value} (hx : rep h x e v) (hi : rep h i e vi) (hd : ixD P T x i = some (p, d)) (hp : allP p) :
  ∃ u, rep h d e u ∧ ∀ w : World, (Instr.index T v vi).run P w = .ok u w := by
 unfold ixD at hd
 split at hd
 ·rename_i b k n
  simp only [rep] at hx hi
  subst hx hi
  cases hk : Nat.beq (kdT P T) 2
  ·rw [hk] at hd; cases hd
  ·rw [hk] at hd
   simp only [cond_true, Option.some.injEq, Prod.mk.injEq] at hd
   obtain ⟨rfl, rfl⟩ := hd
   simp only [allP] at hp
   obtain ⟨h0, h1, _⟩ := hp
   have hlt : n.toNat < b.size := by omega
   refine ⟨.int .u8 ((b.data.toList.getD n.toNat 0).toNat : Int), by simp only [rep], fun w => ?_⟩
   have hget : b[n.toNat]? = some b[n.toNat] := by simp [getElem?_pos, hlt]
   have htl : b.data.toList.getD n.toNat 0 = b[n.toNat] := by
    rw [List.getD_eq_getElem?_getD]
    have h3 : n.toNat < b.data.toList.length := by simpa using hlt
    rw [List.getElem?_eq_getElem h3]
    rfl
   simp [Instr.index, asIntOf, run_underlying (und2 hk), h0, hget, -List.getD_eq_getElem?_getD, -Array.getD_eq_getD_getElem?, htl]
 ·rename_i l k n
  simp only [rep] at hi
  subst hi
  split at hd
  ·rename_i m t o z hm ht hpl
   cases hq : ptD P t o l with
   | none => rw [hq] at hd; cases hd
   | some d' =>
    rw [hq] at hd
    simp only [Option.map_some, Option.some.injEq, Prod.mk.injEq] at hd
    obtain ⟨rfl, rfl⟩ := hd
    simp only [allP] at hp
    obtain ⟨h0, h1, _⟩ := hp
    simp only [rep] at hx
    obtain ⟨vs, rfl, hr⟩ := hx
    obtain ⟨u, g1, g2⟩ := run_ptD hr hq
    refine ⟨u, g1, fun w => ?_⟩
    unfold lnT at hm
    cases hu : P.underlying T with
    | none => rw [hu] at hm; cases hm
    | some du =>
     rw [hu] at hm
     cases du <;> try (cases hm; done)
     rename_i m' t'
     simp only [Option.some.injEq] at hm
     subst hm
     have htt : t = t' := by unfold elT at ht; rw [hu] at ht; simp at ht; exact ht.symm
     subst htt
     obtain ⟨j, hj, ho, _⟩ := plT_array hu hpl
     subst ho
     simp [Instr.index, asIntOf, run_underlying hu, h0, h1, sizeOf, typeInfo, hj, g2]
  ·cases hd
 ·cases hd
end
end Go.Sx
namespace Go.Sx
open Go.RowKit
section
variable {P : Program} {F : List Nat} {w0 : Base} {s : St} {h : Hp} {e : Nm} {a : Act} {w : World}
theorem rep_slice {es n : Nat} {f : Nat → SD} {ao : Option Addr} {m cap : Nat} (hx : rep h (.list es n f) e (.slice ao m cap)) (i j : Nat) (hij : i ≤ j) (hj : j ≤ n) :
  rep h (.list es (j - i) fun k => f (i + k)) e (.slice (if cap = i then ao else ao.map (·.add (i * es))) (j - i) (cap - i)) := by
 simp only [rep] at hx ⊢
 obtain ⟨a', c', h1, h2, h3, h4⟩ := hx
 cases h1
 refine ⟨_, _, rfl, by omega, ⟨by omega, by omega⟩, fun hn => ?_⟩
 obtain ⟨ad, cs, T, fr, rfl, g2, g3, g4⟩ := h4 (by omega)
 rw [if_neg (by omega)]
 obtain ⟨b, off, sp⟩ := ad
 simp only at g2
 subst g2
 refine ⟨⟨b, off + i * es, none⟩, cs, T, fr, by simp [Addr.add_mid], rfl, g3, fun k hk => ?_⟩
 obtain ⟨u, u1, u2, u3⟩ := g4 (i + k) (by omega)
 exact ⟨u, u1, by rw [u2]; congr 1; simp only [Nat.add_mul]; omega, u3⟩
theorem run_slice_bounds {cap a b : Nat} {lo hi : Option Value} {n : Nat} (w : World) (isS : Bool)
  (hl : (lo = none ∧ a = 0) ∨ ∃ k, lo = some (.int k (a : Int))) (hh : (hi = none ∧ b = n) ∨ ∃ k, hi = some (.int k (b : Int))) (hab : a ≤ b) (hbc : b ≤ cap) :
  (Instr.sliceBounds isS n cap lo hi none).run P w = .ok (a, b, cap) w := by
 rcases hl with ⟨rfl, rfl⟩ | ⟨k, rfl⟩ <;> rcases hh with ⟨rfl, rfl⟩ | ⟨k', rfl⟩
 ·simp [Instr.sliceBounds]
 ·simp [Instr.sliceBounds, Instr.sliceBound, asIntOf, hbc]
 ·simp [Instr.sliceBounds, Instr.sliceBound, asIntOf, hab]
 ·simp [Instr.sliceBounds, Instr.sliceBound, asIntOf, hab, hbc]
theorem slice_key {T es n : Nat} {f : Nat → SD} {x : Value} (hx : rep h (.list es n f) e x) {t : Nat} (hu : P.underlying T = some (.slice t)) (hes : es = szT P t) (he1 : 1 ≤ es)
  {lo hi : Option Value} {i j : Nat} (hl : (lo = none ∧ i = 0) ∨ ∃ k, lo = some (.int k (i : Int))) (hh : (hi = none ∧ j = n) ∨ ∃ k, hi = some (.int k (j : Int))) (hij : i ≤ j) (hj : j ≤ n) (w : World) :
  ∃ v, rep h (.list es (j - i) fun k => f (i + k)) e v ∧ (Instr.sliceAt T x lo hi none).run P w = .ok v w := by
 have hx' := hx
 simp only [rep] at hx'
 obtain ⟨ao, cap, rfl, h2, h3, _⟩ := hx'
 refine ⟨_, rep_slice hx i j hij hj, ?_⟩
 have hb := run_slice_bounds (P := P) (cap := cap) (n := n) w true hl hh hij (by omega)
 obtain ⟨m, hm⟩ : ∃ m, szT P t = m + 1 := ⟨szT P t - 1, by omega⟩
 obtain ⟨ti, hi', hs⟩ := info_of_szT hm
 have : es = ti.size := by rw [hes, hm, hs]
 simp [Instr.sliceAt, Instr.slice, run_underlying hu, hb, sizeOf, typeInfo, hi', this]
theorem slice_key_str {T : Nat} {b : ByteArray} (hu : P.underlying T = some .string) {lo hi : Option Value} {i j : Nat}
  (hl : (lo = none ∧ i = 0) ∨ ∃ k, lo = some (.int k (i : Int))) (hh : (hi = none ∧ j = b.size) ∨ ∃ k, hi = some (.int k (j : Int))) (hij : i ≤ j) (hj : j ≤ b.size) (w : World) :
  (Instr.sliceAt T (.string b) lo hi none).run P w = .ok (.string (b.extract i j)) w := by
 have hb := run_slice_bounds (P := P) (cap := b.size) (n := b.size) w false hl hh hij hj
 simp [Instr.sliceAt, Instr.slice, run_underlying hu, hb]
theorem run_slD {T : Nat} {x d : SD} {lo hi : Option SD} {vlo vhi : Option Value} {p : List Prop} {v : Value} (hx : rep h x e v)
  (hlo : ∀ y, lo = some y → ∃ u, vlo = some u ∧ rep h y e u) (hlon : lo = none → vlo = none)
  (hhi : ∀ y, hi = some y → ∃ u, vhi = some u ∧ rep h y e u) (hhin : hi = none → vhi = none)
  (hd : slD P T x lo hi = some (p, d)) (hp : allP p) (w : World) :
  ∃ u, rep h d e u ∧ (Instr.sliceAt T v vlo vhi none).run P w = .ok u w := by
 have ilo : ∀ k n, lo = some (.int k n) → vlo = some (.int k n) := fun k n hl => by
  obtain ⟨u, h1, h2⟩ := hlo _ hl
  simp only [rep] at h2
  rw [h1, h2]
 have ihi : ∀ k n, hi = some (.int k n) → vhi = some (.int k n) := fun k n hl => by
  obtain ⟨u, h1, h2⟩ := hhi _ hl
  simp only [rep] at h2
  rw [h1, h2]
 unfold slD at hd
 split at hd
 ·rename_i es n f
  cases hk : Nat.beq (kdT P T) 1
  ·rw [hk] at hd; cases hd
  ·rw [hk] at hd
   simp only [cond_true] at hd
   obtain ⟨t, hu⟩ := und1 hk
   split at hd
   ·rename_i t' ht
    have := elT_slice hu ht
    subst this
    cases hb : (Nat.beq es (szT P t') && Nat.ble 1 es)
    ·rw [hb] at hd; cases hd
    ·rw [hb] at hd
     simp only [cond_true] at hd
     simp only [Bool.and_eq_true] at hb
     have he := Nat.eq_of_beq_eq_true hb.1
     have he1 := Nat.le_of_ble_eq_true hb.2
     split at hd
     ·simp only [Option.some.injEq, Prod.mk.injEq] at hd
      obtain ⟨rfl, rfl⟩ := hd
      have := slice_key (P := P) hx hu he he1 (lo := vlo) (hi := vhi) (i := 0) (j := n) (.inl ⟨hlon rfl, rfl⟩) (.inl ⟨hhin rfl, rfl⟩) (by omega) (by omega) w
      simpa using this
     ·rename_i k a
      simp only [Option.some.injEq, Prod.mk.injEq] at hd
      obtain ⟨rfl, rfl⟩ := hd
      simp only [allP] at hp
      obtain ⟨i, rfl⟩ := Int.eq_ofNat_of_zero_le hp.1
      exact slice_key (P := P) hx hu he he1 (lo := vlo) (hi := vhi) (i := i) (j := n) (.inr ⟨k, ilo _ _ rfl⟩) (.inl ⟨hhin rfl, rfl⟩) (by omega) (by omega) w
     ·rename_i k b
      simp only [Option.some.injEq, Prod.mk.injEq] at hd
      obtain ⟨rfl, rfl⟩ := hd
      simp only [allP] at hp
      obtain ⟨j, rfl⟩ := Int.eq_ofNat_of_zero_le hp.1
      have := slice_key (P := P) hx hu he he1 (lo := vlo) (hi := vhi) (i := 0) (j := j) (.inl ⟨hlon rfl, rfl⟩) (.inr ⟨k, ihi _ _ rfl⟩) (by omega) (by omega) w
      simpa using this
     ·rename_i k a k' b
      simp only [Option.some.injEq, Prod.mk.injEq] at hd
      obtain ⟨rfl, rfl⟩ := hd
      simp only [allP] at hp
      obtain ⟨i, rfl⟩ := Int.eq_ofNat_of_zero_le hp.1
      obtain ⟨j, rfl⟩ := Int.eq_ofNat_of_zero_le (show 0 ≤ b by omega)
      exact slice_key (P := P) hx hu he he1 (lo := vlo) (hi := vhi) (i := i) (j := j) (.inr ⟨k, ilo _ _ rfl⟩) (.inr ⟨k', ihi _ _ rfl⟩) (by omega) (by omega) w
     ·cases hd
   ·cases hd
 ·rename_i b
  cases hk : Nat.beq (kdT P T) 2
  ·rw [hk] at hd; cases hd
  ·rw [hk] at hd
   simp only [cond_true] at hd
   have hu := und2 hk
   simp only [rep] at hx
   subst hx
   split at hd
   ·simp only [Option.some.injEq, Prod.mk.injEq] at hd
    obtain ⟨rfl, rfl⟩ := hd
    refine ⟨.string b, by simp only [rep], (slice_key_str hu (i := 0) (j := b.size) (.inl ⟨hlon rfl, rfl⟩) (.inl ⟨hhin rfl, rfl⟩) (by omega) (by omega) w).trans (by simp)⟩
   ·rename_i k a
    simp only [Option.some.injEq, Prod.mk.injEq] at hd
    obtain ⟨rfl, rfl⟩ := hd
    simp only [allP] at hp
    obtain ⟨i, rfl⟩ := Int.eq_ofNat_of_zero_le hp.1
    exact ⟨_, by simp only [rep]; rfl, slice_key_str hu (i := i) (j := b.size) (.inr ⟨k, ilo _ _ rfl⟩) (.inl ⟨hhin rfl, rfl⟩) (by omega) (by omega) w⟩
   ·rename_i k a
    simp only [Option.some.injEq, Prod.mk.injEq] at hd
    obtain ⟨rfl, rfl⟩ := hd
    simp only [allP] at hp
    obtain ⟨j, rfl⟩ := Int.eq_ofNat_of_zero_le hp.1
    exact ⟨_, by simp only [rep]; rfl, slice_key_str hu (i := 0) (j := j) (.inl ⟨hlon rfl, rfl⟩) (.inr ⟨k, ihi _ _ rfl⟩) (by omega) (by omega) w⟩
   ·rename_i k a k' b'
    simp only [Option.some.injEq, Prod.mk.injEq] at hd
    obtain ⟨rfl, rfl⟩ := hd
    simp only [allP] at hp
    obtain ⟨i, rfl⟩ := Int.eq_ofNat_of_zero_le hp.1
    obtain ⟨j, rfl⟩ := Int.eq_ofNat_of_zero_le (show 0 ≤ b' by omega)
    exact ⟨_, by simp only [rep]; rfl, slice_key_str hu (i := i) (j := j) (.inr ⟨k, ilo _ _ rfl⟩) (.inr ⟨k', ihi _ _ rfl⟩) (by omega) (by omega) w⟩
   ·cases hd
 ·rename_i k off
  cases hk : Nat.beq (kdT P T) 4
  ·rw [hk] at hd; cases hd
  ·rw [hk] at hd
   simp only [cond_true] at hd
   obtain ⟨n, t, hu⟩ := und4 hk
   split at hd
   ·rename_i n' t' hn ht
    have hnn : n' = n := by unfold lnT at hn; rw [hu] at hn; simp at hn; exact hn.symm
    subst hnn
    have htt : t' = t := by unfold elT at ht; rw [hu] at ht; simp at ht; exact ht.symm
    subst htt
    cases hb : (Nat.ble 1 n' && Nat.ble n' maxN && Nat.ble 1 (szT P t'))
    ·rw [hb] at hd; cases hd
    ·rw [hb] at hd
     simp only [cond_true, Option.some.injEq, Prod.mk.injEq] at hd
     obtain ⟨rfl, rfl⟩ := hd
     simp only [Bool.and_eq_true] at hb
     have b1 := Nat.le_of_ble_eq_true hb.1.1
     have b2 := Nat.le_of_ble_eq_true hb.1.2
     have b3 := Nat.le_of_ble_eq_true hb.2
     obtain ⟨m, hm⟩ : ∃ m, szT P t' = m + 1 := ⟨szT P t' - 1, by omega⟩
     obtain ⟨j, hi', hs⟩ := info_of_szT hm
     simp only [rep] at hx
     subst hx
     have h1 := hlon rfl
     have h2 := hhin rfl
     subst h1 h2
     refine ⟨.slice (some ⟨e.bs k, off, none⟩) n' n', by simp only [rep, true_and]; exact ⟨Nat.le_refl _, Nat.le_trans b2 (by simp [maxN, maxLen]), b2⟩, ?_⟩
     have h0 : n' ≠ 0 := by omega
     simp [Instr.sliceAt, run_underlying hu, Instr.sureAddr, Instr.sliceBounds, sizeOf, typeInfo, hi', Addr.add_mid]
   ·cases hd
 ·cases hd
theorem run_lnD (D : Den F w0 s h e a w) {T : Nat} {x d : SD} {v : Value} {ts : List Nat} {ty : Nat} (hx : rep h x e v) (hd : lnD P s T x = some d) :
  ∃ u, rep h d e u ∧ (Builtin.len_ (T :: ts).toArray ty #[v]).run P w = .ok u w := by
 unfold lnD at hd
 cases hk : Nat.beq (kdT P T) 1
 ·rw [hk] at hd
  simp only [cond_false] at hd
  cases hk2 : Nat.beq (kdT P T) 2
  ·rw [hk2] at hd; cases hd
  ·rw [hk2] at hd
   simp only [cond_true] at hd
   split at hd
   ·simp only [Option.some.injEq] at hd
    subst hd
    simp only [rep] at hx
    subst hx
    exact ⟨_, by simp only [rep]; rfl, by simp [Builtin.len_, run_underlying (und2 hk2), goInt]⟩
   ·cases hd
 ·rw [hk] at hd
  simp only [cond_true] at hd
  obtain ⟨t, hu⟩ := und1 hk
  have key : ∀ ao n c, v = .slice ao n c → lenD s x = some n → ∃ u, rep h d e u ∧ (Builtin.len_ (T :: ts).toArray ty #[v]).run P w = .ok u w := fun ao n c hv hn => by
   rw [hn] at hd
   simp only [Option.map_some, Option.some.injEq] at hd
   subst hd
   subst hv
   exact ⟨_, by simp only [rep]; rfl, by simp [Builtin.len_, run_underlying hu, goInt]⟩
  cases x <;> simp only [lenD, Option.map_none, reduceCtorEq] at hd
  case lng n f => simp only [rep] at hx; obtain ⟨ao, cap, hv, _⟩ := hx; exact key ao n cap hv rfl
  case list es n f =>
   simp only [rep] at hx
   obtain ⟨ao, cap, hv, _⟩ := hx
   exact key ao n cap hv rfl
  case nils =>
   simp only [rep] at hx
   exact key none 0 0 hx rfl
  case vsl k off n c =>
   simp only [rep] at hx
   exact key _ n c hx.1 rfl
  case accH k n =>
   simp only [rep] at hx
   obtain ⟨_, ao, c, hx2⟩ := hx
   exact key ao n c hx2 rfl
  case acc k =>
   split at hd
   ·rename_i T' es n f ho
    simp only [rep] at hx
    obtain ⟨hx1, ao, m, c, hx2⟩ := hx
    obtain ⟨xs, g1, _⟩ := D.own _ _ ho
    have : m = n := by
     rcases g1.2 with ⟨hv, hn0⟩ | ⟨g, cap, cur, hv, _⟩
     ·rw [← hx1, hx2] at hv; cases hv; exact hn0.symm
     ·rw [← hx1, hx2] at hv; cases hv; rfl
    subst this
    exact key ao m c hx2 (by simp [lenD, ho])
   ·rename_i md ml ho
    cases hlv : lvN md with
    | none => rw [hlv] at hd; cases hd
    | some p =>
     obtain ⟨es, n⟩ := p
     simp only [rep] at hx
     obtain ⟨hx1, ao, m, c, hx2⟩ := hx
     obtain ⟨Ta, xs, g1, _⟩ := lvN_ok hlv (D.own _ _ ho)
     have : m = n := by
      rcases g1.2 with ⟨hv, hn0⟩ | ⟨g, cap, cur, hv, _⟩
      ·rw [← hx1, hx2] at hv; cases hv; exact hn0.symm
      ·rw [← hx1, hx2] at hv; cases hv; rfl
     subst this
     exact key ao m c hx2 (by simp [lenD, ho, hlv])
   ·cases hd
theorem run_mnD {mx : Bool} {x y d : SD} {vx vy : Value} (hx : rep h x e vx) (hy : rep h y e vy) (hd : mnD mx x y = some d) (w : World) :
  ∃ u, rep h d e u ∧ ((if mx then Builtin.max2 else Builtin.min2) vx vy).run P w = .ok u w := by
 unfold mnD at hd
 split at hd
 ·split at hd
  ·rename_i hk
   subst hk
   simp only [Option.some.injEq] at hd
   subst hd
   simp only [rep] at hx hy
   subst hx hy
   cases mx <;> exact ⟨_, by simp only [rep]; rfl, by simp [Builtin.max2, Builtin.min2]⟩
  ·cases hd
 ·cases hd
theorem repT_map {l : List Operand} (D : Den F w0 s h e a w) : repT h (l.map (ev s)) e (l.map a.eval) := by
 induction l with
 | nil => simp [repT]
 | cons x r ih => simp only [List.map_cons, repT]; exact ⟨_, _, rfl, D.ev x, ih⟩
theorem repT_drop {h : Hp} {e : Nm} : ∀ (n : Nat) {l : List SD} {vs : List Value}, repT h l e vs → repT h (l.drop n) e (vs.drop n)
 | 0, _, _, x => by simpa using x
 | n + 1, [], _, x => by simp only [repT] at x; subst x; simp [repT]
 | n + 1, d :: r, _, x => by
  simp only [repT] at x
  obtain ⟨v, vs', rfl, _, h3⟩ := x
  simpa using repT_drop n h3
theorem exD_spec {x d : SD} {i : Nat} (hd : exD x i = some d) : ∃ l r, x = .tup l ∧ l.drop i = d :: r := by
 cases x <;> simp only [exD, reduceCtorEq] at hd
 rename_i l
 cases hl : l.drop i with
 | nil => rw [hl] at hd; cases hd
 | cons d0 r =>
  rw [hl] at hd
  simp only [Option.some.injEq] at hd
  subst hd
  exact ⟨l, r, rfl, hl⟩
theorem withG_spec {l : List Operand} {q : Option (List Prop × SD)} {p : List Prop} {d : SD} (hq : withG s l q = some (p, d)) : ∃ p', q = some (p', d) ∧ p = gCs s l p' := by
 cases q with
 | none => cases hq
 | some x =>
  obtain ⟨p', d'⟩ := x
  simp only [withG, Option.some.injEq, Prod.mk.injEq] at hq
  obtain ⟨rfl, rfl⟩ := hq
  exact ⟨p', rfl, rfl⟩
theorem qv_ok (D : Den F w0 s h e a w) {op : Op} {p : List Prop} {d : SD} (hq : qv P s op = some (p, d)) (hp : allP p) (dst : Option Tmp) (ty : Nat) (pos : String) (af : Array Edge) (g : Option (Nat × Bool)) :
  ∃ v, rep h d e v ∧ (execOp a.eval ⟨dst, op, ty, pos, af, g⟩).run P w = .ok (.value v) w := by
 have wrap : ∀ {S : Sem Value}, (∃ v, rep h d e v ∧ S.run P w = .ok v w) → ∃ v, rep h d e v ∧ (do pure (Next.value (← S)) : Sem Next).run P w = .ok (.value v) w := fun ⟨v, h1, h2⟩ => ⟨v, h1, by simp [h2]⟩
 cases op <;> simp only [qv, reduceCtorEq] at hq
 case move x =>
  simp only [Option.some.injEq, Prod.mk.injEq] at hq
  obtain ⟨rfl, rfl⟩ := hq
  exact ⟨_, D.ev x, by simp [execOp]⟩
 case assign x =>
  simp only [Option.some.injEq, Prod.mk.injEq] at hq
  obtain ⟨rfl, rfl⟩ := hq
  exact ⟨_, D.ev x, by simp [execOp]⟩
 case pick c x y =>
  obtain ⟨b, h1, h2⟩ := run_pkD (D.ev c) (D.ev x) (D.ev y) hq hp
  refine ⟨_, h2, ?_⟩
  simp only [execOp]
  rw [h1]
  cases b <;> simp [asBool]
 case load T x =>
  split at hq
  ·rename_i l hl
   split at hq
   ·rename_i d' hd
    simp only [Option.some.injEq, Prod.mk.injEq] at hq
    obtain ⟨rfl, rfl⟩ := hq
    obtain ⟨b, o, vs, h1, h2, h3⟩ := D.at (D.unG hp (List.mem_singleton_self x)) hl
    simp only [execOp]
    rw [h1]
    exact wrap (run_ldc h2 h3 hd)
   ·cases hq
  ·cases hq
 case fieldAddr T x i =>
  split at hq
  ·rename_i d' hd
   simp only [Option.some.injEq, Prod.mk.injEq] at hq
   obtain ⟨rfl, rfl⟩ := hq
   obtain ⟨u, h1, h2⟩ := run_faD (D.unG hp (List.mem_singleton_self x)) hd
   simp only [execOp]
   exact wrap ⟨u, h1, h2 w⟩
  ·cases hq
 case field T x i =>
  split at hq
  ·rename_i d' hd
   simp only [Option.some.injEq, Prod.mk.injEq] at hq
   obtain ⟨rfl, rfl⟩ := hq
   obtain ⟨u, h1, h2⟩ := run_flD (D.unG hp (List.mem_singleton_self x)) hd
   simp only [execOp]
   exact wrap ⟨u, h1, h2 w⟩
  ·cases hq
 case indexAddr T x i =>
  split at hq
  ·rename_i k n hi
   obtain ⟨p', hd, rfl⟩ := withG_spec hq
   have hx := D.unG hp (show x ∈ [x, i] by simp)
   have hiv := D.unG hp (show i ∈ [x, i] by simp)
   rw [hi] at hiv
   simp only [rep] at hiv
   simp only [execOp]
   rw [hiv]
   exact wrap (run_iaD D hx hd (allP_gCs hp).2)
  ·cases hq
 case index T x i =>
  obtain ⟨p', hd, rfl⟩ := withG_spec hq
  obtain ⟨u, h1, h2⟩ := run_ixD (D.unG hp (show x ∈ [x, i] by simp)) (D.unG hp (show i ∈ [x, i] by simp)) hd (allP_gCs hp).2
  simp only [execOp]
  exact wrap ⟨u, h1, h2 w⟩
 case binOp op T x y yT =>
  obtain ⟨p', hd, rfl⟩ := withG_spec hq
  obtain ⟨u, h1, h2⟩ := run_bn2 (P := P) hd (allP_gCs hp).2 w _ _ (D.unG hp (show x ∈ [x, y] by simp)) (D.unG hp (show y ∈ [x, y] by simp)) x y
  simp only [execOp]
  exact wrap ⟨u, h1, h2⟩
 case unOp op T x =>
  split at hq
  ·rename_i d' hd
   simp only [Option.some.injEq, Prod.mk.injEq] at hq
   obtain ⟨rfl, rfl⟩ := hq
   simp only [execOp]
   exact wrap (run_unD hd w h e _ (D.unG hp (List.mem_singleton_self x)))
  ·cases hq
 case nilCheck x =>
  split at hq
  ·rename_i d' hd
   simp only [Option.some.injEq, Prod.mk.injEq] at hq
   obtain ⟨rfl, rfl⟩ := hq
   have hx := D.unG hp (List.mem_singleton_self x)
   unfold ncD at hd
   simp only [execOp]
   split at hd <;> simp only [Option.some.injEq, reduceCtorEq] at hd <;> subst hd <;> rename_i hu <;> rw [hu] at hx <;> have hx' := hx <;> simp only [rep] at hx'
   ·rw [hx'] at hx ⊢
    exact ⟨_, hx, rfl⟩
   ·obtain ⟨ad, cs, T, fr, hv, _⟩ := hx'
    rw [hv] at hx ⊢
    exact ⟨_, hx, rfl⟩
   ·obtain ⟨b, n, c, _, _, hv⟩ := hx'
    rw [hv] at hx ⊢
    exact ⟨_, hx, rfl⟩
   ·obtain ⟨vs, hv, _⟩ := hx'
    rw [hv] at hx ⊢
    exact ⟨_, hx, rfl⟩
  ·cases hq
 case extract x i =>
  split at hq
  ·rename_i d' hd
   simp only [Option.some.injEq, Prod.mk.injEq] at hq
   obtain ⟨rfl, rfl⟩ := hq
   have hx := D.unG hp (List.mem_singleton_self x)
   obtain ⟨l, r, hu, hl⟩ := exD_spec hd
   rw [hu] at hx
   simp only [rep] at hx
   obtain ⟨vs, hv, hr⟩ := hx
   have hr' := repT_drop i hr
   rw [hl] at hr'
   simp only [repT] at hr'
   obtain ⟨v, vs', g1, g2, _⟩ := hr'
   have : vs[i]? = some v := by
    have := congrArg (·[0]?) g1
    simpa using this
   refine ⟨v, g2, ?_⟩
   simp only [execOp]
   rw [hv]
   simp [Instr.extract, this]
  ·cases hq
 case convert S T x =>
  split at hq
  ·rename_i d' hd
   simp only [Option.some.injEq, Prod.mk.injEq] at hq
   obtain ⟨rfl, rfl⟩ := hq
   have hx := D.unG hp (List.mem_singleton_self x)
   simp only [execOp]
   refine wrap ?_
   unfold cvD at hd
   split at hd
   ·rename_i k n hu
    rw [hu] at hx
    simp only [rep] at hx
    rw [hx]
    cases hk : Nat.beq (kdT P S) 0
    ·rw [hk] at hd
     simp only [cond_false] at hd
     have hS : ∃ dd, P.underlying S = some dd := by
      cases hS : P.underlying S with
      | some dd => exact ⟨dd, rfl⟩
      | none => simp [kdT, hS] at hk
     obtain ⟨dd, hS⟩ := hS
     unfold ikT at hd
     cases hT : P.underlying T with
     | none => rw [hT] at hd; cases hd
     | some du =>
      rw [hT] at hd
      cases du <;> try (cases hd; done)
      simp only [Option.map_some, Option.some.injEq] at hd
      subst hd
      refine ⟨_, by simp only [rep]; rfl, ?_⟩
      simp [Go.convert, run_underlying hS, run_underlying hT, Conv.intToInt]
    ·rw [hk] at hd; cases hd
   ·rename_i b hu
    rw [hu] at hx
    simp only [rep] at hx
    rw [hx]
    cases hk : (Nat.beq (kdT P S) 2 && Nat.beq (kdT P T) 2)
    ·rw [hk] at hd; cases hd
    ·rw [hk] at hd
     simp only [cond_true, Option.some.injEq] at hd
     subst hd
     simp only [Bool.and_eq_true] at hk
     refine ⟨_, by simp only [rep]; rfl, ?_⟩
     simp [Go.convert, run_underlying (und2 hk.1), run_underlying (und2 hk.2)]
   ·cases hd
  ·cases hq
 case makeInterface T x =>
  split at hq
  ·rename_i d' hd
   simp only [Option.some.injEq, Prod.mk.injEq] at hq
   obtain ⟨rfl, rfl⟩ := hq
   have hx := D.unG hp (List.mem_singleton_self x)
   simp only [execOp]
   refine wrap ?_
   unfold ifD at hd
   cases hk : (Nat.beq (kdT P T) 0 || Nat.beq (kdT P T) 8)
   ·rw [hk] at hd
    simp only [cond_false, Option.some.injEq] at hd
    subst hd
    refine ⟨.iface T (a.eval x), by simp only [rep]; exact ⟨_, rfl, hx⟩, ?_⟩
    cases hT : P.underlying T with
    | none => simp [kdT, hT] at hk
    | some du => cases du <;> simp [kdT, hT] at hk <;> simp [Instr.makeInterface, run_underlying hT]
   ·rw [hk] at hd; cases hd
  ·cases hq
 case makeFunc fn first caps =>
  have hbf : ∀ fn : Fn, (bif Nat.beq caps.size 0 then some (([] : List Prop), SD.bfn fn (first.toList.map (ev s))) else none) = some (p, d) → ∃ u, rep h d e u ∧ (execOp a.eval ⟨dst, .makeFunc fn first caps, ty, pos, af, g⟩).run P w = .ok (.value u) w := fun fn hq => by
   cases hb : Nat.beq caps.size 0
   ·rw [hb] at hq; cases hq
   ·rw [hb] at hq
    simp only [cond_true, Option.some.injEq, Prod.mk.injEq] at hq
    obtain ⟨rfl, rfl⟩ := hq
    have h0 : caps = #[] := Array.eq_empty_of_size_eq_zero (Nat.eq_of_beq_eq_true hb)
    subst h0
    refine ⟨.func fn (first.toList.map a.eval).toArray #[], by simp only [rep]; exact ⟨_, rfl, repT_map D⟩, ?_⟩
    simp only [execOp, Instr.makeFunc]
    have : first.map a.eval = (first.toList.map a.eval).toArray := by apply Array.ext'; simp
    simp [this]
  cases fn <;> simp only [reduceCtorEq] at hq
  case method nm => exact hbf _ hq
  rename_i f
  cases hb : Nat.beq first.size 0
  ·rw [hb] at hq
   exact hbf _ hq
  ·rw [hb] at hq
   simp only [cond_true, Option.some.injEq, Prod.mk.injEq] at hq
   obtain ⟨rfl, rfl⟩ := hq
   have h0 : first = #[] := Array.eq_empty_of_size_eq_zero (Nat.eq_of_beq_eq_true hb)
   subst h0
   refine ⟨.func (.func f) #[] (caps.toList.map a.eval).toArray, by simp only [rep]; exact ⟨_, rfl, repT_map D⟩, ?_⟩
   simp only [execOp, Instr.makeFunc]
   have : caps.map a.eval = (caps.toList.map a.eval).toArray := by apply Array.ext'; simp
   simp [this]
 case build T parts =>
  simp only [execOp]
  exact wrap (run_bdD D hq hp)
 case slice T x lo hi mx =>
  cases mx <;> simp only [reduceCtorEq] at hq
  obtain ⟨p', hd, rfl⟩ := withG_spec hq
  simp only [execOp]
  refine wrap ?_
  refine run_slD (P := P) (D.unG hp (show x ∈ _ by simp)) ?_ ?_ ?_ ?_ hd (allP_gCs hp).2 w
  ·intro y hy
   cases lo with
   | none => cases hy
   | some z => simp only [Option.map_some, Option.some.injEq] at hy; subst hy; exact ⟨_, rfl, D.unG hp (show z ∈ _ by simp)⟩
  ·intro hn; cases lo <;> simp_all
  ·intro y hy
   cases hi with
   | none => cases hy
   | some z => simp only [Option.map_some, Option.some.injEq] at hy; subst hy; exact ⟨_, rfl, D.unG hp (show z ∈ _ by simp)⟩
  ·intro hn; cases hi <;> simp_all
 case call c =>
  obtain ⟨cl, args, tys⟩ := c
  obtain ⟨args⟩ := args
  obtain ⟨tys⟩ := tys
  simp only at hq
  unfold clD at hq
  split at hq
  ·rename_i x T ts
   cases hd : lnD P s T (Sx.unG s x) with
   | none => rw [hd] at hq; cases hq
   | some d' =>
    rw [hd] at hq
    simp only [Option.map_some, Option.some.injEq, Prod.mk.injEq] at hq
    obtain ⟨rfl, rfl⟩ := hq
    obtain ⟨u, h1, h2⟩ := run_lnD (P := P) (ts := ts) (ty := ty) D (D.unG hp (List.mem_singleton_self x)) hd
    refine ⟨u, h1, ?_⟩
    simp only [execOp, resolve, invoke, builtin]
    simp [h2]
  ·rename_i ts x y
   cases hd : mnD false (Sx.unG s x) (Sx.unG s y) with
   | none => rw [hd] at hq; cases hq
   | some d' =>
    rw [hd] at hq
    simp only [Option.map_some, Option.some.injEq, Prod.mk.injEq] at hq
    obtain ⟨rfl, rfl⟩ := hq
    obtain ⟨u, h1, h2⟩ := run_mnD (P := P) (D.unG hp (show x ∈ [x, y] by simp)) (D.unG hp (show y ∈ [x, y] by simp)) hd w
    refine ⟨u, h1, ?_⟩
    simp only [Bool.false_eq_true, if_false] at h2
    simp [execOp, resolve, invoke, builtin, Builtin.min_, h2]
  ·rename_i ts x y
   cases hd : mnD true (Sx.unG s x) (Sx.unG s y) with
   | none => rw [hd] at hq; cases hq
   | some d' =>
    rw [hd] at hq
    simp only [Option.map_some, Option.some.injEq, Prod.mk.injEq] at hq
    obtain ⟨rfl, rfl⟩ := hq
    obtain ⟨u, h1, h2⟩ := run_mnD (P := P) (D.unG hp (show x ∈ [x, y] by simp)) (D.unG hp (show y ∈ [x, y] by simp)) hd w
    refine ⟨u, h1, ?_⟩
    simp only [if_true] at h2
    simp [execOp, resolve, invoke, builtin, Builtin.max_, h2]
  ·cases hq
end
end Go.Sx
namespace Go.Sx
open Go.RowKit
inductive It where
 | code (c : Code)
 | blk (id : Nat)
 | lp (I : Act → World → Prop)
def fe : Option Nat → Fence
 | none => Fence.wide
 | some l => Fence.wide.inRound l
theorem fe_fn (r : Option Nat) (f : FuncId) : (fe r).fn f := by cases r <;> trivial
theorem fe_dp (r : Option Nat) : (fe r).depth.isSome = true → 1 ≤ 0 := by cases r <;> (intro h; cases h)
theorem fe_round (r : Option Nat) : (fe r).round = r := by cases r <;> rfl
theorem calls_fe {r : Option Nat} {n : Nat} {P : Program} {f : FuncId} {args : Array Value} {w : World} {R : Ending → World → Prop} (h : Calls P f args w R) : CallsIn (fe r) n P f args w R := by
 cases r with
 | none => exact callsIn_wide.2 h
 | some l => exact CallsIn.inRound l (callsIn_wide.2 h)
theorem rowsIn_fe {r : Option Nat} {n : Nat} {P : Program} {row : String} {args : Array Value} {w : World} {R : Value → World → Prop} (h : Rows P row args w R) : RowsIn (fe r) n P row args w R := by
 have h0 : RowsIn Fence.wide n P row args w R := fun c cs _ => let ⟨v, w', r, s⟩ := h c cs; ⟨v, w', r, stepsIn_wide.2 s⟩
 cases r with
 | none => exact h0
 | some l => exact h0
def post (P : Program) (rd : Option Nat) (fin : Exit → Act → World → Prop) : List It → Exit → Act → World → Prop
 | [], e, a, w => fin e a w
 | .code c :: k, .normal, a, w => c.wpIn (fe rd) 0 P (post P rd fin k) a w
 | .code _ :: k, e, a, w => post P rd fin k e a w
 | .blk _ :: k, .normal, a, w => post P rd fin k .normal a w
 | .blk id :: k, .exit j, a, w => if j = id then post P rd fin k .normal a w else post P rd fin k (.exit j) a w
 | .blk _ :: k, e, a, w => post P rd fin k e a w
 | .lp I :: _, .normal, a, w => I a w
 | .lp _ :: k, e, a, w => post P rd fin k e a w
def wpS (P : Program) (ops : Array Oper) (Q : Exit → Act → World → Prop) : List Oper → Act → World → Prop
 | [], a, w => Q .normal a w
 | o :: rest, a, w => if Region.wanted o (yielded ops a.tmps) then o.wp P a w (wpS P ops Q rest) Q ∨ ∀ r, o.wpIn (fe r) 0 P a w (wpS P ops Q rest) Q else wpS P ops Q rest (a.put o.dst undef) w
def notDef (o : Oper) : Bool := match o.op with
 | .defer _ => false
 | _ => true
def noDef : List Oper → Bool
 | [] => true
 | o :: r => notDef o && noDef r
section
variable {P : Program} {ops : Array Oper} {Q : Exit → Act → World → Prop} {a : Act} {w : World} {rest : List Oper} {o : Oper}
theorem wpS_nil (h : Q .normal a w) : wpS P ops Q [] a w := h
theorem wpS_step (h : ∀ K : Act → World → Prop, (∀ a w, wpS P ops Q rest a w → K a w) → if Region.wanted o (yielded ops a.tmps) then o.wp P a w K Q else K (a.put o.dst undef) w) : wpS P ops Q (o :: rest) a w := by
 have := h _ fun _ _ h => h
 simp only [wpS]
 split
 ·rename_i hw; rw [if_pos hw] at this; exact .inl this
 ·rename_i hw; rw [if_neg hw] at this; exact this
theorem wpS_in1 (hg : o.guard = none) (h : ∀ K : Act → World → Prop, (∀ a w, wpS P ops Q rest a w → K a w) → ∀ r, o.wpIn (fe r) 0 P a w K Q) : wpS P ops Q (o :: rest) a w := by
 simp only [wpS, Region.wanted, hg, if_true]
 exact .inr (h _ fun _ _ h => h)
theorem wpS_plain (hg : o.guard = none) (h : ∀ K : Act → World → Prop, (∀ a w, wpS P ops Q rest a w → K a w) → o.wp P a w K Q) : wpS P ops Q (o :: rest) a w :=
 wpS_step fun K hK => by simp only [Region.wanted, hg, if_true]; exact h K hK
theorem opIn {r : Option Nat} {K K' : Act → World → Prop} (hd : notDef o = true) (hK : ∀ a w, K a w → K' a w) (h : o.wp P a w K Q) : o.wpIn (fe r) 0 P a w K' Q := by
 refine ⟨fun f _ => fe_fn r f, ?_⟩
 have hs : o.semAt (fe r).round a.eval = execOp a.eval o := Oper.semAt_eq _ _ _ fun c hc => by simp [notDef, hc] at hd
 rw [hs]
 unfold Oper.wp at h
 generalize (execOp a.eval o).run P w = res at h
 cases res with
 | ok x w' =>
  cases x <;> simp only [Oper.upon, Oper.uponIn] at h ⊢
  case value v => exact hK _ _ h
  case skip => exact hK _ _ h
  case defer d => exact hK _ _ h
  case enter f args => exact ⟨fe_dp r, calls_fe (h.mono fun e w'' he => by cases e <;> first | exact hK _ _ he | exact he)⟩
  all_goals first
   | exact h.elim
   | exact ⟨fe_dp r, rowsIn_fe (h.mono fun v w'' he => hK _ _ he)⟩
 | halt x w' => cases x <;> simp only [Oper.upon, Oper.uponIn] at h ⊢ <;> first | exact h | exact h.elim
theorem wpS_in {r : Option Nat} : ∀ {l : List Oper} {a : Act} {w : World}, noDef l = true → wpS P ops Q l a w → wpListIn (fe r) 0 P ops Q l a w
 | [], _, _, _, h => h
 | o :: rest, a, w, hd, h => by
  simp only [noDef, Bool.and_eq_true] at hd
  simp only [wpS] at h
  simp only [wpListIn]
  split
  ·rename_i hw
   rw [if_pos hw] at h
   rcases h with h | h
   ·exact opIn hd.1 (fun a w => wpS_in hd.2) h
   ·exact Oper.wpIn_mono (fun a w => wpS_in hd.2) (h r)
  ·rename_i hw
   rw [if_neg hw] at h
   exact ⟨fun f _ => fe_fn r f, wpS_in hd.2 h⟩
def wpOpS (P : Program) (ops : Array Oper) (Q : Exit → Act → World → Prop) (i : Nat) (K : Act → World → Prop) (a : Act) (w : World) : Prop :=
 match ops[i]? with
 | none => K a w
 | some o => if Region.wanted o (yielded ops a.tmps) then o.wp P a w K Q else K (a.put o.dst undef) w
def wpAnyS (P : Program) (md : Region.Mode) (ops : Array Oper) (Q : Exit → Act → World → Prop) : Nat → Array Bool → Act → World → Prop
 | 0, listed, a, w => Region.ready md ops listed = [] ∧ Q .normal a w
 | fuel + 1, listed, a, w =>
  (Region.ready md ops listed = [] → Q .normal a w) ∧
  ∀ i ∈ Region.ready md ops listed, wpOpS P ops Q i (wpAnyS P md ops Q fuel (listed.setIfInBounds i true)) a w
theorem noDef_get : ∀ {l : List Oper} {i : Nat} {o : Oper}, noDef l = true → l[i]? = some o → notDef o = true
 | [], _, _, _, h => by simp at h
 | x :: r, 0, o, hd, h => by
  simp only [noDef, Bool.and_eq_true] at hd
  simp only [List.getElem?_cons_zero, Option.some.injEq] at h
  rw [← h]; exact hd.1
 | x :: r, i + 1, o, hd, h => by
  simp only [noDef, Bool.and_eq_true] at hd
  exact noDef_get hd.2 (by simpa using h)
theorem wpAnyS_in {r : Option Nat} {md : Region.Mode} {l : List Oper} (hd : noDef l = true) : ∀ {fuel : Nat} {listed : Array Bool} {a : Act} {w : World}, wpAnyS P md l.toArray Q fuel listed a w → wpAnyIn (fe r) 0 P md l.toArray Q fuel listed a w
 | 0, _, _, _, h => h
 | fuel + 1, listed, a, w, h => by
  refine ⟨h.1, fun i hi => ?_⟩
  have h2 := h.2 i hi
  unfold wpOpS at h2
  unfold wpOpIn
  cases ho : l.toArray[i]? with
  | none => rw [ho] at h2; exact wpAnyS_in hd h2
  | some o =>
   rw [ho] at h2
   simp only at h2 ⊢
   split
   ·rename_i hw
    rw [if_pos hw] at h2
    exact opIn (noDef_get hd (by simpa using ho)) (fun a w => wpAnyS_in hd) h2
   ·rename_i hw
    rw [if_neg hw] at h2
    exact ⟨fun f _ => fe_fn r f, wpAnyS_in hd h2⟩
end
section
variable {P : Program} {F : List Nat} {w0 : Base} {fin : Exit → Act → World → Prop} {k : List It} {s : St}
def Run (P : Program) (F : List Nat) (w0 : Base) (fin : Exit → Act → World → Prop) (k : List It) (s : St) : Prop :=
 ∀ h e a w, Den F w0 s h e a w → post P w0.rd fin k .normal a w
def RunL (P : Program) (F : List Nat) (w0 : Base) (ops : Array Oper) (Q : Exit → Act → World → Prop) (l : List Oper) (s : St) : Prop :=
 ∀ h e a w, Den F w0 s h e a w → wpS P ops Q l a w
theorem zG (h : Run P F w0 fin k s) : Run P F w0 fin (.code .skip :: k) s := fun _ _ _ _ D => wpIn_skip (h _ _ _ _ D)
theorem zC {a b : Code} (h : Run P F w0 fin (.code a :: .code b :: k) s) : Run P F w0 fin (.code (.seq a b) :: k) s := fun h' e a' w D => by
 have := h h' e a' w D
 refine wpIn_seq ?_
 have e : (Exit.then (b.wpIn (fe w0.rd) 0 P (post P w0.rd fin k)) (post P w0.rd fin k)) = post P w0.rd fin (.code b :: k) := by
  funext e a w
  cases e <;> rfl
 rw [e]
 exact this
theorem zD {id : Nat} {c : Code} (h : Run P F w0 fin (.code c :: .blk id :: k) s) : Run P F w0 fin (.code (.block id c) :: k) s := fun h' e a' w D => by
 have := h h' e a' w D
 refine wpIn_block ?_
 have e : (Exit.inBlock id (post P w0.rd fin k)) = post P w0.rd fin (.blk id :: k) := by
  funext e a w
  cases e <;> rfl
 rw [e]
 exact this
theorem zL {id : Nat} (h : Run P F w0 fin k s) : Run P F w0 fin (.blk id :: k) s := h
theorem zE {c : Operand} {x y : Code} {t : Bool} (hc : ev s c = .bool t) (h1 : t = true → Run P F w0 fin (.code x :: k) s) (h2 : t = false → Run P F w0 fin (.code y :: k) s) : Run P F w0 fin (.code (.cond c x y) :: k) s := fun h e a w D => by
 have := D.ev c
 rw [hc] at this
 simp only [rep] at this
 exact wpIn_cond_split this (fun ht => h1 ht _ _ _ _ D) (fun ht => h2 ht _ _ _ _ D)
def exitK (id : Nat) : List It → Option (List It)
 | .blk j :: k => bif Nat.beq j id then some k else exitK id k
 | _ :: k => exitK id k
 | [] => none
theorem post_exit {rd : Option Nat} {id : Nat} {a : Act} {w : World} : ∀ {k k' : List It}, exitK id k = some k' → post P rd fin k' .normal a w → post P rd fin k (.exit id) a w
 | [], _, h, _ => by cases h
 | .code _ :: k, _, h, x => by simp only [exitK] at h; exact post_exit (k := k) h x
 | .lp _ :: k, _, h, x => by simp only [exitK] at h; exact post_exit (k := k) h x
 | .blk j :: k, _, h, x => by
  simp only [exitK] at h
  cases hb : Nat.beq j id
  ·rw [hb] at h
   have : ¬ id = j := fun hc => bne_of hb hc.symm
   simp only [post, this, if_false]
   exact post_exit (k := k) h x
  ·rw [hb] at h
   have := Nat.eq_of_beq_eq_true hb
   subst this
   simp only [cond_true, Option.some.injEq] at h
   subst h
   simp only [post, if_true]
   exact x
theorem zK {id : Nat} {k' : List It} (hk : exitK id k = some k') (h : Run P F w0 fin k' s) : Run P F w0 fin (.code (.exit id) :: k) s := fun _ _ _ _ D => wpIn_exit (post_exit hk (h _ _ _ _ D))
theorem post_ret {rd : Option Nat} {a : Act} {w : World} : ∀ {k : List It}, fin .ret a w → post P rd fin k .ret a w
 | [], x => x
 | .code _ :: k, x => post_ret (k := k) x
 | .lp _ :: k, x => post_ret (k := k) x
 | .blk _ :: k, x => post_ret (k := k) x
theorem zA {id : Nat} {l : List Oper} (hnd : noDef l = true) (h : RunL P F w0 l.toArray (post P w0.rd fin k) l s) : Run P F w0 fin (.code (.region id l.toArray false) :: k) s := fun _ _ _ _ D => wpIn_region_lit (wpS_in hnd (h _ _ _ _ D))
theorem zB {ops : Array Oper} (h : Run P F w0 fin k s) : RunL P F w0 ops (post P w0.rd fin k) [] s := fun _ _ _ _ D => wpS_nil (h _ _ _ _ D)
end
section
variable {P : Program} {F : List Nat} {w0 : Base} {Q : Exit → Act → World → Prop} {s : St} {ops : Array Oper} {rest : List Oper}
theorem blt_lt {a b : Nat} (h : Nat.blt a b = true) : a < b := Nat.le_of_ble_eq_true h
def qstep (P : Program) (s : St) (t : Nat) (op : Op) : Option (List Prop × St) :=
 match qv P s op with
 | some (p, d) => bif Nat.blt t s.n then some (p, s.put t d) else none
 | none => none
theorem upon_ok {o : Oper} {a : Act} {w : World} {v : Value} {K : Act → World → Prop} (h : (execOp a.eval o).run P w = .ok (.value v) w) (hk : K (a.put o.dst v) w) : o.wp P a w K Q := by
 unfold Oper.wp
 rw [h]
 exact hk
theorem stepq {t : Nat} {op : Op} {ty : Nat} {pos : String} {af : Array Edge} {p : List Prop} {s' : St} (hq : qstep P s t op = some (p, s')) (hp : allP p)
  (hn : RunL P F w0 ops Q rest s') : RunL P F w0 ops Q (⟨some t, op, ty, pos, af, none⟩ :: rest) s := fun h e a w D => by
 unfold qstep at hq
 split at hq
 ·rename_i p' d hq'
  cases hb : Nat.blt t s.n
  ·rw [hb] at hq; cases hq
  ·rw [hb] at hq
   simp only [cond_true, Option.some.injEq, Prod.mk.injEq] at hq
   obtain ⟨rfl, rfl⟩ := hq
   obtain ⟨v, h1, h2⟩ := qv_ok D hq' hp (some t) ty pos af none
   refine wpS_plain rfl fun K hK => upon_ok h2 (hK _ _ (hn _ _ _ _ (D.put (blt_lt hb) h1)))
 ·cases hq
def gB (b : Bool) (c : Bool) : Bool := bif b then c else !c
def gV (d : SD) (b : Bool) : Option Bool :=
 match d with
 | .bool c => some (gB b c)
 | .gd c0 (.bool c) => some (c0 && gB b c)
 | _ => none
def mkG (g : Bool) : SD → SD
 | .gd c d => .gd (g && c) d
 | d => .gd g d
theorem mkG_ok {h : Hp} {e : Nm} {g : Bool} {d : SD} {v : Value} (h1 : g = true → rep h d e v) (h2 : g = false → v = undef) : rep h (mkG g d) e v := by
 cases d <;> simp only [mkG, rep]
 case gd c d =>
  simp only [rep] at h1
  cases g <;> cases c <;> simp_all
 all_goals first
  | exact ⟨fun hg => by simpa only [rep] using h1 hg, h2⟩
  | exact ⟨fun hg => by have := h1 hg; simp only [rep] at this; exact this, h2⟩
def gstep (P : Program) (s : St) (t tj : Nat) (b : Bool) (op : Op) : Option (Prop × St) :=
 match gV (lkp s.sl tj) b with
 | some g => match qv P s op with
  | some (p, d) => bif Nat.blt t s.n then some (g = true → allP p, s.put t (mkG g d)) else none
  | none => none
 | none => none
theorem getD_bool {ts : Array Value} {t : Nat} {c : Bool} (h : ts.getD t undef = .bool c) : ts[t]? = some (.bool c) := by
 rw [Array.getD_eq_getD_getElem?] at h
 cases hx : ts[t]? with
 | none => rw [hx] at h; simp [undef] at h
 | some v => rw [hx] at h; simpa using h
theorem wanted_bool {o : Oper} {a : Act} {j tj : Nat} {b c : Bool} (hg : o.guard = some (j, b)) (hj : (ops[j]?).bind (·.dst) = some tj) (hc : a.tmps.getD tj undef = .bool c) : Region.wanted o (yielded ops a.tmps) = gB b c := by
 simp only [Region.wanted, hg, yielded, hj, Option.bind_some, getD_bool hc]
 cases b <;> cases c <;> rfl
theorem wanted_undef {o : Oper} {a : Act} {j tj : Nat} {b : Bool} (hg : o.guard = some (j, b)) (hj : (ops[j]?).bind (·.dst) = some tj) (hc : a.tmps.getD tj undef = undef) : Region.wanted o (yielded ops a.tmps) = false := by
 have : yielded ops a.tmps j = none := by
  simp only [yielded, hj, Option.bind_some]
  rw [Array.getD_eq_getD_getElem?] at hc
  cases hx : a.tmps[tj]? with
  | none => rfl
  | some v =>
   rw [hx] at hc
   simp only [Option.getD_some] at hc
   subst hc
   rfl
 simp [Region.wanted, hg, this]
theorem wanted_of {o : Oper} {a : Act} {j tj : Nat} {b g : Bool} {h : Hp} {e : Nm} {d : SD} (hg : o.guard = some (j, b)) (hj : (ops[j]?).bind (·.dst) = some tj) (hv : rep h d e (a.tmps.getD tj undef)) (hc : gV d b = some g) : Region.wanted o (yielded ops a.tmps) = g := by
 unfold gV at hc
 split at hc
 ·simp only [Option.some.injEq] at hc
  subst hc
  simp only [rep] at hv
  exact wanted_bool hg hj hv
 ·rename_i c0 c
  simp only [Option.some.injEq] at hc
  subst hc
  simp only [rep] at hv
  cases c0
  ·rw [wanted_undef hg hj (hv.2 rfl)]; rfl
  ·rw [wanted_bool hg hj (hv.1 rfl)]; simp
 ·cases hc
theorem stepg {t : Nat} {op : Op} {ty : Nat} {pos : String} {af : Array Edge} {j : Nat} {b : Bool} {p : Prop} {s' : St} (tj : Nat) (hj : (ops[j]?).bind (·.dst) = some tj) (hq : gstep P s t tj b op = some (p, s')) (hp : p)
  (hn : RunL P F w0 ops Q rest s') : RunL P F w0 ops Q (⟨some t, op, ty, pos, af, some (j, b)⟩ :: rest) s := fun h e a w D => by
 unfold gstep at hq
 split at hq
 ·rename_i g hc
  have hv := D.slot tj
  split at hq
  ·rename_i p' d hq'
   cases hb : Nat.blt t s.n
   ·rw [hb] at hq; cases hq
   ·rw [hb] at hq
    simp only [cond_true, Option.some.injEq, Prod.mk.injEq] at hq
    obtain ⟨rfl, rfl⟩ := hq
    refine wpS_step fun K hK => ?_
    rw [wanted_of (o := ⟨some t, op, ty, pos, af, some (j, b)⟩) rfl hj hv hc]
    cases hgb : g
    ·rw [if_neg (by simp)]
     refine hK _ _ (hn _ _ _ _ (D.put (blt_lt hb) ?_))
     exact mkG_ok (fun h => by rw [hgb] at h; cases h) fun _ => rfl
    ·rw [if_pos rfl]
     obtain ⟨v, h1, h2⟩ := qv_ok D hq' (hp hgb) (some t) ty pos af (some (j, b))
     refine upon_ok h2 (hK _ _ (hn _ _ _ _ (D.put (blt_lt hb) ?_)))
     exact mkG_ok (fun _ => h1) fun h => by rw [hgb] at h; cases h
  ·cases hq
 ·cases hq
def bstep (s : St) (t : Nat) (x : SD) : Option St :=
 match cellsD x with
 | some l => bif Nat.blt t s.n && s.free s.nx && !menL s.nx l then some ⟨s.n, s.nx + 1, upd s.sl t (.loc s.nx 0), upd s.ow s.nx (.var l)⟩ else none
 | none => none
theorem Den.box {h : Hp} {e : Nm} {a : Act} {w : World} (D : Den F w0 s h e a w) {t T : Nat} {x : SD} {v : Value} {s' : St} (hx : rep h x e v) (hq : bstep s t x = some s') :
  Den F w0 s' h (e.setB s.nx w.heap.size) (a.put (some t) (.pointer (some ⟨w.heap.size, 0, none⟩))) (w.alloc (.cells v.cells T)) := by
 unfold bstep at hq
 split at hq
 ·rename_i l hl
  cases hb : (Nat.blt t s.n && s.free s.nx && !menL s.nx l)
  ·rw [hb] at hq; cases hq
  ·rw [hb] at hq
   simp only [cond_true, Option.some.injEq] at hq
   subst hq
   simp only [Bool.and_eq_true, Bool.not_eq_true'] at hb
   obtain ⟨⟨hb1, hb2⟩, hb3⟩ := hb
   have D1 := D.newVar (k := s.nx) (l := l) (cs := v.cells) (T := T) (Free.of hb2) hb3 (cellsD_ok hl hx) (s.nx + 1)
   exact D1.put (blt_lt hb1) (by simp [rep, Nm.setB])
 ·cases hq
theorem stepbox {t T : Nat} {x : Operand} {ty : Nat} {pos : String} {af : Array Edge} {s' : St} (hq : bstep s t (ev s x) = some s')
  (hn : RunL P F w0 ops Q rest s') : RunL P F w0 ops Q (⟨some t, .box T x, ty, pos, af, none⟩ :: rest) s := fun h e a w D => by
 refine wpS_plain rfl fun K hK => ?_
 have hr : (execOp a.eval ⟨some t, .box T x, ty, pos, af, none⟩).run P w = .ok (.value (.pointer (some ⟨w.heap.size, 0, none⟩))) (w.alloc (.cells (a.eval x).cells T)) := by
  simp only [execOp, Instr.box, newVar, newRow, newObj]; rfl
 unfold Oper.wp
 rw [hr]
 exact hK _ _ (hn _ _ _ _ (D.box (D.ev x) hq))
def zcT (P : Program) (T : Nat) : Option SD :=
 match (P.info? T).bind (·.zero) with
 | some z => some (ofV z)
 | none => none
theorem stepalloc {t T : Nat} {ty : Nat} {pos : String} {af : Array Edge} {s' : St} {z : SD} (hz : zcT P T = some z) (hq : bstep s t z = some s')
  (hn : RunL P F w0 ops Q rest s') : RunL P F w0 ops Q (⟨some t, .alloc T, ty, pos, af, none⟩ :: rest) s := fun h e a w D => by
 refine wpS_plain rfl fun K hK => ?_
 unfold zcT at hz
 cases hi : P.info? T with
 | none => rw [hi] at hz; cases hz
 | some i =>
  rw [hi] at hz
  cases hzz : i.zero with
  | none => simp [hzz] at hz
  | some zv =>
   simp only [Option.bind_some, hzz, Option.some.injEq] at hz
   subst hz
   have hr : (execOp a.eval ⟨some t, .alloc T, ty, pos, af, none⟩).run P w = .ok (.value (.pointer (some ⟨w.heap.size, 0, none⟩))) (w.alloc (.cells zv.cells T)) := by
    have hzv : (zeroValue T).run P w = .ok zv w := by simp [zeroValue, typeInfo, hi, hzz]
    simp only [execOp, Instr.alloc, Sem.run_bind, hzv, Result.andThen_ok, newVar, newRow, newObj]; rfl
   unfold Oper.wp
   rw [hr]
   exact hK _ _ (hn _ _ _ _ (D.box (rep_ofV h e zv) hq))
def sstep (P : Program) (s : St) (T : Nat) (p x : SD) : Option St :=
 match p with
 | .loc k off => match lkO s.ow k with
  | some (.var l) => match cellsD x with
   | some c => bif Nat.beq c.length (szT P T) && Nat.ble 1 c.length && Nat.ble (off + c.length) l.length then
     some { s with ow := upd s.ow k (.var (l.take off ++ c ++ l.drop (off + c.length))) } else none
   | none => none
  | _ => none
 | _ => none
theorem stepstore {T : Nat} {x y : Operand} {ty : Nat} {pos : String} {af : Array Edge} {s' : St} (hq : sstep P s T (ev s x) (ev s y) = some s')
  (hn : RunL P F w0 ops Q rest s') : RunL P F w0 ops Q (⟨none, .store T x y, ty, pos, af, none⟩ :: rest) s := fun h e a w D => by
 refine wpS_plain rfl fun K hK => ?_
 unfold sstep at hq
 split at hq
 ·rename_i k off hx
  split at hq
  ·rename_i l ho
   split at hq
   ·rename_i c hc
    cases hb : (Nat.beq c.length (szT P T) && Nat.ble 1 c.length && Nat.ble (off + c.length) l.length)
    ·rw [hb] at hq; cases hq
    ·rw [hb] at hq
     simp only [cond_true, Option.some.injEq] at hq
     subst hq
     simp only [Bool.and_eq_true] at hb
     obtain ⟨⟨hb1, hb2⟩, hb3⟩ := hb
     have hb1 := Nat.eq_of_beq_eq_true hb1
     have hb2 := Nat.le_of_ble_eq_true hb2
     have hb3 := Nat.le_of_ble_eq_true hb3
     have hxv := D.ev x
     rw [hx] at hxv
     simp only [rep] at hxv
     have hcv := cellsD_ok hc (D.ev y)
     have hcl := repC_length hcv
     obtain ⟨cs, T', g1, g2⟩ := D.own k _ ho
     have hl := repC_length g2
     obtain ⟨m, hm⟩ : ∃ m, szT P T = m + 1 := ⟨szT P T - 1, by omega⟩
     obtain ⟨i, hi, hs⟩ := info_of_szT hm
     have hst := run_storeCells_at P (e.bs k) off T' (a.eval y).cells.toList 0 cs w g1 (by rw [hcl]; simp at hl; omega) (repC_one hcv)
     simp only [Nat.add_zero] at hst
     have hsz : (a.eval y).cells.size = i.size := by rw [hs, ← hm, ← hb1, ← hcl]; simp
     have hr : (execOp a.eval ⟨none, .store T x y, ty, pos, af, none⟩).run P w = .ok .skip (w.setRow (e.bs k) (cs.toList.take off ++ (a.eval y).cells.toList ++ cs.toList.drop (off + (a.eval y).cells.toList.length)).toArray) := by
      simp [execOp, hxv, Instr.storeAt, Instr.sureAddr, storeVar, sizeOf, typeInfo, hi, hsz, hst]
     unfold Oper.wp
     rw [hr]
     refine hK _ _ (hn _ e _ _ ((D.setOwn (o' := .var (l.take off ++ c ++ l.drop (off + c.length))) ho rfl ⟨_, T', setRow_heap w _ cs _ T' _ g1, ?_⟩ ?_ rfl rfl rfl (by simp)).put_none _))
     ·rw [hcl]
      exact repC_append (repC_append (repC_take off g2) hcv) (repC_drop _ g2)
     ·intro b hbk
      exact setRow_other w _ b _ (fun hc => hbk (by simp [OB.blk, hc]))
   ·cases hq
  ·cases hq
 ·cases hq
end
end Go.Sx
namespace Go.Sx
open Go.RowKit
def nthSD : List SD → Nat → SD
 | [], _ => .any
 | d :: _, 0 => d
 | _ :: r, i + 1 => nthSD r i
def okEls (es : Nat) : Nat → List (Nat × SD) → Bool
 | _, [] => true
 | k, (i, d) :: r => Nat.beq i k && pureD d && (match cellsD d with
  | some c => Nat.beq c.length es
  | none => false) && okEls es (k + 1) r
def sndD : List (Nat × SD) → List SD
 | [] => []
 | (_, d) :: r => d :: sndD r
def lenL {α : Type} : List α → Nat
 | [] => 0
 | _ :: r => lenL r + 1
def intsL : List SD → Option (IntKind × List Int)
 | [.int k a] => some (k, [a])
 | .int k a :: r => match intsL r with
  | some (j, l) => if k = j then some (k, a :: l) else none
  | none => none
 | _ => none
def strsL : List SD → Option (List ByteArray)
 | [.str a] => some [a]
 | .str a :: r => match strsL r with
  | some l => some (a :: l)
  | none => none
 | _ => none
def litF (L : List SD) : Nat → SD :=
 match intsL L with
 | some (k, l) => fun i => .int k (l.getD i 0)
 | none => match strsL L with
  | some l => fun i => .str (l.getD i ByteArray.empty)
  | none => nthSD L
theorem intsL_ok : ∀ {L : List SD} {k : IntKind} {l : List Int}, intsL L = some (k, l) → ∀ i, i < L.length → nthSD L i = .int k (l.getD i 0)
 | [], _, _, h => by cases h
 | [.int k a], _, _, h => fun i hi => by
  simp only [intsL, Option.some.injEq, Prod.mk.injEq] at h
  obtain ⟨rfl, rfl⟩ := h
  have : i = 0 := by simp at hi; exact hi
  subst this; rfl
 | .int k a :: y :: r, _, _, h => fun i hi => by
  simp only [intsL] at h
  split at h
  ·rename_i j l hr
   split at h
   ·rename_i hkj
    simp only [Option.some.injEq, Prod.mk.injEq] at h
    obtain ⟨rfl, rfl⟩ := h
    subst hkj
    cases i with
    | zero => rfl
    | succ i => simp only [nthSD, List.getD_cons_succ]; exact intsL_ok (L := y :: r) hr i (by simpa using hi)
   ·cases h
  ·cases h
theorem strsL_ok : ∀ {L : List SD} {l : List ByteArray}, strsL L = some l → ∀ i, i < L.length → nthSD L i = .str (l.getD i ByteArray.empty)
 | [], _, h => by cases h
 | [.str a], _, h => fun i hi => by
  simp only [strsL, Option.some.injEq] at h
  subst h
  have : i = 0 := by simp at hi; exact hi
  subst this; rfl
 | .str a :: y :: r, _, h => fun i hi => by
  simp only [strsL] at h
  split at h
  ·rename_i l hr
   simp only [Option.some.injEq] at h
   subst h
   cases i with
   | zero => rfl
   | succ i => simp only [nthSD, List.getD_cons_succ]; exact strsL_ok (L := y :: r) hr i (by simpa using hi)
  ·cases h
theorem litF_eq (L : List SD) (i : Nat) (hi : i < L.length) : litF L i = nthSD L i := by
 unfold litF
 cases h1 : intsL L with
 | some p => obtain ⟨k, l⟩ := p; exact (intsL_ok h1 i hi).symm
 | none =>
  cases h2 : strsL L with
  | some l => exact (strsL_ok h2 i hi).symm
  | none => rfl
def bsD (P : Program) (s : St) (T len : Nat) (parts : List (Nat × Operand)) : Option (List Prop × SD) :=
 bif Nat.beq (kdT P T) 1 then
  match elT P T with
  | some t => bif Nat.ble 1 (szT P t) && Nat.ble 1 len && Nat.ble (len * szT P t) 16777216 && Nat.beq (lenL parts) len && okEls (szT P t) 0 (sndG s parts) && (bdZ P t) then
    some (gCs s (sndO parts) [], .list (szT P t) len (litF (sndD (sndG s parts)))) else none
  | none => none
 else none
where bdZ (P : Program) (t : Nat) : Bool := match (P.info? t).bind (·.zero) with
 | some _ => true
 | none => false
theorem fill_seq {es : Nat} : ∀ (vs : List Value) (k : Nat) (cells : Array Value), (∀ v ∈ vs, v.cells.size = es) → (k + vs.length) * es ≤ cells.size →
  ∃ cells' : Array Value, Instr.fill (fun i => some (i * es, es)) cells ((vs.zipIdx k).map fun p => (p.2, p.1)) = some cells' ∧
   cells'.toList = cells.toList.take (k * es) ++ vs.flatMap (·.cells.toList) ++ cells.toList.drop ((k + vs.length) * es)
 | [], k, cells, _, _ => ⟨cells, rfl, by simp⟩
 | v :: r, k, cells, hv, hs => by
  simp only [List.length_cons] at hs
  have h1 : (k + 1) * es ≤ (k + (r.length + 1)) * es := Nat.mul_le_mul_right _ (by omega)
  have h2 : (k + 1) * es = k * es + es := by rw [Nat.add_mul, Nat.one_mul]
  obtain ⟨c1, g1, g2⟩ := fill_ok (place := fun i => some (i * es, es)) (cells := cells) (i := k) (o := k * es) (z := es) (v := v) (rest := (r.zipIdx (k + 1)).map fun p => (p.2, p.1)) rfl (hv v (by simp)) (by omega)
  have hcl : v.cells.toList.length = es := by simpa using hv v (by simp)
  have hsz : c1.size = cells.size := by
   have := congrArg List.length g2
   simp only [Array.length_toList, List.length_append, List.length_take, List.length_drop, hcl] at this
   omega
  obtain ⟨c2, g3, g4⟩ := fill_seq r (k + 1) c1 (fun u hu => hv u (by simp [hu])) (by rw [hsz, show k + 1 + r.length = k + (r.length + 1) by omega]; exact hs)
  refine ⟨c2, by simp only [List.zipIdx_cons, List.map_cons]; rw [g1, g3], ?_⟩
  rw [g4, g2]
  have hle : k * es + es ≤ cells.size := by omega
  have L : (List.take (k * es) cells.toList ++ v.cells.toList).length = k * es + es := by
   rw [List.length_append, List.length_take, hcl, Array.length_toList]
   omega
  have e1 : (List.take (k * es) cells.toList ++ v.cells.toList ++ List.drop (k * es + es) cells.toList).take ((k + 1) * es) = List.take (k * es) cells.toList ++ v.cells.toList := by
   rw [h2, List.take_append_of_le_length (by omega), List.take_of_length_le (by omega)]
  have e2 : (List.take (k * es) cells.toList ++ v.cells.toList ++ List.drop (k * es + es) cells.toList).drop ((k + 1 + r.length) * es) = cells.toList.drop ((k + (r.length + 1)) * es) := by
   have h3 : (k + 1 + r.length) * es = k * es + es + r.length * es := by rw [Nat.add_mul, Nat.add_mul, Nat.one_mul]
   rw [List.drop_append, List.drop_eq_nil_of_le (by omega), List.nil_append, List.drop_drop, L, h3, show k + (r.length + 1) = k + 1 + r.length by omega, h3]
   congr 1
   omega
  rw [e1, e2]
  simp
theorem okEls_spec {h : Hp} {e : Nm} {es : Nat} : ∀ (l : List (Nat × SD)) (vs : List Value) (k : Nat), okEls es k l = true → repT h (sndD l) e vs →
  vs.length = lenL l ∧ (∀ v ∈ vs, v.cells.size = es) ∧ (∀ v ∈ vs, ∀ c ∈ v.cells, c.oneCell' = true) ∧ (l.map (·.1) = (List.range' k vs.length)) ∧ ∀ (i : Nat) (v : Value), vs[i]? = some v → ∀ e', rep h (nthSD (sndD l) i) e' v
 | [], vs, k, _, hr => by
  simp only [sndD, repT] at hr
  subst hr
  simp [lenL]
 | (i, d) :: r, vs, k, ho, hr => by
  simp only [sndD, repT] at hr
  obtain ⟨v, vs', rfl, h1, h2⟩ := hr
  simp only [okEls, Bool.and_eq_true] at ho
  obtain ⟨⟨⟨o1, o2⟩, o3⟩, o4⟩ := ho
  obtain ⟨g1, g2, g3, g4, g5⟩ := okEls_spec r vs' (k + 1) o4 h2
  cases hc : cellsD d with
  | none => rw [hc] at o3; cases o3
  | some c =>
   rw [hc] at o3
   have hcl := Nat.eq_of_beq_eq_true o3
   have hcv := cellsD_ok hc h1
   have hlen := repC_length hcv
   refine ⟨by simp [lenL, g1], ?_, ?_, ?_, ?_⟩
   ·intro u hu
    rcases List.mem_cons.1 hu with rfl | hu
    ·simp at hlen; omega
    ·exact g2 u hu
   ·intro u hu
    rcases List.mem_cons.1 hu with rfl | hu
    ·intro c' hc'; exact repC_one hcv c' (by simpa using hc')
    ·exact g3 u hu
   ·have := Nat.eq_of_beq_eq_true o1
    subst this
    simp [List.range'_succ, g4]
   ·intro j u hu e'
    cases j with
    | zero =>
     simp only [List.getElem?_cons_zero, Option.some.injEq] at hu
     subst hu
     exact pure_rep d _ o2 h1
    | succ j =>
     simp only [List.getElem?_cons_succ] at hu
     exact g5 j u hu e'
section
variable {P : Program} {F : List Nat} {w0 : Base} {s : St}
def Hp.set (h : Hp) (b : Nat) (o : Obj) : Hp := fun j => if j = b then some o else h j
theorem Den.stay {h : Hp} {e : Nm} {a : Act} {w : World} (D : Den F w0 s h e a w) (o : Obj) : Den F w0 s (h.set w.heap.size o) e a (w.alloc o) ∧ Le h (h.set w.heap.size o) := by
 have hnone : h w.heap.size = none := by
  cases hx : h w.heap.size with
  | none => rfl
  | some o => have := (Array.getElem?_eq_some_iff.1 (D.sub _ _ hx)).1; omega
 have hl : Le h (h.set w.heap.size o) := fun b x hx => by
  simp only [Hp.set]
  by_cases hb : b = w.heap.size
  ·subst hb; rw [hnone] at hx; cases hx
  ·simp [hb, hx]
 have hbel := Below.alloc (Below.refl w.heap.size w) (Nat.le_refl _) o
 refine ⟨D.called hl (fun b x hx => ?_) hbel (fun b hb => ?_), hl⟩
 ·simp only [Hp.set] at hx
  by_cases hb : b = w.heap.size
  ·subst hb
   simp only [if_true, Option.some.injEq] at hx
   subst hx
   exact heap_alloc_new w _
  ·simp only [hb, if_false] at hx
   exact D.sub.below hbel b x hx
 ·have : b ≠ w.heap.size := by omega
  simp [Hp.set, this]
theorem wp_bs {h : Hp} {e : Nm} {a : Act} {w : World} (D : Den F w0 s h e a w) {t T len : Nat} {parts : Array (Nat × Operand)} {ty : Nat} {pos : String} {af : Array Edge} {g : Option (Nat × Bool)} {p : List Prop} {d : SD}
  (hq : bsD P s T len parts.toList = some (p, d)) (hp : allP p) (ht : t < s.n) (K : Act → World → Prop) (Q : Exit → Act → World → Prop) (hK : ∀ h' e' a' w', Den F w0 (s.put t d) h' e' a' w' → K a' w') :
  (⟨some t, .buildSlice T len parts, ty, pos, af, g⟩ : Oper).wp P a w K Q := by
 unfold bsD at hq
 cases hk : Nat.beq (kdT P T) 1
 ·rw [hk] at hq; cases hq
 ·rw [hk] at hq
  simp only [cond_true] at hq
  obtain ⟨te, hu⟩ := und1 hk
  split at hq
  ·rename_i te' hte
   have := elT_slice hu hte
   subst this
   cases hb : (Nat.ble 1 (szT P te') && Nat.ble 1 len && Nat.ble (len * szT P te') 16777216 && Nat.beq (lenL parts.toList) len && okEls (szT P te') 0 (sndG s parts.toList) && (bsD.bdZ P te'))
   ·rw [hb] at hq; cases hq
   ·rw [hb] at hq
    simp only [cond_true, Option.some.injEq, Prod.mk.injEq] at hq
    obtain ⟨rfl, rfl⟩ := hq
    simp only [Bool.and_eq_true] at hb
    obtain ⟨⟨⟨⟨⟨b1, b2⟩, b3⟩, b4⟩, b5⟩, b6⟩ := hb
    have b1 := Nat.le_of_ble_eq_true b1
    have b2 := Nat.le_of_ble_eq_true b2
    have b3 := Nat.le_of_ble_eq_true b3
    have b4 := Nat.eq_of_beq_eq_true b4
    obtain ⟨m, hm⟩ : ∃ m, szT P te' = m + 1 := ⟨szT P te' - 1, by omega⟩
    obtain ⟨i, hi, hs⟩ := info_of_szT hm
    cases hz : i.zero with
    | none => simp [bsD.bdZ, hi, hz] at b6
    | some z =>
     have hes : szT P te' = i.size := by omega
     rw [hes] at b1 b3 b5 hK
     have hg := (allP_gCs hp).1
     have key : ∀ (l : List (Nat × Operand)), (∀ x ∈ sndO l, ∀ c d, ev s x = .gd c d → c = true) → (l.map (·.1) = (sndG s l).map (·.1)) ∧ repT h (sndD (sndG s l)) e (l.map fun q => a.eval q.2) ∧ lenL (sndG s l) = lenL l := by
      intro l
      induction l with
      | nil => intro _; simp [sndG, sndD, repT, lenL]
      | cons q r ih =>
       obtain ⟨i, x⟩ := q
       intro hl
       obtain ⟨g1, g2, g3⟩ := ih fun y hy => hl y (by simp [sndO, hy])
       refine ⟨by simp only [List.map_cons, sndG, g1], ?_, by simp [sndG, lenL, g3]⟩
       simp only [sndG, List.map_cons, repT, sndD]
       exact ⟨_, _, rfl, ungd_ok (D.ev x) (hl x (by simp [sndO])), g2⟩
     obtain ⟨k1, k2, k3⟩ := key parts.toList hg
     obtain ⟨o1, o2, o3, o4, o5⟩ := okEls_spec (sndG s parts.toList) _ 0 b5 k2
     have hlen : (parts.toList.map fun q => a.eval q.2).length = len := by rw [o1, k3, b4]
     generalize hvs : (parts.toList.map fun q => a.eval q.2) = vs at *
     have hzip : (parts.map fun (i, x) => (i, a.eval x)).toList = (vs.zipIdx 0).map fun p => (p.2, p.1) := by
      have h1 : (parts.map fun (i, x) => (i, a.eval x)).toList = parts.toList.map fun q => (q.1, a.eval q.2) := by simp
      rw [h1]
      apply List.ext_getElem?
      intro j
      have h2 := congrArg (·[j]?) (k1.trans o4)
      have h3 := congrArg (·[j]?) hvs
      simp only [List.getElem?_map, List.getElem?_zipIdx, Nat.zero_add] at h2 h3 ⊢
      cases hpj : parts.toList[j]? with
      | none =>
       rw [hpj] at h3
       simp only [Option.map_none] at h3
       rw [← h3]
       rfl
      | some q =>
       rw [hpj] at h2 h3
       simp only [Option.map_some] at h2 h3
       rw [← h3]
       have hj : j < vs.length := by
        rcases Nat.lt_or_ge j vs.length with hj | hj
        ·exact hj
        ·rw [List.getElem?_eq_none hj] at h3
         cases h3
       rw [List.getElem?_range' hj] at h2
       simp only [Option.some.injEq, Nat.zero_add, Nat.one_mul] at h2
       simp [h2]
     obtain ⟨cells', f1, f2⟩ := fill_seq (es := i.size) vs 0 ((Array.range (len * i.size)).map (z.cells[· % z.cells.size]!)) o2 (by simp [hlen])
     rw [← hzip] at f1
     have hpos : ¬ len * i.size = 0 := by
      have := Nat.mul_le_mul b2 b1
      omega
     have hrun := run_buildSlice (P := P) w T te' len (parts.map fun (i, x) => (i, a.eval x)) cells' i z hu hi hz (by omega) hpos f1
     obtain ⟨D1, hl⟩ := D.stay (.cells cells' te')
     have hrep : rep (h.set w.heap.size (.cells cells' te')) (.list i.size len (litF (sndD (sndG s parts.toList)))) e (.slice (some ⟨w.heap.size, 0, none⟩) len len) := by
      simp only [rep]
      have hbd : len ≤ 16777216 := by
       have := Nat.mul_le_mul_left len b1
       omega
      refine ⟨_, _, rfl, Nat.le_refl _, ⟨by simp [maxLen]; omega, by simp [maxL]; omega⟩, fun _ => ⟨⟨w.heap.size, 0, none⟩, cells', te', (0, 0), rfl, rfl, by simp [Hp.set], fun j hj => ?_⟩⟩
      have hj' : j < vs.length := by omega
      have hvj : vs[j]? = some vs[j] := List.getElem?_eq_getElem hj'
      have hlen2 : ∀ (l : List (Nat × Operand)), (sndD (sndG s l)).length = lenL l := fun l => by
       induction l with
       | nil => rfl
       | cons p r ih => obtain ⟨i, x⟩ := p; simp [sndG, sndD, lenL, ih]
      refine ⟨vs[j], fun e' => by rw [litF_eq _ j (by rw [hlen2]; omega)]; exact rep_mono hl _ e' _ (o5 j _ hvj e'), ?_, o2 _ (List.getElem_mem hj'), o3 _ (List.getElem_mem hj')⟩
      rw [f2]
      simp only [Nat.zero_mul, List.take_zero, List.nil_append, Nat.zero_add, hlen]
      rw [List.drop_eq_nil_of_le (by simp), List.append_nil]
      have : ∀ (vs : List Value) (j : Nat) (hj : j < vs.length), (∀ v ∈ vs, v.cells.size = i.size) → cut (vs.flatMap (·.cells.toList)) (j * i.size) i.size = vs[j].cells.toList := by
       intro vs
       induction vs with
       | nil => intro j hj; simp at hj
       | cons v r ih =>
        intro j hj hv
        have hvl : v.cells.toList.length = i.size := by simpa using hv v (by simp)
        cases j with
        | zero => simp [cut, ← hvl]
        | succ j =>
         have := ih j (by simpa using hj) fun u hu => hv u (by simp [hu])
         simp only [List.getElem_cons_succ]
         rw [← this]
         simp only [cut, List.flatMap_cons]
         rw [List.drop_append, List.drop_eq_nil_of_le (by rw [hvl, Nat.add_mul]; omega), List.nil_append]
         congr 2
         rw [hvl, Nat.add_mul]; omega
      rw [this vs j hj' o2]
     unfold Oper.wp
     have hex : (execOp a.eval ⟨some t, .buildSlice T len parts, ty, pos, af, g⟩).run P w = .ok (.value (.slice (some ⟨w.heap.size, 0, none⟩) len len)) (w.alloc (.cells cells' te')) := by
      simp only [execOp, Sem.run_bind, hrun, Result.andThen_ok]
      rfl
     rw [hex]
     exact hK _ e _ _ (D1.put ht hrep)
  ·cases hq
end
end Go.Sx
namespace Go.Sx
open Go.RowKit
def SLe (d d' : SD) : Prop := ∀ h e v, rep h d e v → rep h d' e v
theorem SLe.refl (d : SD) : SLe d d := fun _ _ _ x => x
theorem SLe.any (d : SD) : SLe d .any := fun _ _ _ _ => by simp [rep]
theorem SLe.int {k : IntKind} {a b : Int} (h : a = b) : SLe (.int k a) (.int k b) := h ▸ SLe.refl _
theorem SLe.bool {a b : Bool} (h : a = b) : SLe (.bool a) (.bool b) := h ▸ SLe.refl _
theorem SLe.list {es n n' : Nat} {f f' : Nat → SD} (hn : n = n') (h : ∀ i, i < n → f i = f' i) : SLe (.list es n f) (.list es n' f') := fun hp e v x => by
 subst hn
 simp only [rep] at x ⊢
 obtain ⟨a, cap, h1, h2, h3, h4⟩ := x
 refine ⟨a, cap, h1, h2, h3, fun hn => ?_⟩
 obtain ⟨ad, cs, T, fr, g1, g2, g3, g4⟩ := h4 hn
 refine ⟨ad, cs, T, fr, g1, g2, g3, fun i hi => ?_⟩
 obtain ⟨u, u1, u2⟩ := g4 i hi
 exact ⟨u, by rw [← h i hi]; exact u1, u2⟩
theorem SLe.nils {es : Nat} {f : Nat → SD} : SLe .nils (.list es 0 f) := fun hp e v x => by
 simp only [rep] at x ⊢
 exact ⟨none, 0, x, Nat.le_refl _, ⟨by simp [maxLen], Nat.zero_le _⟩, fun h => absurd h (by omega)⟩
def subS (l : List (Nat × SD)) : List (Nat × SD) → Prop
 | [] => True
 | (i, d) :: r => SLe (lkp l i) d ∧ subS l r
theorem subS_ok {l : List (Nat × SD)} : ∀ {l' : List (Nat × SD)}, subS l l' → ∀ t, SLe (lkp l t) (lkp l' t)
 | [], _, t => SLe.any _
 | (i, d) :: r, h, t => by
  simp only [subS] at h
  simp only [lkp]
  cases hb : Nat.beq i t
  ·exact subS_ok h.2 t
  ·have := Nat.eq_of_beq_eq_true hb
   subst this
   exact h.1
def OLe : OB → OB → Prop
 | .var l, .var l' => ∀ h e vs, repC h l e vs → repC h l' e vs
 | .acc T es n f, .acc T' es' n' f' => T = T' ∧ es = es' ∧ n = n' ∧ ∀ i, i < n → ∀ h u, (∀ e, rep h (f i) e u) → ∀ e, rep h (f' i) e u
 | .mp a l, .mp b l' => (a.kk = b.kk ∧ a.n = b.n ∧ a.it = b.it ∧ ∀ q, a.dom q = b.dom q ∧ (a.dom q = true → ∀ h e v, rep h (a.f q) e v → rep h (b.f q) e v)) ∧ ∀ h e u, (∀ d c r, l = (d, c) :: r → rep h d e u) → ∀ d c r, l' = (d, c) :: r → rep h d e u
 | _, _ => False
theorem OLe.refl (o : OB) : OLe o o := by
 cases o
 ·exact fun _ _ _ x => x
 ·exact ⟨rfl, rfl, rfl, fun _ _ _ _ x => x⟩
 ·exact ⟨⟨rfl, rfl, rfl, fun _ => ⟨rfl, fun _ _ _ _ x => x⟩⟩, fun _ _ _ x => x⟩
def subO (l : List (Nat × OB)) : List (Nat × OB) → Prop
 | [] => True
 | (k, o) :: r => (∃ o0, lkO l k = some o0 ∧ OLe o0 o) ∧ subO l r
theorem subO_ok {l : List (Nat × OB)} : ∀ {l' : List (Nat × OB)}, subO l l' → ∀ k o, lkO l' k = some o → ∃ o0, lkO l k = some o0 ∧ OLe o0 o
 | [], _, _, _, h => by simp [lkO] at h
 | (i, d) :: r, h, k, o, hk => by
  simp only [subO] at h
  simp only [lkO] at hk
  cases hb : Nat.beq i k
  ·rw [hb] at hk; exact subO_ok h.2 k o hk
  ·rw [hb] at hk
   have := Nat.eq_of_beq_eq_true hb
   subst this
   simp only [cond_true, Option.some.injEq] at hk
   subst hk
   exact h.1
theorem OLe.blk {o o' : OB} (h : OLe o o') (e : Nm) (k : Nat) : o'.blk e k = o.blk e k := by
 cases o <;> cases o' <;> simp_all [OLe, OB.blk]
theorem EsOk.congr {kk : Option IntKind} {dom dom' : MK → Bool} {es : Array MapEntry} {clock : Nat} (x : EsOk kk dom es clock) (h : ∀ q, dom q = dom' q) : EsOk kk dom' es clock := by
 have : dom = dom' := funext h
 rw [← this]; exact x
theorem MK.val_inj {kk : Option IntKind} {p q : MK} (hp : p.ok kk = true) (hq : q.ok kk = true) (h : p.val kk = q.val kk) : p = q := by
 cases kk <;> cases p <;> cases q <;> simp_all [MK.ok, MK.val]
theorem mapOk_le {h : Hp} {a b : MD} {es : Array MapEntry} {clock : Nat} (h1 : a.kk = b.kk) (h2 : a.n = b.n) (h3 : ∀ q, a.dom q = b.dom q ∧ (a.dom q = true → ∀ h e v, rep h (a.f q) e v → rep h (b.f q) e v)) (x : mapOk h a es clock) : mapOk h b es clock := by
 obtain ⟨x1, x2, x3, x4⟩ := x
 refine ⟨by rw [← h2]; exact x1, by rw [← h2]; exact x2, by rw [← h1]; exact x3.congr fun q => (h3 q).1, fun y hy q hq hk e => ?_⟩
 rw [← h1] at hq hk
 refine (h3 q).2 ?_ h e _ (x4 y hy q hq hk e)
 obtain ⟨p, p1, p2, p3⟩ := x3.key y hy
 rw [MK.val_inj hk p1 (hq.symm.trans p2)]
 exact p3
theorem mpObj_le {h : Hp} {a b : MD} {bk : Nat} {o : Obj} (h1 : a.kk = b.kk) (h2 : a.n = b.n) (h0 : a.it = b.it) (h3 : ∀ q, a.dom q = b.dom q ∧ (a.dom q = true → ∀ h e v, rep h (a.f q) e v → rep h (b.f q) e v)) (x : mpObj h a bk o) : mpObj h b bk o := by
 unfold mpObj at x ⊢
 rw [← h0]
 cases hi : a.it with
 | none =>
  rw [hi] at x
  obtain ⟨es, clock, g1, g2⟩ := x
  exact ⟨es, clock, g1, mapOk_le h1 h2 h3 g2⟩
 | some p =>
  rw [hi] at x
  cases p with
  | raw o' K => exact x
  | live T es n f i => exact x
  | iter c V cur =>
  obtain ⟨bb, es, clock, seen, g1, g2, g3, g4, g5, g6⟩ := x
  exact ⟨bb, es, clock, seen, g1, g2, mapOk_le h1 h2 h3 g3, g4, by rw [← h1]; exact g5, by rw [← h1]; exact g6⟩
theorem OLe.ok {o o' : OB} (hl : OLe o o') {h : Hp} {e : Nm} {w : World} {k : Nat} (x : obOk h e w k o) : obOk h e w k o' := by
 cases o <;> cases o' <;> simp only [OLe] at hl
 ·obtain ⟨cs, T, h1, h2⟩ := x
  exact ⟨cs, T, h1, hl h e _ h2⟩
 ·obtain ⟨rfl, rfl, rfl, hf⟩ := hl
  obtain ⟨xs, h1, h2, h3⟩ := x
  refine ⟨xs, h1, h2, fun i hi => ?_⟩
  obtain ⟨u, u1, u2⟩ := h3 i hi
  exact ⟨u, hf i hi h u u1, u2⟩
 ·obtain ⟨⟨h1, h2, h3, h4⟩, h5⟩ := hl
  unfold obOk at x ⊢
  simp only at x ⊢
  rw [← h3]
  split at x
  ·exact liveOk_to (Le.refl h) rfl (fun _ _ => rfl) (fun u hu => h5 h e u hu) x
  ·obtain ⟨o, g1, g2⟩ := x
   exact ⟨o, g1, mpObj_le h1 h2 h3 h4 g2⟩
structure Wk (s s' : St) : Prop where
 n : s.n = s'.n
 sl : subS s.sl s'.sl
 ow : subO s.ow s'.ow
section
variable {P : Program} {F : List Nat} {w0 : Base} {fin : Exit → Act → World → Prop} {k : List It} {s : St}
theorem Den.weak {h : Hp} {e : Nm} {a : Act} {w : World} (D : Den F w0 s h e a w) {s' : St} (hw : Wk s s') : Den F w0 s' h e a w := by
 refine ⟨D.defers, D.size.trans hw.n, fun t => subS_ok hw.sl t h e _ (D.slot t), fun j o hj => ?_, fun j o b hj hb => ?_, fun j j' o o' b hne hj hj' hb => ?_, D.sub, D.keeps, D.le, D.neww, D.fix⟩
 ·obtain ⟨o0, g1, g2⟩ := subO_ok hw.ow j o hj
  exact g2.ok (D.own j o0 g1)
 ·obtain ⟨o0, g1, g2⟩ := subO_ok hw.ow j o hj
  rw [g2.blk] at hb
  exact D.ownb j o0 b g1 hb
 ·obtain ⟨o0, g1, g2⟩ := subO_ok hw.ow j o hj
  obtain ⟨o1, g3, g4⟩ := subO_ok hw.ow j' o' hj'
  rw [g2.blk] at hb
  rw [g4.blk]
  exact D.apart j j' o0 o1 b hne g1 g3 hb
theorem run_weak {s' : St} (hw : Wk s s') (h : Run P F w0 fin k s') : Run P F w0 fin k s := fun _ _ _ _ D => h _ _ _ _ (D.weak hw)
theorem wpIn_loop_ghost {F : Fence} {n : Nat} {P : Program} {Q : Exit → Act → World → Prop} {a : Act} {w : World} {c : Code} (I : Nat → Act → World → Prop) (n₀ : Nat) (h₀ : I n₀ a w)
  (round : ∀ m a w, I m a w → c.wpIn F n P (Exit.then (fun a' w' => ∃ n', n' < m ∧ I n' a' w') Q) a w) : (Code.loop c).wpIn F n P Q a w := by
 refine wpIn_loop (fun a w => ∃ n, I n a w) (fun a w => leastOf (fun n => I n a w)) ⟨n₀, h₀⟩ ?_
 intro a w hI
 refine wpIn_mono (round _ a w (leastOf_spec hI).1) ?_
 intro e a' w' hq
 cases e with
 | normal =>
  obtain ⟨n', hlt, hI'⟩ := hq
  exact show (∃ n, I n a' w') ∧ leastOf (fun n => I n a' w') < leastOf (fun n => I n a w) from ⟨⟨n', hI'⟩, Nat.lt_of_le_of_lt ((leastOf_spec ⟨n', hI'⟩).2 n' hI') hlt⟩
 | exit id => exact hq
 | goto l => exact hq
 | ret => exact hq
 | panic ch => exact hq
 | outgrown => exact hq
def LI {σ : Type} (F : List Nat) (w0 : Base) (S : σ → St) (I : σ → Prop) (μ : σ → Nat) (x : σ) : Act → World → Prop :=
 fun a w => ∃ x', I x' ∧ μ x' < μ x ∧ ∃ h e, Den F w0 (S x') h e a w
theorem zS {σ : Type} {S : σ → St} {I : σ → Prop} {μ : σ → Nat} {x : σ} (x' : σ) (h1 : I x') (h2 : μ x' < μ x) (h3 : Wk s (S x')) : Run P F w0 fin (.lp (LI F w0 S I μ x) :: k) s :=
 fun _ _ _ _ D => ⟨x', h1, h2, _, _, D.weak h3⟩
structure FnOK (P : Program) (f : Nat) (R : List SD → SD → Prop) : Prop where
 call : ∀ args w, (callFunc f args).run P w = .ok (.enter f args) w
 ok : ∀ ds d, R ds d → ∀ h e w vs, GH h → Sub h w → repT h ds e vs → Calls P f vs.toArray w fun en w' => ∃ v h', en = .returned v ∧ Le h h' ∧ Sub h' w' ∧ Below w.heap.size w w' ∧
  (∀ b, b < w.heap.size → h' b = h b) ∧ ∀ e', rep h' d e' v
def cstep (s : St) (t : Nat) (d : SD) : Option St := bif Nat.blt t s.n then some (s.put t d) else none
theorem cstep_ok {t : Nat} {d : SD} {s' : St} (hs : cstep s t d = some s') : t < s.n ∧ s' = s.put t d := by
 unfold cstep at hs
 cases hb : Nat.blt t s.n
 ·rw [hb] at hs; cases hs
 ·rw [hb] at hs
  simp only [cond_true, Option.some.injEq] at hs
  exact ⟨blt_lt hb, hs.symm⟩
variable {Q : Exit → Act → World → Prop} {ops : Array Oper} {rest : List Oper}
theorem repT_args {h : Hp} {e : Nm} {a : Act} {w : World} (D : Den F w0 s h e a w) {l0 : List Operand} (hg : ∀ x ∈ l0, ∀ c d, ev s x = .gd c d → c = true) :
  ∀ {l : List Operand}, (∀ x ∈ l, x ∈ l0) → repT h (l.map (unG s)) e (l.map a.eval)
 | [], _ => by simp [repT]
 | x :: r, hl => by
  simp only [List.map_cons, repT]
  exact ⟨_, _, rfl, ungd_ok (D.ev x) fun c d hc => hg x (hl x (by simp)) c d hc, repT_args D hg fun y hy => hl y (by simp [hy])⟩
theorem run_callee {a : Act} {w : World} {f : Nat} {R : List SD → SD → Prop} (hf : FnOK P f R) {t : Option Nat} {args : Array Operand} {tys : Array Nat} {ty : Nat} {pos : String} {af : Array Edge} {g : Option (Nat × Bool)} :
  (execOp a.eval ⟨t, .call ⟨.value (.func f), args, tys⟩, ty, pos, af, g⟩).run P w = .ok (.enter f (args.toList.map a.eval).toArray) w := by
 have : (args.toList.map a.eval).toArray = args.map a.eval := by apply Array.ext'; simp
 rw [this]
 simp [execOp, resolve, Deferred.ofValue, Act.eval, invoke, hf.call]
theorem zM {f t : Nat} {args : Array Operand} {tys : Array Nat} {ty : Nat} {pos : String} {af : Array Edge} {R : List SD → SD → Prop} {ds : List SD} {d : SD} {s' : St} (hf : FnOK P f R)
  (ha : args.toList.map (unG s) = ds) (hg : allP (gCs s args.toList [])) (hR : R ds d) (hs : cstep s t d = some s')
  (hn : RunL P F w0 ops Q rest s') : RunL P F w0 ops Q (⟨some t, .call ⟨.value (.func f), args, tys⟩, ty, pos, af, none⟩ :: rest) s := fun h e a w D => by
 subst ha
 obtain ⟨ht, rfl⟩ := cstep_ok hs
 refine wpS_plain rfl fun K hK => ?_
 unfold Oper.wp
 rw [run_callee hf]
 refine (hf.ok _ _ hR h e w _ D.gh D.sub (repT_args D (allP_gCs hg).1 fun _ hx => hx)).mono fun en w' hq => ?_
 obtain ⟨v, h', rfl, g1, g2, g3, g4, g5⟩ := hq
 exact hK _ _ (hn _ _ _ _ ((D.called g1 g2 g3 g4).put ht (g5 e)))
theorem zV {f t : Nat} {args : Array Operand} {tys : Array Nat} {ty : Nat} {pos : String} {af : Array Edge} {j : Nat} {b g : Bool} {R : List SD → SD → Prop} {ds : List SD} {d : SD} {s' : St} (tj : Nat)
  (hj : (ops[j]?).bind (·.dst) = some tj) (hc : gV (lkp s.sl tj) b = some g) (hf : FnOK P f R)
  (ha : args.toList.map (unG s) = ds) (hg : g = true → allP (gCs s args.toList [])) (hR : g = true → R ds d) (hs : cstep s t (.gd g d) = some s')
  (hn : RunL P F w0 ops Q rest s') : RunL P F w0 ops Q (⟨some t, .call ⟨.value (.func f), args, tys⟩, ty, pos, af, some (j, b)⟩ :: rest) s := fun h e a w D => by
 subst ha
 obtain ⟨ht, rfl⟩ := cstep_ok hs
 have hv := D.slot tj
 refine wpS_step fun K hK => ?_
 rw [wanted_of (o := ⟨some t, .call ⟨.value (.func f), args, tys⟩, ty, pos, af, some (j, b)⟩) rfl hj hv hc]
 cases hgb : g
 ·rw [if_neg (by simp)]
  refine hK _ _ (hn _ _ _ _ (D.put ht ?_))
  simp [rep, hgb]
 ·rw [if_pos rfl]
  unfold Oper.wp
  rw [run_callee hf]
  refine (hf.ok _ _ (hR hgb) h e w _ D.gh D.sub (repT_args D (allP_gCs (hg hgb)).1 fun _ hx => hx)).mono fun en w' hq => ?_
  obtain ⟨v, h', rfl, g1, g2, g3, g4, g5⟩ := hq
  refine hK _ _ (hn _ _ _ _ ((D.called g1 g2 g3 g4).put ht ?_))
  simp only [rep]
  exact ⟨fun _ => g5 e, fun h => by rw [hgb] at h; cases h⟩
def retPost (w0 : Base0) (d : SD) : Ending → World → Prop := fun en w' => ∃ v h', en = .returned v ∧ Le w0.h h' ∧ Sub h' w' ∧ Below w0.w.heap.size w0.w w' ∧
  (∀ b, b < w0.w.heap.size → h' b = w0.h b) ∧ ∀ e', rep h' d e' v
def SLe0 (d d' : SD) : Prop := ∀ h e v, rep h d e v → ∀ e', rep h d' e' v
theorem SLe0.pure {d : SD} (h : pureD d = true) : SLe0 d d := fun _ _ v x _ => pure_rep d v h x
theorem SLe0.bool {a b : Bool} (h : a = b) : SLe0 (.bool a) (.bool b) := h ▸ SLe0.pure rfl
theorem SLe0.int {k : IntKind} {a b : Int} (h : a = b) : SLe0 (.int k a) (.int k b) := h ▸ SLe0.pure rfl
theorem SLe0.str {a b : ByteArray} (h : a = b) : SLe0 (.str a) (.str b) := h ▸ SLe0.pure rfl
theorem SLe0.of {d d' : SD} (h : pureD d = true) (g : SLe d d') : SLe0 d d' := fun h' _ v x e' => g h' e' v (pure_rep d v h x)
theorem zI {b0 : Base0} {fn : Func} {r : Nat} {d : SD} (hr : fn.results = #[.tmp r]) (hd : SLe0 (lkp s.sl r) d) : Run P [] b0.std (bodyPost P fn (retPost b0 d)) (.code .ret :: k) s := fun h e a w D => by
 refine wpIn_ret (post_ret ?_)
 exact bodyPost_ret (results_tmp hr _ _ _) D.defers ⟨_, h, rfl, D.le, D.sub, D.keeps.below, D.neww, hd h e _ (D.slot r)⟩
def enum (i : Nat) : List SD → List (Nat × SD)
 | [] => []
 | d :: r => (i, d) :: enum (i + 1) r
theorem lkp_enum {h : Hp} {e : Nm} : ∀ {l : List SD} {vs : List Value} (i t : Nat), repT h l e vs → rep h (lkp (enum i l) t) e (if i ≤ t then vs.getD (t - i) undef else undef)
 | [], _, i, t, x => by simp [enum, lkp, rep]
 | d :: r, _, i, t, x => by
  simp only [repT] at x
  obtain ⟨v, vs', rfl, h1, h2⟩ := x
  simp only [enum, lkp]
  cases hb : Nat.beq i t
  ·have hne := bne_of hb
   have ih := lkp_enum (i + 1) t h2
   simp only [cond_false]
   by_cases hle : i ≤ t
   ·rw [if_pos (by omega)] at ih
    rw [if_pos hle, show t - i = (t - (i + 1)) + 1 by omega]
    simpa using ih
   ·rw [if_neg hle]
    rw [if_neg (by omega)] at ih
    exact ih
  ·have := Nat.eq_of_beq_eq_true hb
   subst this
   simpa using h1
theorem fn_intro {f : Nat} {fn : Func} {c : Code} {n : Nat} {R : List SD → SD → Prop} (hcall : ∀ args w, (callFunc f args).run P w = .ok (.enter f args) w) (hf : P.funcs[f]? = some fn) (hb : fn.body = some c) (hn : fn.ntmps = n)
  (hrun : ∀ ds d, R ds d → ds.length ≤ n ∧ ∀ w0 : Base0, Run P [] w0.std (bodyPost P fn (retPost w0 d)) [.code c] ⟨n, 0, enum 0 ds, []⟩) : FnOK P f R := by
 refine ⟨hcall, fun ds d hR h e w vs gh hs hr => ?_⟩
 obtain ⟨hlen, hrun⟩ := hrun ds d hR
 have hvl : vs.length = ds.length := by
  clear hR hrun hlen
  induction ds generalizing vs with
  | nil => simp only [repT] at hr; simp [hr]
  | cons d r ih => simp only [repT] at hr; obtain ⟨v, vs', rfl, _, h2⟩ := hr; simp [ih vs' h2]
 refine calls_of_wp hf hb ?_
 refine (wpIn_wide (n := 0)).1 ?_
 refine hrun ⟨w, h, [], gh⟩ h e _ w ⟨rfl, ?_, fun t => ?_, fun k o hk => by simp [lkO] at hk, fun k o b hk => by simp [lkO] at hk, fun k k' o o' b _ hk => by simp [lkO] at hk, hs, Keeps.refl _ _, Le.refl h, fun _ _ => rfl, fun i b hb => by simp [Base.fix, Base0.std] at hb⟩
 ·simp; omega
 ·have := lkp_enum (e := e) 0 t hr
  simp only [Nat.zero_le, if_true, Nat.sub_zero] at this
  have e1 : (vs.toArray ++ Array.replicate (fn.ntmps - vs.toArray.size) undef).getD t undef = vs.getD t undef := by
   simp only [Array.getD_eq_getD_getElem?, Array.getElem?_append, List.getD_eq_getElem?_getD]
   by_cases ht : t < vs.length
   ·simp [ht]
   ·simp only [List.size_toArray, ht, if_false, Array.getElem?_replicate]
    rw [List.getElem?_eq_none (by omega)]
    split <;> simp
  rw [e1]
  exact this
end
end Go.Sx
namespace Go.Sx
open Go.RowKit
def dstOf (o : Oper) : Option Nat := o.dst
def nthDst : List Oper → Nat → Option Nat
 | [], _ => none
 | o :: _, 0 => dstOf o
 | _ :: r, j + 1 => nthDst r j
theorem nthDst_ok : ∀ (l : List Oper) (j : Nat), (l.toArray[j]?).bind (·.dst) = nthDst l j
 | [], j => by simp [nthDst]
 | o :: r, 0 => by simp [nthDst, dstOf]
 | o :: r, j + 1 => by
  have := nthDst_ok r j
  simpa [nthDst] using this
def stepU (P : Program) (s : St) (dst : Option Nat) (op : Op) : Option (List Prop × St) :=
 match op with
 | .box _ x => match dst with
  | some t => match bstep s t (ev s x) with
   | some s' => some ([], s')
   | none => none
  | none => none
 | .alloc T => match dst with
  | some t => match zcT P T with
   | some z => match bstep s t z with
    | some s' => some ([], s')
    | none => none
   | none => none
  | none => none
 | .store T x y => match dst with
  | none => match sstep P s T (ev s x) (ev s y) with
   | some s' => some ([], s')
   | none => none
  | some _ => none
 | .buildSlice T len parts => match dst with
  | some t => match bsD P s T len parts.toList with
   | some (p, d) => bif Nat.blt t s.n then some (p, s.put t d) else none
   | none => none
  | none => none
 | op => match dst with
  | some t => qstep P s t op
  | none => none
def stepG (P : Program) (l : List Oper) (s : St) (dst : Option Nat) (op : Op) (j : Nat) (b : Bool) : Option (List Prop × St) :=
 match dst, nthDst l j with
 | some t, some tj => match gstep P s t tj b op with
  | some (p, s') => some ([p], s')
  | none => none
 | _, _ => none
def stepA (P : Program) (l : List Oper) (s : St) : Oper → Option (List Prop × St)
 | ⟨dst, op, _, _, _, none⟩ => stepU P s dst op
 | ⟨dst, op, _, _, _, some (j, b)⟩ => stepG P l s dst op j b
def runQ (P : Program) (l : List Oper) : List Oper → St → List Prop × St × List Oper
 | [], s => ([], s, [])
 | o :: r, s => match stepA P l s o with
  | some (p, s') => match runQ P l r s' with
   | (q, s'', r') => (p ++ q, s'', r')
  | none => ([], s, o :: r)
section
variable {P : Program} {F : List Nat} {w0 : Base} {Q : Exit → Act → World → Prop} {s : St}
theorem allP_append {p q : List Prop} : allP (p ++ q) ↔ allP p ∧ allP q := by
 induction p with
 | nil => simp [allP]
 | cons x r ih => simp [allP, ih, and_assoc]
theorem stepU_ok {ops : Array Oper} {rest : List Oper} {dst : Option Nat} {op : Op} {ty : Nat} {pos : String} {af : Array Edge} {p : List Prop} {s' : St} (hq : stepU P s dst op = some (p, s')) (hp : allP p)
  (hn : RunL P F w0 ops Q rest s') : RunL P F w0 ops Q (⟨dst, op, ty, pos, af, none⟩ :: rest) s := by
 unfold stepU at hq
 split at hq
 ·split at hq
  ·split at hq
   ·rename_i hb
    simp only [Option.some.injEq, Prod.mk.injEq] at hq
    obtain ⟨rfl, rfl⟩ := hq
    exact stepbox hb hn
   ·cases hq
  ·cases hq
 ·split at hq
  ·split at hq
   ·rename_i hz
    split at hq
    ·rename_i hb
     simp only [Option.some.injEq, Prod.mk.injEq] at hq
     obtain ⟨rfl, rfl⟩ := hq
     exact stepalloc hz hb hn
    ·cases hq
   ·cases hq
  ·cases hq
 ·split at hq
  ·split at hq
   ·rename_i hb
    simp only [Option.some.injEq, Prod.mk.injEq] at hq
    obtain ⟨rfl, rfl⟩ := hq
    exact stepstore hb hn
   ·cases hq
  ·cases hq
 ·split at hq
  ·split at hq
   ·rename_i t _ p' d hb
    cases hbl : Nat.blt t s.n
    ·rw [hbl] at hq; cases hq
    ·rw [hbl] at hq
     simp only [cond_true, Option.some.injEq, Prod.mk.injEq] at hq
     obtain ⟨rfl, rfl⟩ := hq
     exact fun h e a w D => wpS_plain rfl fun K hK => wp_bs D hb hp (blt_lt hbl) K _ fun h' e' a' w' D' => hK _ _ (hn _ _ _ _ D')
   ·cases hq
  ·cases hq
 ·split at hq
  ·exact stepq hq hp hn
  ·cases hq
theorem stepA_ok {l rest : List Oper} {o : Oper} {p : List Prop} {s' : St} (hq : stepA P l s o = some (p, s')) (hp : allP p) (hn : RunL P F w0 l.toArray Q rest s') : RunL P F w0 l.toArray Q (o :: rest) s := by
 obtain ⟨dst, op, ty, pos, af, g⟩ := o
 cases g with
 | none => exact stepU_ok hq hp hn
 | some g =>
  obtain ⟨j, b⟩ := g
  simp only [stepA] at hq
  unfold stepG at hq
  split at hq
  ·rename_i t tj hj
   split at hq
   ·rename_i p' s'' hg
    simp only [Option.some.injEq, Prod.mk.injEq] at hq
    obtain ⟨rfl, rfl⟩ := hq
    exact stepg tj ((nthDst_ok l j).trans hj) hg hp.1 hn
   ·cases hq
  ·cases hq
end
end Go.Sx
namespace Go.Sx
open Go.RowKit
def keepS (l : List (Nat × SD)) : List Nat → List (Nat × SD)
 | [] => []
 | i :: r => (i, lkp l i) :: keepS l r
def updS {α : Type} (l : List (Nat × α)) : List (Nat × α) → List (Nat × α)
 | [] => l
 | (i, x) :: r => upd (updS l r) i x
theorem subS_keep {l : List (Nat × SD)} : ∀ (ns : List Nat), subS l (keepS l ns)
 | [] => trivial
 | i :: r => ⟨SLe.refl _, subS_keep r⟩
theorem subS_append {l a b : List (Nat × SD)} (ha : subS l a) (hb : subS l b) : subS l (a ++ b) := by
 induction a with
 | nil => exact hb
 | cons p r ih => obtain ⟨i, d⟩ := p; exact ⟨ha.1, ih ha.2⟩
theorem lkO_keep {l : List (Nat × OB)} : ∀ {u : List (Nat × OB)}, subO l u → ∀ {k : Nat} {o : OB}, lkO (updS l u) k = some o → ∃ o0, lkO l k = some o0 ∧ OLe o0 o
 | [], _, k, o, h => ⟨o, h, OLe.refl o⟩
 | (i, d) :: r, hu, k, o, h => by
  simp only [updS, lkO_upd] at h
  by_cases hk : k = i
  ·subst hk
   simp only [if_true, Option.some.injEq] at h
   subst h
   exact hu.1
  ·simp only [hk, if_false] at h
   exact lkO_keep hu.2 h
theorem run_loop0 {P : Program} {F : List Nat} {w0 : Base} {fin : Exit → Act → World → Prop} {k : List It} {σ : Type} {body : Code} (I : σ → Prop) (μ : σ → Nat) (S : σ → St) (x0 : σ) (h0 : I x0)
  (hb : ∀ x, I x → Run P F w0 fin (.code body :: .lp (LI F w0 S I μ x) :: k) (S x)) : Run P F w0 fin (.code (.loop body) :: k) (S x0) := fun h e a w D0 => by
 show (Code.loop body).wpIn (fe w0.rd) 0 P (post P w0.rd fin k) a w
 refine wpIn_loop_ghost (fun n a w => ∃ x, I x ∧ μ x = n ∧ ∃ h e, Den F w0 (S x) h e a w) (μ x0) ⟨x0, h0, rfl, h, e, D0⟩ fun n a w hJ => ?_
 obtain ⟨x, hx, rfl, h, e, D⟩ := hJ
 refine wpIn_mono (hb x hx h e a w D) fun e a w hq => ?_
 cases e with
 | normal =>
  obtain ⟨x', h1, h2, h', e', D'⟩ := hq
  exact ⟨μ x', h2, x', h1, rfl, h', e', D'⟩
 | _ => exact hq
section
variable {P : Program} {F : List Nat} {w0 : Base} {fin : Exit → Act → World → Prop} {k : List It} {s : St}
theorem Den.weak' {h : Hp} {e : Nm} {a : Act} {w : World} (D : Den F w0 s h e a w) {s' : St} (hn : s.n = s'.n) (h1 : subS s.sl s'.sl) (h2 : ∀ k o, lkO s'.ow k = some o → ∃ o0, lkO s.ow k = some o0 ∧ OLe o0 o) : Den F w0 s' h e a w := by
 refine ⟨D.defers, D.size.trans hn, fun t => subS_ok h1 t h e _ (D.slot t), fun j o hj => ?_, fun j o b hj hb => ?_, fun j j' o o' b hne hj hj' hb => ?_, D.sub, D.keeps, D.le, D.neww, D.fix⟩
 ·obtain ⟨o0, g1, g2⟩ := h2 j o hj
  exact g2.ok (D.own j o0 g1)
 ·obtain ⟨o0, g1, g2⟩ := h2 j o hj
  rw [g2.blk] at hb
  exact D.ownb j o0 b g1 hb
 ·obtain ⟨o0, g1, g2⟩ := h2 j o hj
  obtain ⟨o1, g3, g4⟩ := h2 j' o' hj'
  rw [g2.blk] at hb
  rw [g4.blk]
  exact D.apart j j' o0 o1 b hne g1 g3 hb
def headS {σ : Type} (s : St) (ns : List Nat) (U : σ → List (Nat × SD)) (UO : σ → List (Nat × OB)) (x : σ) : St := ⟨s.n, s.nx, U x ++ keepS s.sl ns, updS s.ow (UO x)⟩
theorem zN {σ : Type} {body : Code} {S : σ → St} (ns : List Nat) (U : σ → List (Nat × SD)) (UO : σ → List (Nat × OB)) (I : σ → Prop) (μ : σ → Nat) (x0 : σ) (hS : ∀ x, headS s ns U UO x = S x) (h0 : I x0)
  (hs : subS s.sl (U x0)) (ho : subO s.ow (UO x0)) (hb : ∀ x, I x → Run P F w0 fin (.code body :: .lp (LI F w0 S I μ x) :: k) (S x)) : Run P F w0 fin (.code (.loop body) :: k) s := fun h e a w D => by
 have D0 : Den F w0 (S x0) h e a w := by
  rw [← hS x0]
  exact D.weak' rfl (subS_append hs (subS_keep ns)) fun k o hk => lkO_keep ho hk
 exact run_loop0 I μ S x0 h0 hb h e a w D0
end
end Go.Sx
