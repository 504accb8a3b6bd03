/- Part of the proof that the laws of the judge return true for every input: J94, J95, J96. -/
import Derived.Test.YtmbocmonhcplhaaGreatU361
import Derived.Test.YtmbocmonhcplhaaGreatU362
import Derived.Test.YtmbocmonhcplhaaGreatU365
import Derived.Test.YtmbocmonhcplhaaGreatU364
import Derived.Test.YtmbocmonhcplhaaGreatU366
import Derived.Test.YtmbocmonhcplhaaGreatU367
import Derived.Test.YtmbocmonhcplhaaGreatU368
import Derived.Test.YtmbocmonhcplhaaGreatJ61
import Derived.Test.YtmbocmonhcplhaaGreatJ13
import Derived.Test.YtmbocmonhcplhaaGreatJ31
import Derived.Test.YtmbocmonhcplhaaGreatS4
import Derived.Test.YtmbocmonhcplhaaGreatJ92a
import Derived.Test.YtmbocmonhcplhaaGreatJ41
set_option linter.all false
namespace Go.Sx
open Go.Proofs Go.RowKit
set_option maxRecDepth 10000
def inP (n : Need) : List Nat → Prop
 | [] => True
 | i :: r => i < n.L.length ∧ inP (n.L.getD i default) r
theorem FnM.weaken {P : Program} {f : Nat} {R R' : List SD → List OB → SD → List (Nat × OB) → Prop} (h1 : FnM P f R) (h : ∀ a b c d, R' a b c d → R a b c d) : FnM P f R' := ⟨h1.call, fun ds os d os' x => h1.ok ds os d os' (h ds os d os' x)⟩
theorem FnM.or {P : Program} {f : Nat} {R R' : List SD → List OB → SD → List (Nat × OB) → Prop} (h1 : FnM P f R) (h2 : FnM P f R') : FnM P f (fun a b c d => R a b c d ∨ R' a b c d) := ⟨h1.call, fun ds os d os' h => h.elim (h1.ok ds os d os') (h2.ok ds os d os')⟩
theorem K89r : ∀ d : Nat, d ≤ 3 → FnM Tryz.prog 89 (fun ds os v os' => ∃ (n : Need) (p : List Nat), (GOk d n ∧ inP n p ∧ p.length ≤ d) ∧ ds = [eNeedU n] ∧ os = [] ∧ v = resP 0 n p ∧ os' = osP 0 n p)
 | 0, _ => (K89o0 (fun _ => False) K89_none).weaken fun ds os v os' ⟨n, p, ⟨hn, hp, hl⟩, h1, h2, h3, h4⟩ => by
  have hL : n.L = [] := hn.2
  obtain rfl : p = [] := List.eq_nil_of_length_eq_zero (by omega)
  exact ⟨n, ⟨fun m hm => (by rw [hL] at hm; cases hm), by rw [hL]; simp⟩, h1, h2, h3, h4⟩
 | d + 1, hd => by
  have k0 := K89o0 (fun m => WOk d m) (K89 d)
  have k1 := K89o (fun m => WOk d m) (fun c r => GOk d c ∧ inP c r ∧ r.length ≤ d) (fun c r h => by omega) (K89 d) (K89r d (by omega))
  refine (k0.or k1).weaken ?_
  rintro ds os v os' ⟨n, p, ⟨hn, hp, hl⟩, h1, h2, h3, h4⟩
  have hm : ∀ m ∈ n.L, WOk d m := fun m hm => (hn.2.2 m hm).wokd (by omega)
  have hle : n.L.length ≤ 10000 := by have := hn.2.1; omega
  cases p with
  | nil => exact .inl ⟨n, ⟨hm, hle⟩, h1, h2, h3, h4⟩
  | cons i r => exact .inr ⟨n, i, r, ⟨hp.1, hm, ⟨hn.2.2 _ (getD_mem' hp.1), hp.2, by simpa using hl⟩, hle⟩, h1, h2, h3, h4⟩
def pathO : Nat → Need → Int → List Nat
 | 0, _, _ => []
 | d + 1, n, c => if contO n c then
   let i := ((IntKind.i64.wrap ((IntKind.i64.wrap (c.tdiv 3)).tmod (n.L.length : Int) + (n.L.length : Int))).tmod (n.L.length : Int)).toNat
   i :: pathO d (n.L.getD i default) (IntKind.i64.wrap (c.tdiv 3))
  else []
theorem idx_bd (x : Int) (m : Nat) (hm : 0 < m) (h3 : m ≤ 3) : 0 ≤ (IntKind.i64.wrap (x.tmod (m : Int) + (m : Int))).tmod (m : Int) ∧ (IntKind.i64.wrap (x.tmod (m : Int) + (m : Int))).tmod (m : Int) < (m : Int) := modR_bd x (m : Int) (by omega) (by omega)
theorem pathO_ok : ∀ (d : Nat) (n : Need) (c : Int), GOk d n → stepsOk n c (pathO d n c) ∧ inP n (pathO d n c) ∧ (pathO d n c).length ≤ d
 | 0, n, c, h => ⟨⟨by rw [show n.L = [] from h.2]; rfl, by have := h.1.2; omega, by rw [show n.L = [] from h.2]; simp⟩, trivial, Nat.le_refl _⟩
 | d + 1, n, c, h => by
  simp only [pathO]
  split
  ·rename_i hc
   have hc0 := hc
   simp only [contO, Bool.and_eq_true, decide_eq_true_eq] at hc0
   have hb := idx_bd (IntKind.i64.wrap (c.tdiv 3)) n.L.length (by omega) h.2.1
   generalize hi : ((IntKind.i64.wrap ((IntKind.i64.wrap (c.tdiv 3)).tmod (n.L.length : Int) + (n.L.length : Int))).tmod (n.L.length : Int)) = z at hb ⊢
   obtain ⟨i, rfl⟩ : ∃ i : Nat, z = (i : Int) := ⟨z.toNat, by omega⟩
   rw [Int.toNat_natCast]
   have hlt : i < n.L.length := by omega
   obtain ⟨g1, g2, g3⟩ := pathO_ok d (n.L.getD i default) (IntKind.i64.wrap (c.tdiv 3)) (h.2.2 _ (getD_mem' hlt))
   exact ⟨⟨hc, hi, hlt, g1⟩, ⟨hlt, g2⟩, by simp only [List.length_cons]; omega⟩
  ·rename_i hc
   exact ⟨⟨by simpa [contO] using hc, by have := h.1.2; omega, by have := h.2.1; omega⟩, trivial, Nat.zero_le _⟩
def oddK (q : Q3) : Nat := ((IntKind.i64.wrap (q.b.tmod 14 + 14)).tmod 14).toNat
def oddF (d : Nat) (n : Need) (q : Q3) : Need := let a := (IntKind.i64.wrap (q.a.tmod 9 + 9)).tmod 9
 if a = 8 then .mk 3 0 0 [] (wrL n (oddK q)) else oddAt a (oddK q) n (pathO d n q.c)
theorem K36 (d : Nat) (hd : d ≤ 3) : FnOK Tryz.prog 36 (fun ds v => ∃ (n : Need) (q : Q3), GOk d n ∧ ds = [eNeedU n, eQ q] ∧ v = eNeedU (oddF d n q)) := by
 have K := K89r d hd
 have hR : ∀ (n : Need) (p : List Nat), (GOk d n ∧ inP n p ∧ p.length ≤ d) → p.length ≤ 3 := fun n p h => by omega
 refine ⟨(K36_0 _ hR K).call, ?_⟩
 rintro ds v ⟨n, q, hn, rfl, rfl⟩
 obtain ⟨g1, g2, g3⟩ := pathO_ok d n q.c hn
 have hb : 0 ≤ (IntKind.i64.wrap (q.a.tmod 9 + 9)).tmod 9 ∧ (IntKind.i64.wrap (q.a.tmod 9 + 9)).tmod 9 < 9 := modR_bd q.a 9 (by omega) (by omega)
 simp only [oddF]
 have h9 : (IntKind.i64.wrap (q.a.tmod 9 + 9)).tmod 9 = 0 ∨ (IntKind.i64.wrap (q.a.tmod 9 + 9)).tmod 9 = 1 ∨ (IntKind.i64.wrap (q.a.tmod 9 + 9)).tmod 9 = 2 ∨ (IntKind.i64.wrap (q.a.tmod 9 + 9)).tmod 9 = 3 ∨ (IntKind.i64.wrap (q.a.tmod 9 + 9)).tmod 9 = 4 ∨ (IntKind.i64.wrap (q.a.tmod 9 + 9)).tmod 9 = 5 ∨ (IntKind.i64.wrap (q.a.tmod 9 + 9)).tmod 9 = 6 ∨ (IntKind.i64.wrap (q.a.tmod 9 + 9)).tmod 9 = 7 ∨ (IntKind.i64.wrap (q.a.tmod 9 + 9)).tmod 9 = 8 := by omega
 rcases h9 with h | h | h | h | h | h | h | h | h <;> rw [h]
 ·exact (K36_0 _ hR K).ok _ _ ⟨n, q, _, ⟨⟨hn, g2, g3⟩, g1, h⟩, rfl, rfl⟩
 ·exact (K36_1 _ hR K).ok _ _ ⟨n, q, _, ⟨⟨hn, g2, g3⟩, g1, h⟩, rfl, rfl⟩
 ·exact (K36_2 _ hR K).ok _ _ ⟨n, q, _, ⟨⟨hn, g2, g3⟩, g1, h⟩, rfl, rfl⟩
 ·exact (K36_3 _ hR K).ok _ _ ⟨n, q, _, ⟨⟨hn, g2, g3⟩, g1, h⟩, rfl, rfl⟩
 ·exact (K36_4 _ hR K).ok _ _ ⟨n, q, _, ⟨⟨hn, g2, g3⟩, g1, h⟩, rfl, rfl⟩
 ·exact (K36_5 _ hR K).ok _ _ ⟨n, q, _, ⟨⟨hn, g2, g3⟩, g1, h⟩, rfl, rfl⟩
 ·exact (K36_6 _ hR K).ok _ _ ⟨n, q, _, ⟨⟨hn, g2, g3⟩, g1, h⟩, rfl, rfl⟩
 ·exact (K36_7 _ hR K).ok _ _ ⟨n, q, _, ⟨⟨hn, g2, g3⟩, g1, h⟩, rfl, rfl⟩
 ·exact (K36_8 _ hR K).ok _ _ ⟨n, q, _, ⟨⟨hn, g2, g3⟩, g1, h⟩, rfl, rfl⟩
theorem NOk.zero {n : Need} (hs : SetOk n) (hL : n.L = []) : ∀ d, NOk d n
 | 0 => ⟨hs, hL⟩
 | d + 1 => ⟨hs, by rw [hL]; intro x hx; cases hx⟩
theorem asc1 (b : UInt8) (hb : b.toNat < 128) : Asc ⟨#[b]⟩ := ⟨by show 1 ≤ 100000; omega, fun i hi => by
 have h1 : i < 1 := hi
 obtain rfl : i = 0 := by omega
 exact hb⟩
theorem asc2 (a b : UInt8) (ha : a.toNat < 128) (hb : b.toNat < 128) : Asc ⟨#[a, b]⟩ := ⟨by show 2 ≤ 100000; omega, fun i hi => by
 have h1 : i < 2 := hi
 rcases (show i = 0 ∨ i = 1 by omega) with rfl | rfl
 ·exact ha
 ·exact hb⟩
theorem asc_all (l : List UInt8) (h : l.all (fun b => decide (b.toNat < 128)) = true) (hl : l.length ≤ 100000) : Asc ⟨l.toArray⟩ := ⟨by show l.toArray.size ≤ 100000; simpa using hl, fun i hi => by
 have h1 : i < l.length := by have : i < l.toArray.size := hi; simpa using this
 have := List.all_eq_true.1 h _ (List.getElem_mem h1)
 simp only [decide_eq_true_eq] at this
 show (l.toArray[i]'_).toNat < 128
 simpa using this⟩
theorem zs14_asc (k : Nat) : Asc (zs14.getD k ByteArray.empty) := by
 by_cases h : k < 14
 ·rcases (show k = 0 ∨ k = 1 ∨ k = 2 ∨ k = 3 ∨ k = 4 ∨ k = 5 ∨ k = 6 ∨ k = 7 ∨ k = 8 ∨ k = 9 ∨ k = 10 ∨ k = 11 ∨ k = 12 ∨ k = 13 by omega) with rfl | rfl | rfl | rfl | rfl | rfl | rfl | rfl | rfl | rfl | rfl | rfl | rfl | rfl <;> exact asc_all _ (by decide) (by decide)
 ·rw [List.getD_eq_getElem?_getD, List.getElem?_eq_none (by show 14 ≤ k; omega)]
  exact asc_all [] rfl (by simp)
theorem zJ_asc {j : Nat} (h : j < 14) : Asc (zJ j) := asc2 _ _ (by decide) (by rw [UInt8.toNat_ofNat']; omega)
theorem leafA_ok : SetOk leafA := fun c hc => by
 obtain rfl : c = ⟨1, ⟨#[65]⟩⟩ := by simpa [leafA, Need.Set] using hc
 exact asc1 _ (by decide)
theorem leafB_ok : SetOk leafB := fun c hc => by
 obtain rfl : c = ⟨2, ⟨#[66]⟩⟩ := by simpa [leafB, Need.Set] using hc
 exact asc1 _ (by decide)
theorem setC_asc {l : List Course} (h : ∀ c ∈ l, Asc c.Code) (k : Nat) : ∀ c ∈ setC l k, Asc c.Code := by
 cases l with
 | nil => intro c hc; cases hc
 | cons x r =>
  intro c hc
  rcases List.mem_cons.1 hc with rfl | hc
  ·exact zs14_asc k
  ·exact h c (List.mem_cons_of_mem _ hc)
theorem nodes_leaf {n : Need} (hL : n.L = []) : ∀ d k, (nodesF d k n).length = 1
 | 0, _ => rfl
 | d + 1, k => by rw [nodesF_succ, hL]; rfl
theorem nodes_up : ∀ (d k : Nat) {n : Need}, NOk d n → (nodesF (d + 1) k n).length = (nodesF d k n).length
 | 0, k, n, h => nodes_leaf h.2 _ _
 | d + 1, k, n, h => by
  rw [nodesF_succ, nodesF_succ]
  congr 1
  have key : ∀ l : List Need, (∀ x ∈ l, NOk d x) → (l.flatMap (nodesF (d + 1) (k + 1))).length = (l.flatMap (nodesF d (k + 1))).length := fun l => by
   induction l with
   | nil => intro _; rfl
   | cons x r ih =>
    intro hx
    rw [List.flatMap_cons, List.flatMap_cons, List.length_append, List.length_append, ih fun y hy => hx y (List.mem_cons_of_mem _ hy), nodes_up d (k + 1) (hx x List.mem_cons_self)]
  exact key n.L h.2
theorem oddT_ok {d : Nat} {n : Need} (h : GOk d n) (a : Int) {k : Nat} (hk : k < 14) (kk : Nat) : NOk (d + 1) (oddT n a k) ∧ (nodesF (d + 1) kk (oddT n a k)).length ≤ c3 d + 1 := by
 have h0 := (NOk.up h.nok).1
 have hn := nodes_up d kk h.nok
 have hc := GOk.nodes d kk h
 have hch : ∀ x ∈ n.L, NOk d x := h0.2
 have hs : SetOk n := h0.1
 have same : ∀ m : Need, SetOk m → m.L = n.L → NOk (d + 1) m ∧ (nodesF (d + 1) kk m).length ≤ c3 d + 1 := fun m hm hL => by
  refine ⟨⟨hm, by rw [hL]; exact hch⟩, ?_⟩
  rw [nodesF_succ, hL, ← nodesF_succ d kk n, hn]; omega
 unfold oddT
 split
 ·exact same _ hs rfl
 split
 ·exact same _ hs rfl
 split
 ·exact same _ hs rfl
 split
 ·refine same _ (fun c hc => ?_) rfl
  rcases List.mem_append.1 hc with hc | hc
  ·exact hs c hc
  ·obtain rfl : c = ⟨IntKind.i64.wrap ((k : Int) - 2), ⟨#[90]⟩⟩ := by simpa using hc
   exact asc1 _ (by decide)
 split
 ·refine ⟨⟨hs, fun x hx => ?_⟩, ?_⟩
  ·rcases List.mem_append.1 hx with hx | hx
   ·exact hch x hx
   ·obtain rfl : x = leafA := by simpa using hx
    exact NOk.zero leafA_ok rfl d
  ·rw [nodesF_succ]
   show 1 + ((n.L ++ [leafA]).flatMap (nodesF d (kk + 1))).length ≤ _
   rw [List.flatMap_append, List.length_append, List.flatMap_cons, List.flatMap_nil, List.append_nil, nodes_leaf (n := leafA) rfl]
   rw [nodesF_succ] at hn
   omega
 split
 ·exact same _ (fun c hc => by cases hc) rfl
 split
 ·exact same _ (setC_asc hs k) rfl
 ·refine same _ (fun c hc => ?_) rfl
  rcases List.mem_append.1 hc with hc | hc
  ·exact hs c hc
  ·obtain ⟨j, hj, rfl⟩ := List.mem_map.1 hc
   exact zJ_asc (by have := List.mem_range.1 hj; omega)
theorem flat_set (f : Need → List (Need × Nat)) : ∀ (l : List Need) (i : Nat) (x : Need), i < l.length → ((l.set i x).flatMap f).length + (f (l.getD i default)).length = (l.flatMap f).length + (f x).length
 | [], i, x, h => absurd h (Nat.not_lt_zero i)
 | y :: r, 0, x, _ => by simp only [List.set_cons_zero, List.flatMap_cons, List.length_append, List.getD_cons_zero]; omega
 | y :: r, i + 1, x, h => by
  have := flat_set f r i x (by simpa using h)
  simp only [List.set_cons_succ, List.flatMap_cons, List.length_append, List.getD_cons_succ]; omega
theorem oddAt_ok : ∀ (p : List Nat) (d : Nat) {n : Need} (_ : GOk d n) (a : Int) {k : Nat} (_ : k < 14) (kk : Nat), inP n p → p.length ≤ d → NOk (d + 1) (oddAt a k n p) ∧ (nodesF (d + 1) kk (oddAt a k n p)).length ≤ (nodesF d kk n).length + c3 d + 1
 | [], d, n, h, a, k, hk, kk, _, _ => by
  have := oddT_ok h a hk kk
  exact ⟨this.1, by have := this.2; simp only [oddAt]; omega⟩
 | i :: r, 0, n, h, a, k, hk, kk, _, hl => by simp only [List.length_cons] at hl; omega
 | i :: r, d + 1, n, h, a, k, hk, kk, hp, hl => by
  have hc : GOk d (n.L.getD i default) := h.2.2 _ (getD_mem' hp.1)
  obtain ⟨g1, g2⟩ := oddAt_ok r d hc a hk (kk + 1) hp.2 (by simpa using hl)
  refine ⟨⟨fun c hc => (h.1.1 c hc).asc, fun x hx => ?_⟩, ?_⟩
  ·rcases List.mem_or_eq_of_mem_set hx with hx | rfl
   ·exact (NOk.up (GOk.nok d (h.2.2 x hx))).1
   ·exact g1
  ·rw [nodesF_succ]
   show 1 + ((n.L.set i (oddAt a k (n.L.getD i default) r)).flatMap (nodesF (d + 1) (kk + 1))).length ≤ _
   have h1 := flat_set (nodesF (d + 1) (kk + 1)) n.L i (oddAt a k (n.L.getD i default) r) hp.1
   have h2 := nodes_up (d + 1) kk h.nok
   rw [nodesF_succ] at h2
   have h3 := nodes_up d (kk + 1) hc.nok
   simp only [c3]
   omega
theorem oddK_lt (q : Q3) : oddK q < 14 := by
 have : 0 ≤ (IntKind.i64.wrap (q.b.tmod 14 + 14)).tmod 14 ∧ (IntKind.i64.wrap (q.b.tmod 14 + 14)).tmod 14 < 14 := modR_bd q.b 14 (by omega) (by omega)
 unfold oddK; omega
theorem oddF_ok {n : Need} (h : GOk 3 n) (q : Q3) : WOk 4 (oddF 3 n q) := by
 obtain ⟨_, g2, g3⟩ := pathO_ok 3 n q.c h
 have hk := oddK_lt q
 have hn := GOk.nodes 3 1 h
 simp only [c3] at hn
 unfold oddF
 simp only
 split
 ·refine ⟨⟨fun c hc => (by cases hc), fun x hx => ?_⟩, ?_⟩
  ·rcases List.mem_cons.1 hx with rfl | hx
   ·exact h.nok
   ·obtain rfl := List.eq_of_mem_replicate hx
    exact NOk.zero leafB_ok rfl 3
  ·rw [nodesF_succ]
   show 1 + ((n :: List.replicate (oddK q) leafB).flatMap (nodesF 3 2)).length ≤ 1000
   have h1 := flat_bd (nodesF 3 2) 1 (List.replicate (oddK q) leafB) fun x hx => by
    obtain rfl := List.eq_of_mem_replicate hx
    rw [nodes_leaf rfl]
    exact Nat.le_refl _
   have h2 := GOk.nodes 3 2 h
   simp only [c3] at h2
   rw [List.length_replicate] at h1
   rw [List.flatMap_cons, List.length_append]
   omega
 ·obtain ⟨k1, k2⟩ := oddAt_ok (pathO 3 n q.c) 3 h ((IntKind.i64.wrap (q.a.tmod 9 + 9)).tmod 9) hk 1 g2 g3
  refine ⟨k1, ?_⟩
  simp only [c3] at k2
  exact Nat.le_trans k2 (by omega)
end Go.Sx
namespace Go.Sx
open Go.Proofs Go.RowKit
attribute [local irreducible] Run RunL RunD OpT SLe0 SLe OLe
set_option maxHeartbeats 2000000
set_option maxRecDepth 8000
set_option maxHeartbeats 40000000
theorem accI (l : List Int) : OLe (.acc 3 1 (0 + l.length) (joinF 0 (fun _ => .any) fun i => eInt (l.getD i default))) (.acc 3 1 l.length fun i => eInt (l.getD i default)) := OLe.accS (Nat.zero_add _) fun i _ => by
 simp only [joinF, Nat.not_lt_zero, if_false, Nat.sub_zero]
theorem K23m : FnM Tryz.prog 23 (fun ds os d os' => ∃ a : Ach, ds = [eAch a] ∧ os = [] ∧ d = .agg [.int .i64 a.Course.School, .str a.Course.Code, .int .i64 a.Credits, .int .i64 a.Grade, .int .i64 a.Day, .acc 2, .int .i64 a.Bundle, .acc 3] ∧ os' = [(2, .acc 3 1 a.Sources.length fun i => eInt (a.Sources.getD i default)), (3, .acc 3 1 a.Path.length fun i => eInt (a.Path.getD i default))]) := by
 refine fn_introM Tryz.call23 Tryz.func23 rfl Tryz.ntmps23 ?_
 rintro ds os d os' ⟨a, rfl, rfl, rfl, rfl⟩
 refine ⟨by simp, fun F w0 => ?_⟩
 refine yE 0 5 rfl rfl fun h1 => ?_
 refine yE 0 7 rfl rfl fun h2 => ?_
 repeat' (first | apply zC | apply zA | apply zB | refine zF qS qR ?_ ?_ | exact True.intro | exact rfl | exact qP | fail)
 refine zR (o' := .acc 3 1 a.Sources.length fun i => eInt (a.Sources.getD i default)) 2 qR (accI _) ?_
 refine zR (o' := .acc 3 1 a.Path.length fun i => eInt (a.Path.getD i default)) 3 qR (accI _) ?_
 refine yC qR qS ?_ ?_
 ·exact SLe.refl _
 ·(show subO _ _; simp only [go_sem]; repeat' (first | exact SLe.any1 | exact trivial | exact True.intro | exact SLe.refl _ | exact OLe.refl _ | exact ⟨_, rfl, OLe.refl _⟩ | refine ⟨_, rfl, ?_⟩ | refine OLe.var ?_ | (show SLeL _ _; refine ⟨?_, ?_⟩) | (show SLeL [] []; exact True.intro) | (refine SLe.int ?_; rw [w64]; omega) | refine SLe.int ?_ | refine SLe.bool ?_ | apply And.intro))
def codes4 : List ByteArray := [⟨#[65, 49]⟩, ⟨#[66, 49]⟩, ⟨#[]⟩, ⟨#[65]⟩]
def oddA (x : Ach) (a : Int) (k : Nat) : Ach :=
 if a = 0 then { x with Course := ⟨(k : Int).tmod 9, x.Course.Code⟩ }
 else if a = 1 then { x with Course := ⟨x.Course.School, codes4.getD (k % 4) ByteArray.empty⟩ }
 else if a = 2 then { x with Credits := k }
 else if a = 3 then { x with Grade := IntKind.i64.wrap (IntKind.i64.wrap (5 * (k : Int)) - 50) }
 else if a = 4 then { x with Day := IntKind.i64.wrap (20 * (k : Int)) }
 else if a = 5 then { x with Sources := x.Sources ++ [IntKind.i64.wrap (1000000 + (k : Int))] }
 else if a = 6 then { x with Bundle := IntKind.i64.wrap ((k : Int).tmod 5 - 1) }
 else { x with Path := x.Path ++ [(k : Int).tmod 3] }
theorem SLe.snocI (l : List Int) (x : Int) {f : Nat → SD} (hf : f 0 = .int .i64 x) : SLe (.list 1 (l.length + 1) (joinF l.length (fun i => .int .i64 (l.getD i default)) f)) (ints (l ++ [x])) := SLe.list (by simp) fun i hi => by
 show joinF _ _ _ i = .int .i64 ((l ++ [x]).getD i default)
 simp only [joinF]
 by_cases h : i < l.length
 ·rw [if_pos h]
  congr 1
  simp [List.getD_eq_getElem?_getD, List.getElem?_append_left h]
 ·have : i = l.length := by omega
  subst this
  rw [if_neg h, Nat.sub_self, hf]; simp
theorem K38 : FnOK Tryz.prog 38 (fun ds v => ∃ (a : Ach) (q : Int × Int), (a.Sources.length ≤ 10 ∧ a.Path.length ≤ 10) ∧ ds = [eAch a, .agg [.int .i64 q.1, .int .i64 q.2]] ∧ v = eAch (oddA a (modR q.1 8) (modR q.2 40).toNat)) := by
 refine fn_intro Tryz.call38 Tryz.func38 rfl Tryz.ntmps38 ?_
 rintro ds d ⟨a, q, ⟨h1, h2⟩, rfl, rfl⟩
 refine ⟨by simp, fun w0 => ?_⟩
 repeat' (first | apply zC | apply zD | apply zA | apply zB | refine zF qS qR ?_ ?_ | refine zW [] K23m qR qD qZ qF ?_ ⟨a, rfl, rfl, rfl, rfl⟩ qS ?_ | refine zM K24 qD ?_ ⟨_, _, (by omega), rfl, rfl⟩ qS ?_ | exact True.intro | exact rfl | exact qP | fail)
 have hk := modR_bd q.2 40 (by omega) (by omega)
 have ha := modR_bd q.1 8 (by omega) (by omega)
 generalize hK : modR q.2 40 = kk at hk ⊢
 obtain ⟨k, rfl⟩ : ∃ k : Nat, kk = (k : Int) := ⟨kk.toNat, by omega⟩
 rw [Int.toNat_natCast]
 rcases (show modR q.1 8 = 0 ∨ modR q.1 8 = 1 ∨ modR q.1 8 = 2 ∨ modR q.1 8 = 3 ∨ modR q.1 8 = 4 ∨ modR q.1 8 = 5 ∨ modR q.1 8 = 6 ∨ modR q.1 8 = 7 by omega) with h | h | h | h | h | h | h | h
 all_goals
  rw [h]
  have e4 : (k : Int).tmod 4 = ((k % 4 : Nat) : Int) := rfl
  have k4 : k % 4 < 4 := Nat.mod_lt _ (by omega)
  repeat' (first | apply zC | apply zL | apply zA | apply zB | refine zF (by simp only [go_sem, e4, Int.toNat_natCast]; rfl) qR ?_ ?_ | (refine zE (by simp only [go_sem, e4, Int.toNat_natCast]; rfl) ?_ ?_ <;> intro hb <;> have hc := hb <;> (try simp only [bF] at hc) <;> (try (exfalso; simp at hc; done))) | exact True.intro | exact rfl | exact qP | fail)
  refine zO 5 qS ?_
  refine zO 6 qS ?_
  repeat' (first | refine yA qR qS ?_ | exact SLe0.pure rfl | fail)
  all_goals (refine SLe0.le qZ ?_)
  all_goals first | exact SLe.refl _ | exact SLe.agg ⟨SLe.refl _, SLe.refl _, SLe.refl _, SLe.refl _, SLe.refl _, SLe.snocI _ _ rfl, SLe.refl _, SLe.refl _, trivial⟩ | exact SLe.agg ⟨SLe.refl _, SLe.refl _, SLe.refl _, SLe.refl _, SLe.refl _, SLe.refl _, SLe.refl _, SLe.snocI _ _ rfl, trivial⟩
end Go.Sx
namespace Go.Sx
open Go.Proofs Go.RowKit
attribute [local irreducible] Run RunL RunD OpT SLe0 SLe OLe
set_option maxHeartbeats 2000000
set_option maxRecDepth 8000
set_option maxHeartbeats 40000000
theorem K35 (d : Nat) : FnOK Tryz.prog 35 (fun ds v => ∃ p : Programme, WOk d p.Need ∧ ds = [eProg p] ∧ v = eProg p) := by
 have K := K89 d
 refine fn_intro Tryz.call35 Tryz.func35 rfl Tryz.ntmps35 ?_
 rintro ds d ⟨p, hp, rfl, rfl⟩
 refine ⟨by simp, fun w0 => ?_⟩
 refine yE 0 13 rfl rfl fun h1 => ?_
 repeat' (first | apply zC | apply zA | apply zB | refine zF qS qR ?_ ?_ | refine zM K qD ?_ ⟨p.Need, hp, rfl, rfl⟩ qS ?_ | exact True.intro | exact rfl | exact qP | fail)
 refine zO 2 qS ?_
 repeat' (first | refine yA qR qS ?_ | fail)
 all_goals (refine SLe0.le qZ ?_)
 refine SLe.agg ⟨SLe.refl _, SLe.refl _, SLe.refl _, SLe.refl _, SLe.refl _, SLe.refl _, SLe.refl _, SLe.refl _, SLe.refl _, SLe.refl _, SLe.refl _, SLe.refl _, SLe.refl _, SLe.list (Nat.zero_add _) fun i _ => ?_, trivial⟩
 simp only [joinF, Nat.not_lt_zero, if_false, Nat.sub_zero]
 rfl
end Go.Sx
