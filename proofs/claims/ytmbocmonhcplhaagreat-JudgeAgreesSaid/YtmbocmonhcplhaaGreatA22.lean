/- Part of the proof that the laws of the judge return true for every input: A9, A10, A11, A12, A17, A22. -/
import Derived.Test.YtmbocmonhcplhaaGreatA8
import Derived.Test.YtmbocmonhcplhaaGreatJ43
import Derived.Test.YtmbocmonhcplhaaGreatS4
set_option linter.all false
namespace Go.Sx
open Go.Proofs Go.RowKit
attribute [local irreducible] Run zAi zAy OpT zAc SLe OLe
set_option maxHeartbeats 2000000
set_option maxRecDepth 8000
set_option maxHeartbeats 20000000
def zKx (dec : List Int) (leaf : Int) (set : Nat) : Bool := (List.range dec.length).all fun k => (set.testBit k) == (dec.getD k default == leaf)
theorem K171 : FnOK Tryz.prog 171 (fun ds d => ∃ (dec : List Int) (leaf : Int) (set : Nat), (dec.length ≤ 10 ∧ set < 1024) ∧ ds = [eInt leaf, eInt (set : Nat), .fp [ints dec]] ∧ d = .bool (zKx dec leaf set)) := by
 refine zAa Tryz.call171 Tryz.func171 rfl Tryz.ntmps171 ?_
 rintro ds d ⟨dec, leaf, set, ⟨h1, h2⟩, rfl, rfl⟩
 refine ⟨by simp, fun w0 => ?_⟩
 repeat' (first | apply zC | apply zD | apply zA | apply zB | refine zF qS qR ?_ ?_ | exact zz0 | exact rfl | fail)
 refine zN [0, 1, 2, 8, 9] (fun x : Nat × Unit => [(10, .int .i64 x.1)]) (fun x : Nat × Unit => []) (fun x : Nat × Unit => x.1 ≤ dec.length ∧ ∀ k, k < x.1 → ((set.testBit k) == (dec.getD k default == leaf)) = true) (fun x : Nat × Unit => dec.length - x.1) (0, ()) (fun x => qS) ?_ qL qL ?_
 ·exact ⟨Nat.zero_le _, fun k hk => absurd hk (Nat.not_lt_zero k)⟩
 rintro ⟨k, _⟩ ⟨h3, h4⟩
 simp only at h3 h4
 repeat' (first | apply zC | apply zA | apply zB | refine zF qS qR ?_ ?_ | exact zz0 | exact rfl | fail)
 (refine zE qS ?_ ?_ <;> intro hb <;> have hc := hb <;> (try simp only [bF] at hc) <;> (try (exfalso; simp at hc; done)))
 ·have hk : k < dec.length := by omega
  have e := zZc set k (by omega) (by omega)
  have e5 : (zO8 .i64 (zMa .i64 (set : Int) (k : Int)) 1 == 1) = set.testBit k := by
   rw [e]; cases set.testBit k <;> rfl
  repeat' (first | apply zC | apply zG | apply zD | apply zA | apply zB | refine zF (by simp only [go_sem, e5]; rfl) qR ?_ ?_ | exact rfl | exact qP | fail)
  (refine zE qS ?_ ?_ <;> intro hb <;> have hc := hb <;> (try simp only [bF] at hc) <;> (try (exfalso; simp at hc; done)))
  ·have hf : zKx dec leaf set = false := by
    unfold zKx;rw [List.all_eq_false];refine ⟨k, List.mem_range.2 hk, ?_⟩
    revert hb
    cases set.testBit k <;> cases (dec.getD k default == leaf) <;> simp
   rw [hf]
   repeat' (first | apply zC | apply zA | apply zB | refine zF qS qR ?_ ?_ | refine zI qR ?_ | exact zz0 | exact rfl | exact zAc.bool rfl | fail)
  ·repeat' (first | apply zG | apply zL | apply zA | apply zB | refine zF qS qR ?_ ?_ | refine zS (k+1,()) ?_ ?_ ⟨rfl, qL, qL⟩ | exact zz0 | exact rfl | omega)
   refine ⟨by simp only; omega, fun j hj => ?_⟩
   rcases Nat.lt_or_ge j k with h | h
   ·exact h4 j h
   ·obtain rfl : j = k := by simp only at hj; omega
    revert hb
    cases set.testBit j <;> cases (dec.getD j default == leaf) <;> simp
 ·have hf : zKx dec leaf set = true := by
   unfold zKx;rw [List.all_eq_true];exact fun j hj => h4 j (by have := List.mem_range.1 hj; omega)
  rw [hf]
  repeat' (first | apply zC | apply zA | apply zB | refine zF qS qR ?_ ?_ | refine zI qR ?_ | refine zK qR ?_ | exact zz0 | exact rfl | exact zAc.bool rfl | fail)
theorem K173 : FnOK Tryz.prog 173 (fun ds d => ∃ x a b : Int, ds = [eInt x, .fp [.int .i64 a], .fp [.int .i64 b]] ∧ d = .bool (decide (a ≤ x) && decide (x < b))) := by
 refine zAa Tryz.call173 Tryz.func173 rfl Tryz.ntmps173 ?_
 rintro ds d ⟨x, a, b, rfl, rfl⟩
 refine ⟨by simp, fun w0 => ?_⟩
 repeat' (first | apply zC | apply zA | apply zB | refine zF qS qR ?_ ?_ | refine zI qR ?_ | exact zz0 | exact rfl | exact zAc.bool rfl | exact qP | fail)
theorem K172 : FnOK Tryz.prog 172 (fun ds d => ∃ (dec : List Int) (a b : Int), ds = [eInt a, eInt b, .fp [ints dec]] ∧ d = .bool (dec.any fun x => decide (a ≤ x) && decide (x < b))) := by
 refine zAa Tryz.call172 Tryz.func172 rfl Tryz.ntmps172 ?_
 rintro ds d ⟨dec, a, b, rfl, rfl⟩
 refine ⟨by simp, fun w0 => ?_⟩
 have hv : ∀ i, i < dec.length → FnV Tryz.prog 173 [.fp [.int .i64 a], .fp [.int .i64 b]] [eInt (dec.getD i default)] (.bool (decide (a ≤ dec.getD i default) && decide (dec.getD i default < b))) := fun i _ => ⟨_, K173, _, a, b, rfl, rfl⟩
 repeat' (first | refine zO 0 qS ?_ | refine zO 1 qS ?_ | apply zC | apply zA | apply zB | refine zF qS qR ?_ ?_ | refine zM yHf qD ?_ ⟨dec, 173, [.fp [.int .i64 a], .fp [.int .i64 b]], fun x => decide (a ≤ x) && decide (x < b), hv, rfl, rfl⟩ qS ?_ | refine zI qR ?_ | exact zz0 | exact rfl | exact zAc.bool rfl | fail)
end Go.Sx
namespace Go.Sx
open Go.Proofs Go.RowKit
def zL8 (ow : Nat → Bool) (be : Nat → Int) (sub rest : Nat) (v : Int) : Int := if ow sub = true ∧ 0 ≤ be rest then (if v < IntKind.i64.wrap (be rest + 1) then IntKind.i64.wrap (be rest + 1) else v) else v
def zEr (ow : Nat → Bool) (be : Nat → Int) (set : Nat) : Nat → Nat → Int → Int
 | 0, _, v => v
 | f + 1, sub, v => if sub = 0 then v else zEr ow be set f ((sub - 1) &&& set) (zL8 ow be sub (zBo set sub) v)
theorem zQv (ow : Nat → Bool) (be : Nat → Int) (set sub rest : Nat) (su : Nat → Int) (z : Nat) : zK5 ow be set sub rest su z = if z = set then zL8 ow be sub rest (su set) else su z := by
 unfold zK5 zL8
 by_cases hz : z = set
 ·subst hz
  by_cases h : ow sub = true ∧ 0 ≤ be rest
  ·rw [if_pos ⟨h.1, h.2, rfl⟩, if_pos rfl, if_pos h]
  ·rw [if_neg (fun h2 => h ⟨h2.1, h2.2.1⟩), if_pos rfl, if_neg h]
 ·rw [if_neg (fun h => hz h.2.2), if_neg hz]
theorem zR6 (ow : Nat → Bool) (be : Nat → Int) (set : Nat) : ∀ (f sub : Nat) (su : Nat → Int) (z : Nat), zHc ow be set f sub su z = if z = set then zEr ow be set f sub (su set) else su z
 | 0, _, su, z => by
  simp only [zHc, zEr];split
  ·rename_i h; rw [h]
  ·rfl
 | f + 1, sub, su, z => by
  by_cases hs : sub = 0
  ·simp only [zHc, zEr, if_pos hs]
   split
   ·rename_i h; rw [h]
   ·rfl
  ·simp only [zHc, zEr, if_neg hs]
   rw [zR6 ow be set f _ _ z, zQv, zQv, if_pos rfl];split <;> rfl
def zTu (n : Need) (x : Load) : Bool := if n.Kind = 1 then x.fine && x.many == 1 else x.fine && decide (0 < x.many) && decide (n.N ≤ x.credits)
def zDy (vis : Need → Nat → (Nat → Bool) × Nat) (some4 : Bool) (fo : Nat → Nat → Bool) : List Need → (Nat → Int) → Nat → (Nat → Int) × Nat
 | [], be, nx => (be, nx)
 | c :: r, be, nx => zDy vis some4 fo r (fun set => zEr (vis c nx).1 be set (set + 1) set (if (some4 && !fo nx (vis c nx).2) = true then be set else -1)) (vis c nx).2
def zEj (s : Scale) (l : List Ach) (al : Nat → Nat → Bool) (fo : Nat → Nat → Bool) : Nat → Need → Nat → (Nat → Bool) × Nat
 | 0, n, nx => (fun set => decide (0 < set) && (al nx set && zTu n (zD2 n s l set.testBit)), nx + 1)
 | d + 1, n, nx => if zBm n = true then (fun set => decide (0 < set) && (al nx set && zTu n (zD2 n s l set.testBit)), nx + 1) else
   ((fun set => decide (0 < set) && decide ((if n.Kind = 3 then (n.L.length : Int) else n.N) ≤ (zDy (zEj s l al fo d) (n.Kind == 4) fo n.L (fun z => if z = 0 then 0 else -1) nx).1 set)), (zDy (zEj s l al fo d) (n.Kind == 4) fo n.L (fun z => if z = 0 then 0 else -1) nx).2)
theorem zP6 {vis : Need → Nat → (Nat → Bool) × Nat} {some4 : Bool} {fo : Nat → Nat → Bool} (hv : ∀ c nx, nx ≤ (vis c nx).2) : ∀ (r : List Need) (be : Nat → Int) (nx : Nat), nx ≤ (zDy vis some4 fo r be nx).2
 | [], _, nx => Nat.le_refl nx
 | c :: r, be, nx => Nat.le_trans (hv c nx) (zP6 hv r _ _)
theorem zT2 (s : Scale) (l : List Ach) (al fo : Nat → Nat → Bool) : ∀ (d : Nat) (n : Need) (nx : Nat), nx ≤ (zEj s l al fo d n nx).2
 | 0, _, nx => Nat.le_succ nx
 | d + 1, n, nx => by
  simp only [zEj];split
  ·exact Nat.le_succ nx
  ·exact zP6 (zT2 s l al fo d) _ _ _
end Go.Sx
namespace Go.Sx
open Go.Proofs Go.RowKit
theorem and2 (x y : Nat) : (x &&& y) / 2 = x / 2 &&& y / 2 := by
 apply Nat.eq_of_testBit_eq
 intro i
 simp [Nat.testBit_div_two, Nat.testBit_and]
theorem yE8 (x y : Nat) : (x &&& y) % 2 = (x % 2) * (y % 2) := by
 have h := Nat.testBit_and x y 0
 simp only [Nat.testBit_zero] at h
 rcases Nat.mod_two_eq_zero_or_one x with hx | hx <;> rcases Nat.mod_two_eq_zero_or_one y with hy | hy <;> rcases Nat.mod_two_eq_zero_or_one (x &&& y) with hz | hz <;> simp [hx, hy, hz] at h ⊢
theorem zXg : ∀ (set a b : Nat), a &&& set = a → b &&& set = b → a < b → a ≤ (b - 1) &&& set := by
 intro set
 induction set using Nat.strongRecOn with
 | _ set ih =>
  intro a b ha hb hab;by_cases h0 : set = 0
  ·subst h0; simp at hb; omega
  have ha2 := congrArg (· / 2) ha;have hb2 := congrArg (· / 2) hb;have ham := congrArg (· % 2) ha;have hbm := congrArg (· % 2) hb;simp only [and2, yE8] at ha2 hb2 ham hbm;have hc2 := and2 (b - 1) set;have hcm := yE8 (b - 1) set
  rcases Nat.mod_two_eq_zero_or_one b with hb0 | hb0
  ·have e1 : (b - 1) / 2 = b / 2 - 1 := by omega
   have e2 : (b - 1) % 2 = 1 := by omega
   rw [e1] at hc2;rw [e2, Nat.one_mul] at hcm;have := ih (set / 2) (by omega) (a / 2) (b / 2) ha2 hb2 (by omega)
   rcases Nat.mod_two_eq_zero_or_one set with hs | hs
   ·rw [hs] at ham hcm; omega
   ·rw [hs] at hcm; omega
  ·have hs : set % 2 = 1 := by
    rcases Nat.mod_two_eq_zero_or_one set with hs | hs
    ·rw [hs, hb0] at hbm; omega
    ·exact hs
   have e1 : (b - 1) / 2 = b / 2 := by omega
   rw [e1, hb2] at hc2;omega
theorem zXp (ow : Nat → Bool) (be : Nat → Int) (sub rest : Nat) (v : Int) : v ≤ zL8 ow be sub rest v := by
 unfold zL8
 split
 ·split <;> omega
 ·omega
theorem zXo {ow : Nat → Bool} {be : Nat → Int} {sub rest : Nat} (v : Int) (h1 : ow sub = true) (h2 : 0 ≤ be rest) : IntKind.i64.wrap (be rest + 1) ≤ zL8 ow be sub rest v := by
 unfold zL8
 rw [if_pos ⟨h1, h2⟩]
 split <;> omega
theorem zGp (ow : Nat → Bool) (be : Nat → Int) (set : Nat) : ∀ (f sub : Nat) (v : Int), v ≤ zEr ow be set f sub v
 | 0, _, v => Int.le_refl v
 | f + 1, sub, v => by
  simp only [zEr];split
  ·exact Int.le_refl v
  ·exact Int.le_trans (zXp ow be sub _ v) (zGp ow be set f _ _)
theorem zM6 {ow : Nat → Bool} {be : Nat → Int} {set : Nat} : ∀ (f sub : Nat) (v : Int), sub &&& set = sub → sub < f → ∀ a, a &&& set = a → 0 < a → a ≤ sub → ow a = true → 0 ≤ be (zBo set a) → IntKind.i64.wrap (be (zBo set a) + 1) ≤ zEr ow be set f sub v
 | 0, sub, v, _, h, _, _, _, _, _, _ => absurd h (Nat.not_lt_zero _)
 | f + 1, sub, v, hs, hf, a, ha, h0, hle, h1, h2 => by
  simp only [zEr];rw [if_neg (by omega)]
  rcases Nat.lt_or_ge a sub with h | h
  ·have hn := zXg set a sub ha hs h
   have hl : (sub - 1) &&& set ≤ sub - 1 := Nat.and_le_left;exact zM6 f _ _ (by rw [Nat.and_assoc, Nat.and_self]) (by omega) a ha h0 hn h1 h2
  ·obtain rfl : a = sub := by omega
   exact Int.le_trans (zXo v h1 h2) (zGp ow be set f _ _)
theorem zE5 {ow : Nat → Bool} {be : Nat → Int} {set : Nat} : ∀ (f sub : Nat) (v : Int), sub &&& set = sub → zEr ow be set f sub v = v ∨ ∃ a, a &&& set = a ∧ 0 < a ∧ a ≤ sub ∧ ow a = true ∧ 0 ≤ be (zBo set a) ∧ zEr ow be set f sub v = IntKind.i64.wrap (be (zBo set a) + 1)
 | 0, _, v, _ => .inl rfl
 | f + 1, sub, v, hs => by
  simp only [zEr];split
  ·exact .inl rfl
  ·rename_i hn
   have hl : (sub - 1) &&& set ≤ sub - 1 := Nat.and_le_left
   rcases zE5 (ow := ow) (be := be) (set := set) f ((sub - 1) &&& set) (zL8 ow be sub (zBo set sub) v) (by rw [Nat.and_assoc, Nat.and_self]) with h | ⟨a, a1, a2, a3, a4, a5, a6⟩
   ·rw [h]
    unfold zL8;by_cases hc : ow sub = true ∧ 0 ≤ be (zBo set sub)
    ·rw [if_pos hc]
     split
     ·exact .inr ⟨sub, hs, by omega, Nat.le_refl _, hc.1, hc.2, rfl⟩
     ·exact .inl rfl
    ·rw [if_neg hc]
     exact .inl rfl
   ·exact .inr ⟨a, a1, a2, by omega, a4, a5, a6⟩
end Go.Sx
namespace Go.Sx
open Go.Proofs Go.RowKit
theorem zH0 {s a k : Nat} (hk : k < 64) : (zBo s a).testBit k = (s.testBit k && !a.testBit k) := by
 unfold zBo
 rw [BitVec.testBit_toNat, BitVec.getLsbD_and, BitVec.getLsbD_not, BitVec.getLsbD_ofNat, BitVec.getLsbD_ofNat]
 simp [hk]
theorem zRa {s a k : Nat} (h : a &&& s = a) (hs : s.testBit k = false) : a.testBit k = false := by
 have := congrArg (fun z => z.testBit k) h
 simp only [Nat.testBit_and, hs, Bool.and_false] at this
 exact this.symm
def alD (dec : List Int) (leaf set : Nat) : Bool := zKx dec (leaf : Int) set
def foD (dec : List Int) (a b : Nat) : Bool := dec.any fun x => decide ((a : Int) ≤ x) && decide (x < (b : Int))
theorem zSi (dec : List Int) (x : Int) (leaf set : Nat) : alD (dec ++ [x]) leaf set = (alD dec leaf set && ((set.testBit dec.length) == (x == (leaf : Int)))) := by
 unfold alD zKx
 rw [List.length_append, List.length_singleton, List.range_succ, List.all_append]
 congr 1
 ·rw [Bool.eq_iff_iff, List.all_eq_true, List.all_eq_true]
  constructor
  ·intro h j hj
   have := h j hj;have hj2 := List.mem_range.1 hj
   rwa [zz2, List.getElem?_append_left hj2, ← zz2] at this
  ·intro h j hj
   have := h j hj;have hj2 := List.mem_range.1 hj
   rwa [zz2, List.getElem?_append_left hj2, ← zz2]
 ·simp
theorem zYu (dec : List Int) (x : Int) (a b : Nat) : foD (dec ++ [x]) a b = (foD dec a b || (decide ((a : Int) ≤ x) && decide (x < (b : Int)))) := by
 unfold foD
 rw [List.any_append]
 simp
abbrev zSn (s : Scale) (l : List Ach) (dec : List Int) := zEj s l (alD dec) (foD dec)
theorem zRr {v v' : Need → Nat → (Nat → Bool) × Nat} {q q' : Bool} {fo fo' : Nat → Nat → Bool} (h : ∀ c nx, (v c nx).2 = (v' c nx).2) : ∀ (r : List Need) (be be' : Nat → Int) (nx : Nat), (zDy v q fo r be nx).2 = (zDy v' q' fo' r be' nx).2
 | [], _, _, _ => rfl
 | c :: r, be, be', nx => by
  simp only [zDy];rw [h c nx];exact zRr h r _ _ _
theorem zT0 (s : Scale) (l : List Ach) (al al' fo fo' : Nat → Nat → Bool) : ∀ (d : Nat) (n : Need) (nx : Nat), (zEj s l al fo d n nx).2 = (zEj s l al' fo' d n nx).2
 | 0, _, _ => rfl
 | d + 1, n, nx => by
  simp only [zEj];split
  ·rfl
  ·exact zRr (zT0 s l al al' fo fo' d) _ _ _ _
theorem zR5 {ow : Nat → Bool} {be : Nat → Int} {set : Nat} {m : Int} (hm : 0 ≤ m ∧ m < 1000000) (hb : ∀ z, be z ≤ m) (f sub : Nat) (v : Int) (hs : sub &&& set = sub) (hv : v ≤ m + 1) : zEr ow be set f sub v ≤ m + 1 := by
 rcases zE5 (ow := ow) (be := be) f sub v hs with h | ⟨a, _, _, _, _, h5, h6⟩
 ·rw [h]; exact hv
 ·rw [h6, w64]
  have := hb (zBo set a);omega
theorem zTv {a b : Int} (h0 : 0 ≤ a) (h : a ≤ b) (hb : b < 1000000) : IntKind.i64.wrap (a + 1) ≤ IntKind.i64.wrap (b + 1) := by rw [w64, w64]; omega
end Go.Sx
namespace Go.Sx
open Go.Proofs Go.RowKit
def zIp (sem : Need → (Nat → Bool) → Prop) (q : Bool) (c : Need) (B : Nat → (Nat → Bool) → Prop) (i : Nat) (g : Nat → Bool) : Prop :=
 (q = true ∧ B i g) ∨ ∃ i' a, i = i' + 1 ∧ (∃ j, a j = true) ∧ (∀ j, a j = true → g j = true) ∧ sem c a ∧ B i' (fun j => g j && !a j)
def zFq (sem : Need → (Nat → Bool) → Prop) (q : Bool) : List Need → (Nat → (Nat → Bool) → Prop) → Nat → (Nat → Bool) → Prop
 | [], B => B
 | c :: r, B => zFq sem q r (zIp sem q c B)
def B0 (i : Nat) (g : Nat → Bool) : Prop := i = 0 ∧ ∀ j, g j = false
def yB7 (n : Need) (s : Scale) (l : List Ach) (g : Nat → Bool) : Prop := (∃ j, g j = true) ∧ zTu n (zD2 n s l g) = true
def zQl (s : Scale) (l : List Ach) : Nat → Need → (Nat → Bool) → Prop
 | 0, n, g => yB7 n s l g
 | d + 1, n, g => (zBm n = true ∧ yB7 n s l g) ∨ (zBm n = false ∧ (∃ j, g j = true) ∧ ∃ i : Nat, (if n.Kind = 3 then (n.L.length : Int) else n.N) ≤ (i : Int) ∧ zFq (zQl s l d) (n.Kind == 4) n.L B0 i g)
theorem yDx {s : Scale} {l : List Ach} : ∀ {d : Nat} {n : Need} {g : Nat → Bool}, zQl s l d n g → ∃ j, g j = true
 | 0, _, _, h => h.1
 | _ + 1, _, _, .inl h => h.2.1
 | _ + 1, _, _, .inr h => h.2.1
theorem bitsOf (K : Nat) : ∀ (a : Nat → Bool), (∀ j, a j = true → j < K) → ∃ m, m < 2 ^ K ∧ m.testBit = a := by
 induction K with
 | zero => exact fun a h => ⟨0, by simp, funext fun j => by
   rw [Nat.zero_testBit];cases e : a j
   ·rfl
   ·exact absurd (h j e) (Nat.not_lt_zero j)⟩
 | succ K ih =>
  intro a h
  obtain ⟨m, hm, e⟩ := ih (fun j => a j && decide (j < K)) (fun j hj => by
   rw [zz3, decide_eq_true_eq] at hj;exact hj.2)
  have hp : (2 : Nat) ^ K < 2 ^ (K + 1) := Nat.pow_lt_pow_right (by omega) (by omega);cases hK : a K
  ·refine ⟨m, by omega, ?_⟩
   rw [e]
   funext j
   cases hj : a j
   ·rfl
   ·have h1 := h j hj
    have h2 : j ≠ K := fun hc => by rw [hc, hK] at hj; cases hj
    rw [decide_eq_true (show j < K by omega)]; rfl
  ·refine ⟨m ||| 2 ^ K, Nat.or_lt_two_pow (by omega) hp, ?_⟩
   funext j
   rw [Nat.testBit_or, e, Nat.testBit_two_pow];by_cases hj : K = j
   ·subst hj; rw [hK]; simp
   ·cases haj : a j
    ·simp only [haj]; rw [Bool.false_and, Bool.false_or, decide_eq_false hj]
    ·have h1 := h j haj
     simp only [haj];rw [decide_eq_true (show j < K by omega)]; rfl
theorem zQq {z j : Nat} (hz : z < 1024) (hj : 10 ≤ j) : z.testBit j = false :=
 Nat.testBit_lt_two_pow (Nat.lt_of_lt_of_le hz (Nat.pow_le_pow_right (n := 2) (by omega) hj))
theorem zJk {z a : Nat} (hz : z < 1024) : (zBo z a).testBit = fun j => z.testBit j && !a.testBit j := by
 funext j
 by_cases hj : j < 64
 ·exact zH0 hj
 ·have h1 := zHz (a := z) (b := a) (by omega)
  rw [zQq (show zBo z a < 1024 by omega) (by omega), zQq hz (by omega)]; rfl
theorem zHg {a z : Nat} (h : ∀ j, a.testBit j = true → z.testBit j = true) : a &&& z = a := by
 apply Nat.eq_of_testBit_eq
 intro j
 rw [Nat.testBit_and]
 cases hj : a.testBit j
 ·rfl
 ·rw [h j hj]; rfl
def yFf (m : Int) (be : Nat → Int) (B : Nat → (Nat → Bool) → Prop) : Prop := (∀ z, be z ≤ m) ∧ ∀ z, z < 1024 → (∀ i : Nat, B i z.testBit → (i : Int) ≤ be z) ∧ (0 ≤ be z → ∃ i : Nat, be z = (i : Int) ∧ B i z.testBit)
theorem zVa {m : Int} {be : Nat → Int} {B : Nat → (Nat → Bool) → Prop} {ow : Nat → Bool} {sem : Need → (Nat → Bool) → Prop} {c : Need} {q : Bool} (hm : 0 ≤ m ∧ m < 900000) (how : ∀ z, z < 1024 → (ow z = true ↔ sem c z.testBit)) (R : yFf m be B) :
  yFf (m + 1) (fun z => zEr ow be z (z + 1) z (if q = true then be z else -1)) (zIp sem q c B) := by
 have wr1 : ∀ z, 0 ≤ be z → IntKind.i64.wrap (be z + 1) = be z + 1 := fun z h => by have := R.1 z; rw [w64]; omega
 have ini : ∀ z, (if q = true then be z else -1) ≤ m + 1 := fun z => by
  split
  ·have := R.1 z; omega
  ·omega
 refine ⟨fun z => zR5 ⟨hm.1, by omega⟩ R.1 _ _ _ (Nat.and_self z) (ini z), fun z hz => ⟨fun i hB => ?_, fun hp => ?_⟩⟩
 ·rcases hB with ⟨hq, hB⟩ | ⟨i', a, rfl, ⟨j0, hj0⟩, hsub, hs, hB⟩
  ·have h1 := (R.2 z hz).1 i hB
   have h2 := zGp ow be z (z + 1) z (if q = true then be z else -1);rw [if_pos hq] at h2;show (i : Int) ≤ zEr ow be z (z + 1) z (if q = true then be z else -1);rw [if_pos hq];omega
  ·obtain ⟨α, hα, rfl⟩ := bitsOf 10 a (fun j hj => by
    rcases Nat.lt_or_ge j 10 with h | h
    ·exact h
    ·have := hsub j hj
     rw [zQq hz h] at this; cases this)
   have h0 : 0 < α := Nat.pos_of_ne_zero fun hc => by rw [hc, Nat.zero_testBit] at hj0; cases hj0
   have hand := zHg hsub;have hle : α ≤ z := by have : α &&& z ≤ z := Nat.and_le_right; omega
   have hr := zHz (a := z) (b := α) (by omega);rw [← zJk hz] at hB;have h1 := (R.2 (zBo z α) (by omega)).1 i' hB;have h2 := zM6 (ow := ow) (be := be) (z + 1) z (if q = true then be z else -1) (Nat.and_self z) (Nat.lt_succ_self z) α hand h0 hle ((how α (by omega)).2 hs) (by omega);rw [wr1 _ (by omega)] at h2;show ((i' + 1 : Nat) : Int) ≤ zEr ow be z (z + 1) z (if q = true then be z else -1);omega
 ·rcases zE5 (ow := ow) (be := be) (z + 1) z (if q = true then be z else -1) (Nat.and_self z) with h | ⟨a, a1, a2, a3, a4, a5, a6⟩
  ·simp only at hp
   rw [h] at hp;by_cases hq : q = true
   ·rw [if_pos hq] at hp
    obtain ⟨i, h1, h2⟩ := (R.2 z hz).2 hp;exact ⟨i, by simp only; rw [h, if_pos hq, h1], .inl ⟨hq, h2⟩⟩
   ·rw [if_neg hq] at hp; omega
  ·have hr := zHz (a := z) (b := a) (by omega)
   obtain ⟨i, h1, h2⟩ := (R.2 _ (show zBo z a < 1024 by omega)).2 a5;rw [zJk hz] at h2;refine ⟨i + 1, by simp only; rw [a6, wr1 _ a5, h1]; rfl, .inr ⟨i, a.testBit, rfl, Nat.exists_testBit_of_ne_zero (by omega), fun j hj => ?_, (how a (by omega)).1 a4, h2⟩⟩;cases hz2 : z.testBit j
   ·rw [zRa a1 hz2] at hj; cases hj
   ·rfl
theorem zRs {vis : Need → Nat → (Nat → Bool) × Nat} {sem : Need → (Nat → Bool) → Prop} {q : Bool} : ∀ (r : List Need) (be : Nat → Int) (nx : Nat) (m : Int) (B : Nat → (Nat → Bool) → Prop), yFf m be B → 0 ≤ m → m + (r.length : Int) < 900000 →
  (∀ c ∈ r, ∀ nx z, z < 1024 → ((vis c nx).1 z = true ↔ sem c z.testBit)) → yFf (m + (r.length : Int)) (zDy vis q (fun _ _ => false) r be nx).1 (zFq sem q r B)
 | [], be, nx, m, B, R, _, _, _ => by simpa [zDy, zFq] using R
 | c :: r, be, nx, m, B, R, hm, hlt, hv => by
  have hl : ((c :: r).length : Int) = (r.length : Int) + 1 := by simp
  rw [hl] at hlt ⊢;have R1 := zVa (q := q) ⟨hm, by omega⟩ (hv c List.mem_cons_self nx) R;have R2 := zRs (q := q) r _ (vis c nx).2 (m + 1) _ R1 (by omega) (by omega) (fun x hx => hv x (List.mem_cons_of_mem _ hx));simp only [zDy, zFq, Bool.not_false, Bool.and_true];rw [show m + ((r.length : Int) + 1) = m + 1 + (r.length : Int) by omega];exact R2
theorem zT1 (s : Scale) (l : List Ach) : ∀ (d : Nat) (n : Need) (nx z : Nat), (d = 0 ∨ 0 ≤ n.N ∧ n.L.length ≤ 1000 ∧ ∀ c ∈ n.L, ∀ nx z, z < 1024 → ((zEj s l (fun _ _ => true) (fun _ _ => false) (d - 1) c nx).1 z = true ↔ zQl s l (d - 1) c z.testBit)) → z < 1024 →
  ((zEj s l (fun _ _ => true) (fun _ _ => false) d n nx).1 z = true ↔ zQl s l d n z.testBit) := by
 have ne : ∀ z : Nat, 0 < z ↔ ∃ j, z.testBit j = true := fun z => ⟨fun h => Nat.exists_testBit_of_ne_zero (by omega), fun ⟨j, hj⟩ => Nat.pos_of_ne_zero fun hc => by rw [hc, Nat.zero_testBit] at hj; cases hj⟩
 intro d n nx z hd hz
 cases d with
 | zero =>
  simp only [zEj, zQl, yB7, Bool.true_and, zz3, decide_eq_true_eq, ne]
 | succ d =>
  simp only [zQl];cases hlf : zBm n
  ·rcases hd with hd | ⟨h0, h1, h2⟩
   ·cases hd
   rw [Nat.add_sub_cancel] at h2
   have R0 : yFf 0 (fun z => if z = 0 then 0 else -1) B0 := ⟨fun z => by
     simp only;split <;> omega, fun z hz => ⟨fun i hi => by
     simp only
     have : z = 0 := by
      apply Classical.byContradiction;intro hc;obtain ⟨j, hj⟩ := Nat.exists_testBit_of_ne_zero hc;rw [hi.2 j] at hj; cases hj
     rw [if_pos this, hi.1]; exact Int.le_refl _, fun hp => by
     simp only at hp ⊢;split at hp
     ·rename_i h
      subst h;exact ⟨0, by simp, rfl, fun j => Nat.zero_testBit j⟩
     ·omega⟩⟩
   have R := zRs (q := n.Kind == 4) n.L _ nx 0 B0 R0 (Int.le_refl _) (by omega) h2;have hle : 0 ≤ (if n.Kind = 3 then (n.L.length : Int) else n.N) := by split <;> omega
   simp only [zEj, hlf, Bool.false_eq_true, if_false, zz3, decide_eq_true_eq, ne, false_and, false_or, true_and];refine and_congr_right fun _ => ⟨fun h => ?_, fun ⟨i, h3, h4⟩ => ?_⟩
   ·obtain ⟨i, h3, h4⟩ := (R.2 z hz).2 (Int.le_trans hle h)
    exact ⟨i, by rw [← h3]; exact h, h4⟩
   ·exact Int.le_trans h3 ((R.2 z hz).1 i h4)
  ·simp only [zEj, hlf, if_true, yB7, Bool.true_and, zz3, decide_eq_true_eq, ne, true_and, Bool.true_eq_false, false_and, or_false]
def VOk : Nat → Need → Prop
 | 0, n => zBm n = true
 | d + 1, n => 0 ≤ n.N ∧ n.L.length ≤ 1000 ∧ (zBm n = false → 1 ≤ n.L.length ∧ (n.Kind = 3 ∨ n.Kind = 4 ∧ 1 ≤ n.N)) ∧ ∀ c ∈ n.L, VOk d c
theorem zJh (s : Scale) (l : List Ach) : ∀ (d : Nat) (n : Need) (nx z : Nat), VOk d n → z < 1024 → ((zEj s l (fun _ _ => true) (fun _ _ => false) d n nx).1 z = true ↔ zQl s l d n z.testBit)
 | 0, n, nx, z, _, hz => zT1 s l 0 n nx z (.inl rfl) hz
 | d + 1, n, nx, z, h, hz => zT1 s l (d + 1) n nx z (.inr ⟨h.1, h.2.1, fun c hc nx z hz => zJh s l d c nx z (h.2.2.2 c hc) hz⟩) hz
end Go.Sx
namespace Go.Sx
open Go.Proofs Go.RowKit
attribute [local irreducible] Run zAi zAy OpT zAc SLe OLe
set_option maxHeartbeats 2000000
set_option maxRecDepth 8000
set_option maxHeartbeats 20000000
attribute [go_sem] zC4 asA asS zIs
def faN : Option (List Int) → Nat
 | none => 118
 | some _ => 171
def ffN : Option (List Int) → Nat
 | none => 119
 | some _ => 172
def caV : Option (List Int) → List SD
 | none => []
 | some dec => [.fp [ints dec]]
def alV : Option (List Int) → Nat → Nat → Bool
 | none => fun _ _ => true
 | some dec => alD dec
def foV : Option (List Int) → Nat → Nat → Bool
 | none => fun _ _ => false
 | some dec => foD dec
def vOk : Option (List Int) → Prop
 | none => True
 | some dec => dec.length ≤ 10
@[go_sem] theorem caV_men (v : Option (List Int)) (k : Nat) : zGy k (caV v) = false := by cases v <;> rfl
@[go_sem] theorem caV_pure (v : Option (List Int)) : zGs (caV v) = true := by cases v <;> rfl
@[go_sem] theorem caV_all (v : Option (List Int)) (pb ph : Nat → Bool) : zC6 pb ph (caV v) = true := by cases v <;> rfl
@[go_sem] theorem caV_ren (v : Option (List Int)) (σ : Nat → Nat) : zI7 σ (caV v) = caV v := by cases v <;> rfl
@[go_sem] theorem caV_frz (v : Option (List Int)) (k : Nat) (d0 : SD) (L : Nat → SD) (dm : SD) : zOn k d0 L dm (caV v) = caV v := by cases v <;> rfl
@[go_sem] theorem caV_pur (v : Option (List Int)) (k : Nat) : zGw k (caV v) = caV v := by cases v <;> rfl
theorem yGq {v : Option (List Int)} (hv : vOk v) (leaf set : Nat) (hs : set < 1024) : FnV Tryz.prog (faN v) (caV v) [eInt (leaf : Nat), eInt (set : Nat)] (.bool (alV v leaf set)) := by
 cases v with
 | none => exact ⟨_, K118, _, _, rfl, rfl⟩
 | some dec => exact ⟨_, K171, dec, _, set, ⟨hv, hs⟩, rfl, rfl⟩
theorem yGp (v : Option (List Int)) (a b : Nat) : FnV Tryz.prog (ffN v) (caV v) [eInt (a : Nat), eInt (b : Nat)] (.bool (foV v a b)) := by
 cases v with
 | none => exact ⟨_, K119, _, _, rfl, rfl⟩
 | some dec => exact ⟨_, K172, dec, _, _, rfl, rfl⟩
@[go_sem] def scC (s : Scale) : List SD := [.int .i64 s.Worst, .int .i64 s.Best, .int .i64 s.Pass]
@[go_sem] def zTt (v : Option (List Int)) (s : Scale) (l : List Ach) : OB := .var [.fn 159 [.fp [zAo 8 zBp l], .fp [.fn (faN v) (caV v)], .loc 1000 0, .fp (scC s), .loc 1001 0, .fp [.fn (ffN v) (caV v)]]]
def yB8 (s : Scale) (l : List Ach) (al : Nat → Nat → Bool) (n : Need) (nx : Nat) : Nat → Bool := fun set => decide (0 < set) && (al nx set && zTu n (zD2 n s l set.testBit))
theorem KM (n : Need) (hk : n.Kind = 1 ∨ n.Kind = 2) : FnOK Tryz.prog (if n.Kind = 1 then 198 else 199) (fun ds d => ∃ x : Load, ds = [zYz x, zAb n] ∧ d = .bool (zTu n x)) := by
 by_cases h : n.Kind = 1
 ·rw [if_pos h]
  exact K198.weaken fun ds d ⟨x, h1, h2⟩ => ⟨x, n, h1, by rw [h2, zTu, if_pos h]⟩
 ·rw [if_neg h]
  exact K199.weaken fun ds d ⟨x, h1, h2⟩ => ⟨x, n, h1, by rw [h2, zTu, if_neg h]⟩
theorem zZi : FnM Tryz.prog 159 (fun ds os d os' => ∃ (n : Need) (s : Scale) (l : List Ach) (nx : Nat) (v : Option (List Int)), (zBm n = true ∧ l.length ≤ 10 ∧ nx < 1000000 ∧ vOk v) ∧ ds = [zAb n, .fp [zAo 8 zBp l], .fp [.fn (faN v) (caV v)], .loc 1000 0, .fp (scC s), .loc 1001 0, .fp [.fn (ffN v) (caV v)]] ∧ os = [.var [eInt (nx : Nat)], zTt v s l] ∧ d = .acc 1 ∧ os' = [(1000, .var [eInt ((nx + 1 : Nat) : Nat)]), (1001, zTt v s l), (1, aB (2 ^ l.length) (yB8 s l (alV v) n nx))]) := by
 refine zBq Tryz.call159 Tryz.func159 rfl Tryz.ntmps159 ?_
 rintro ds os d os' ⟨n, s, l, nx, v, ⟨h1, h2, h3, h4⟩, rfl, rfl, rfl, rfl⟩
 refine ⟨by simp, fun F w0 => ?_⟩
 have esh := yCu l.length (by omega)
 have h2k : (2 : Nat) ^ l.length ≤ 2 ^ 10 := Nat.pow_le_pow_right (by omega) h2
 have hpos := Nat.two_pow_pos l.length
 generalize 2 ^ l.length = M at esh h2k hpos ⊢
 have hMk : M ≤ 1024 := h2k
 have kk : n.Kind = 1 ∨ n.Kind = 2 := by simpa [zBm] using h1
 have e1 : IntKind.i64.wrap ((nx : Int) + 1) = ((nx + 1 : Nat) : Int) := by rw [w64]; omega
 repeat' (first | apply zC | apply zA | apply zB | refine zF (by simp only [go_sem, esh, h1]; rfl) qR ?_ ?_ | refine zM yHb (by simp only [go_sem, esh, h1]; first | done | rfl) ?_ ⟨n, rfl, rfl⟩ (by simp only [go_sem, esh, h1]; rfl) ?_ | exact zz0 | exact rfl | exact qP | fail)
 (refine zE qS ?_ ?_ <;> intro hb <;> have hc := hb <;> (try simp only [bF] at hc) <;> (try (exfalso; simp at hc; done)))
 have hKM := KM n kk
 have hK := K161.weaken (R' := fun ds d => ∃ (_ : Unit), ds = [eInt n.Kind] ∧ d = .fn (if n.Kind = 1 then 198 else 199) []) fun ds d ⟨_, q1, q2⟩ => ⟨n.Kind, q1, q2⟩
 generalize (if n.Kind = 1 then 198 else 199) = kf at hKM hK
 repeat' (first | apply zC | apply zD | apply zA | apply zB | refine zF qS qR ?_ ?_ | refine zM hK qD ?_ ⟨(), rfl, rfl⟩ qS ?_ | exact zz0 | exact rfl | fail)
 refine zN [1, 2, 3, 4, 5, 6, 7, 9, 10, 11] (fun x : Nat × (Nat → Bool) => []) (fun x : Nat × (Nat → Bool) => [(1, aB M x.2), (2, .var [eInt (x.1 : Nat)])]) (fun x : Nat × (Nat → Bool) => (1 ≤ x.1 ∧ x.1 ≤ M) ∧ ∀ z, z < M → x.2 z = if z < x.1 then yB8 s l (alV v) n nx z else false) (fun x : Nat × (Nat → Bool) => M - x.1) (1, fun _ => false) (fun x => qS) ?_ qL qL ?_
 ·refine ⟨⟨Nat.le_refl _, hpos⟩, fun z _ => ?_⟩
  simp only;split
  ·have : z = 0 := by omega
   subst this; rfl
  ·rfl
 rintro ⟨set, T⟩ ⟨⟨g1, g2⟩, g3⟩
 simp only at g1 g2 g3
 have e2 : IntKind.i64.wrap ((set : Int) + 1) = ((set + 1 : Nat) : Int) := by rw [w64]; omega
 repeat' (first | apply zC | apply zA | apply zB | refine zF qS qR ?_ ?_ | exact zz0 | exact rfl | fail)
 (refine zE qS ?_ ?_ <;> intro hb <;> have hc := hb <;> (try simp only [bF] at hc) <;> (try (exfalso; simp at hc; done)))
 ·have hset : set < M := by assumption
  refine zO 2 qS ?_
  repeat' (first | apply zC | apply zG | apply zD | apply zL | apply zA | apply zP | apply zB | refine zF qS qR ?_ ?_ | refine zBj qS qR ?_ (by simp only [go_sem, zAw, zG5, zD7, zH2, zBf, keysA, zCz]; rfl) ?_ | refine zQ qK qK ?_ | refine zI6 qS qS ?_ | refine zBx 44 qR qS K162 qD (fun hg => ?_) (fun _ => ⟨n, s, l, set, ⟨h2, by omega⟩, rfl, rfl⟩) qS ?_ | refine zU1 (yGq h4 nx set (by omega)) qZ qZ ?_ qS ?_ | refine zSx (caps := []) 44 qR qS hKM qD qD (fun hg => ?_) (fun _ => ⟨_, rfl, rfl⟩) qS ?_ | exact zz0 | exact rfl | exact qP | fail)
  refine zFa 3 2 qS ?_;refine zR (o' := aB M fun z => if z = set then yB8 s l (alV v) n nx z else T z) 1 qR (OLe.accS rfl fun z _ => ?_) ?_
  ·unfold Sx.setF
   by_cases hz : z = set
   ·subst hz
    simp only [if_true];rw [yB8, decide_eq_true (show 0 < z by omega), Bool.true_and]
   ·simp only [if_neg hz]
  refine zS (set + 1, fun z => if z = set then yB8 s l (alV v) n nx z else T z) ?_ ?_ ⟨rfl, qL, qL⟩
  ·refine ⟨⟨by simp only; omega, by simp only; omega⟩, fun z hz => ?_⟩
   simp only;by_cases hzs : z = set
   ·rw [if_pos hzs, if_pos (by omega)]
   ·rw [if_neg hzs, g3 z hz]
    by_cases hlt : z < set
    ·rw [if_pos hlt, if_pos (by omega)]
    ·rw [if_neg hlt, if_neg (by omega)]
  ·simp only; omega
 ·have hset : set = M := by omega
  repeat' (first | apply zC | apply zA | apply zB | refine zF (by simp only [go_sem, e1]; rfl) qR ?_ ?_ | refine zK qR ?_ | exact zz0 | exact rfl | fail)
  refine zR (o' := aB M (yB8 s l (alV v) n nx)) 1 qR (OLe.accS rfl fun z hz => ?_) ?_
  ·rw [g3 z hz, if_pos (by omega)]
  refine yC qR qS ?_ ?_
  ·exact SLe.refl _
  ·(show zC2 _ _; simp only [go_sem]; repeat' (first | exact SLe.any1 | exact trivial | exact zz0 | exact SLe.refl _ | exact OLe.refl _ | exact ⟨_, rfl, OLe.refl _⟩ | refine ⟨_, rfl, ?_⟩ | refine OLe.var ?_ | (show zAh _ _; refine ⟨?_, ?_⟩) | (show zAh [] []; exact zz0) | (refine SLe.int ?_; rw [w64]; omega) | refine SLe.int ?_ | refine SLe.bool ?_ | apply And.intro))
end Go.Sx
