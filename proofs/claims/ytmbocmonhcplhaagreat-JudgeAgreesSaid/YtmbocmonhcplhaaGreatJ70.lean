/- Part of the proof that the laws of the judge return true for every input: J45, J46, J51, J52p, J70. -/
import Derived.Test.YtmbocmonhcplhaaGreatJ43
import Derived.Test.YtmbocmonhcplhaaGreatJ48
set_option linter.all false
namespace Go.Sx
open Go.Proofs Go.RowKit
theorem zOx : ∀ (qs : List (Need × Nat)), zYy qs = 0 → ∀ x ∈ qs, zFs x.1 = 0
 | [], _, x, hx => by cases hx
 | y :: r, h, x, hx => by
  rw [zYy] at h;split at h
  ·rename_i h1
   rcases List.mem_cons.1 hx with rfl | hx
   ·exact h1
   ·exact zOx r h x hx
  ·rename_i h1; exact absurd h h1
theorem zNc {qs : List (Need × Nat)} (h : zSb qs = 0) : ∀ x ∈ qs, zFs x.1 = 0 := by
 rw [zSb] at h
 split at h
 ·cases h
 ·exact zOx qs h
theorem zVk {n : Need} (h : zFs n = 0) : 0 ≤ n.N := by
 rw [zFs] at h
 split at h
 ·split at h
  ·cases h
  ·rename_i h1
   simp only [Bool.or_eq_true, bne_iff_ne, ne_eq, decide_eq_true_eq, not_or, Decidable.not_not] at h1;omega
 split at h
 ·split at h
  ·cases h
  ·split at h
   ·cases h
   ·rename_i h1
    simp only [Bool.not_eq_true', Bool.and_eq_false_iff, decide_eq_false_iff_not, not_or, Decidable.not_not] at h1;omega
 split at h
 ·split at h
  ·cases h
  ·rename_i h1
   simp only [Bool.or_eq_true, bne_iff_ne, ne_eq, not_or, Decidable.not_not] at h1;omega
 split at h
 ·split at h
  ·cases h
  ·split at h
   ·cases h
   ·rename_i h1
    simp only [Bool.not_eq_true', Bool.and_eq_false_iff, decide_eq_false_iff_not, not_or, Decidable.not_not] at h1;omega
 ·cases h
theorem zLo {n : Need} (h : zFs n = 0) (hk : ¬ (n.Kind = 1 ∨ n.Kind = 2)) : 0 < n.L.length := by
 have key : zNf n = true → 0 < n.L.length := fun hb => by
  simp only [zNf, zz3, decide_eq_true_eq] at hb;omega
 rw [zFs, if_neg (fun h => hk (.inl h)), if_neg (fun h => hk (.inr h))] at h
 split at h
 ·split at h
  ·cases h
  ·rename_i h1
   simp only [Bool.or_eq_true, Bool.not_eq_true', not_or, Bool.not_eq_false] at h1;exact key h1.1
 split at h
 ·split at h
  ·cases h
  ·rename_i h1
   simp only [Bool.not_eq_true', Bool.not_eq_false] at h1;exact key h1
 ·cases h
theorem zCp (d k : Nat) (n : Need) : (n, k) ∈ zAd d k n := by
 cases d <;> simp [zAd]
theorem zRf : ∀ (d k : Nat) (n : Need), (∀ x ∈ zAd d k n, zFs x.1 = 0) → NN d n
 | 0, k, n, h => zVk (h _ (zCp 0 k n))
 | d + 1, k, n, h => ⟨zVk (h _ (zCp (d + 1) k n)), fun x hx => zRf d (k + 1) x fun y hy => h y (by
   rw [zAd];exact List.mem_cons_of_mem _ (List.mem_flatMap.2 ⟨x, hx, hy⟩))⟩
theorem yAx : ∀ (l : List Nat), (∀ x ∈ l, 1 ≤ x) → 0 < l.length → 1 ≤ l.sum
 | [], _, h => absurd h (Nat.lt_irrefl 0)
 | x :: r, h, _ => by
  have := h x (List.mem_cons_self ..);simp only [List.sum_cons]; omega
theorem zHd : ∀ a b : List (Need × Nat), zKs (a ++ b) = zKs a + zKs b
 | [], b => by simp [zKs]
 | x :: r, b => by simp only [List.cons_append, zKs, zHd r b]; omega
theorem zSa {α : Type} (f : α → List (Need × Nat)) : ∀ (l : List α) (x : α), x ∈ l → zKs (f x) ≤ zKs (l.flatMap f)
 | [], x, h => by cases h
 | y :: r, x, h => by
  rw [List.flatMap_cons, zHd]
  rcases List.mem_cons.1 h with rfl | h
  ·omega
  ·have := zSa f r x h; omega
theorem zO0 {α : Type} (f : α → List (Need × Nat)) : ∀ l : List α, (∀ x ∈ l, 1 ≤ zKs (f x)) → l.length ≤ zKs (l.flatMap f)
 | [], _ => Nat.le_refl _
 | y :: r, h => by
  rw [List.flatMap_cons, zHd];have h1 := h y (List.mem_cons_self ..);have h2 := zO0 f r fun x hx => h x (List.mem_cons_of_mem _ hx);simp only [List.length_cons]; omega
theorem zVi {n : Need} (h : zFs n = 0) (hl : zIy n = true) : n.L = [] := by
 simp only [zIy, zz3, bne_iff_ne] at hl
 by_cases h1 : n.Kind = 1
 ·rw [zZy h1] at h
  split at h
  ·cases h
  ·rename_i hc
   simp only [Bool.or_eq_true, decide_eq_true_eq, not_or] at hc;exact List.eq_nil_of_length_eq_zero (by omega)
 by_cases h2 : n.Kind = 2
 ·rw [zZx h2] at h
  split at h
  ·cases h
  ·rename_i hc
   simp only [decide_eq_true_eq] at hc;exact List.eq_nil_of_length_eq_zero (by omega)
 ·rw [zFs, if_neg h1, if_neg h2, if_neg hl.1, if_neg hl.2] at h
  cases h
theorem zLw {n : Need} (h : zIy n = false) : ¬ (n.Kind = 1 ∨ n.Kind = 2) := by
 simp only [zIy, Bool.and_eq_false_iff, bne_eq_false_iff_eq] at h
 omega
theorem yE4 : ∀ (d k : Nat) (n : Need), NOk d n → (∀ x ∈ zAd d k n, zFs x.1 = 0) → zKs (zAd d k n) ≤ 8 → MOk d n ∧ 1 ≤ zKs (zAd d k n)
 | 0, k, n, hn, h, hc => by
  refine ⟨hn.2, ?_⟩;have h1 := h _ (zCp 0 k n);cases hl : zIy n
  ·have := zLo h1 (zLw hl)
   rw [hn.2] at this;exact absurd this (Nat.lt_irrefl 0)
  ·simp only [zAd, zKs, hl, if_true]; omega
 | d + 1, k, n, hn, h, hc => by
  have h1 := h _ (zCp (d + 1) k n);have e : zKs (zAd (d + 1) k n) = (if zIy n then 1 else 0) + zKs (n.L.flatMap (zAd d (k + 1))) := rfl
  have hx : ∀ x ∈ n.L, MOk d x ∧ 1 ≤ zKs (zAd d (k + 1) x) := fun x hx => by
   have h2 := zSa (zAd d (k + 1)) n.L x hx;refine yE4 d (k + 1) x (hn.2 x hx) (fun y hy => h y ?_) (by omega);rw [zAd];exact List.mem_cons_of_mem _ (List.mem_flatMap.2 ⟨x, hx, hy⟩)
  have h3 := zO0 (zAd d (k + 1)) n.L fun x hm => (hx x hm).2;refine ⟨⟨by omega, zVi h1, fun x hm => (hx x hm).1⟩, ?_⟩;cases hl : zIy n
  ·have h4 : 0 < n.L.length := zLo h1 (zLw hl)
   rw [e, hl];omega
  ·rw [e, hl, if_pos rfl]; omega
theorem zOf : ∀ (d k : Nat) (n : Need), NOk d n → (∀ x ∈ zAd d k n, zFs x.1 = 0) → 1 ≤ zG0 d n
 | 0, k, n, hn, h => by
  rw [zG0];split
  ·exact Nat.le_refl _
  ·rename_i hk
   have := zLo (h _ (zCp 0 k n)) hk;rw [hn.2] at this;exact absurd this (Nat.lt_irrefl 0)
 | d + 1, k, n, hn, h => by
  rw [zG0];split
  ·exact Nat.le_refl _
  ·rename_i hk
   refine yAx _ (fun x hx => ?_) (by rw [List.length_map]; exact zLo (h _ (zCp (d + 1) k n)) hk);obtain ⟨m, hm, rfl⟩ := List.mem_map.1 hx
   exact zOf d (k + 1) m (hn.2 m hm) fun y hy => h y (by
    rw [zAd];exact List.mem_cons_of_mem _ (List.mem_flatMap.2 ⟨m, hm, hy⟩))
theorem yE2 {qs : List (Need × Nat)} (h : zSb qs = 0) : zKs qs ≤ 8 := by
 rw [zSb] at h
 split at h
 ·cases h
 ·rename_i hc
  simp only [Bool.or_eq_true, Bool.not_eq_true', Bool.and_eq_false_iff, decide_eq_true_eq, decide_eq_false_iff_not, not_or] at hc;omega
theorem zL2 {d : Nat} {p : Programme} (h : zHf d p = 0) : zSb (zAd d 1 p.Need) = 0 := by
 rw [zHf] at h
 split at h
 ·cases h
 split at h
 ·cases h
 split at h
 ·cases h
 split at h
 ·assumption
 ·exact h
theorem yCr {d : Nat} {p : Programme} (h : zHf d p = 0) : NN d p.Need := zRf d 1 _ (zNc (zL2 h))
theorem zY6 {d : Nat} {p : Programme} (hp : POk d p) (h : zHf d p = 0) : 1 ≤ zG0 d p.Need := zOf d 1 _ hp.need.1 (zNc (zL2 h))
theorem zSc {d : Nat} {p : Programme} (hp : POk d p) (h : zHf d p = 0) : MOk d p.Need := (yE4 d 1 _ hp.need.1 (zNc (zL2 h)) (yE2 (zL2 h))).1
theorem yAw (y : Int) : y.tdiv 100 = if 0 ≤ y then y / 100 else -((-y) / 100) := by
 split
 ·rw [Int.tdiv_eq_ediv_of_nonneg (by assumption)]
 ·rename_i h
  have := Int.neg_tdiv (-y) 100;rw [Int.neg_neg] at this;rw [this, Int.tdiv_eq_ediv_of_nonneg (by omega)]
theorem yAv (y : Int) : y.tmod 100 = if 0 ≤ y then y % 100 else -((-y) % 100) := by
 have := Int.mul_tdiv_add_tmod y 100
 rw [yAw] at this
 split <;> rename_i h <;> simp only [h, if_true, if_false] at this <;> omega
theorem zG1 (x : Int) (h1 : -9223372036854775808 ≤ x) (h2 : x < 9223372036854775808) : IntKind.i64.wrap x = x := by rw [w64]; omega
theorem zWl (n : Int) (h1 : -9223372036854775709 ≤ n) (h2 : n < 9223372036854775808) : yEx n 100 = n / 100 := by
 have hm := yAv n
 have hb : -100 < n.tmod 100 ∧ n.tmod 100 < 100 := by rw [hm]; split <;> omega
 have b : (n.tmod 100 + 100).tmod 100 = n % 100 := by
  rw [yAv (n.tmod 100 + 100), if_pos (by omega), hm]; split <;> omega
 have d : (n - n % 100).tdiv 100 = n / 100 := by rw [yAw]; split <;> omega
 unfold yEx wr
 rw [zG1 (n.tmod 100 + 100) (by omega) (by omega), b, zG1 (n - n % 100) (by omega) (by omega), d, zG1 (n / 100) (by omega) (by omega)]
theorem yCl (n : Int) (h1 : -9223372036854775808 ≤ n) (h2 : n < 9223372036854775808) : yDj n 100 = n / 100 := by
 have hm := yAv n
 have hd := yAw n
 have hb : -9223372036854775808 < n.tdiv 100 ∧ n.tdiv 100 < 9223372036854775808 := by rw [hd]; split <;> omega
 unfold yDj wr
 rw [zG1 (n.tdiv 100) (by omega) (by omega), zG1 (n.tdiv 100 - 1) (by omega) (by omega), hm, hd]
 (repeat' split) <;> omega
theorem zT5 (x : Int) (h1 : -9223372036854775808 ≤ x) (h2 : x < 9223372036854775808) : zNv x = yDj x 100 := by
 rw [yCl x h1 h2]
 unfold zNv
 split
 ·have e : wr (x + 100) = x + 100 := zG1 _ (by omega) (by omega)
  rw [e, zWl _ (by omega) (by omega)];show IntKind.i64.wrap _ = _;rw [zG1 _ (by omega) (by omega)]; omega
 ·exact zWl _ (by omega) (by omega)
def S0 : Nat → Bool := fun z => z == 0
def zGq (d : Nat) (p : Programme) (s : Scale) (l : List Ach) (day : Int) : Bool :=
 decide (zHf d p = 0) && zBh s && (let y := l.filter fun a => !zA9 p day a
  decide (y.length ≤ 10) && (List.range (2 ^ y.length)).any fun set => zDf p y set && (List.range 1024).any fun part => aft s y d p.Need S0 part && (part &&& set == part))
def keepR (p : Programme) (day : Int) (a : Ach) : Bool := decide (p.Age ≤ 0) || decide (wr (yDj day 100 - yDj a.Day 100) ≤ p.Age)
def yGu (d : Nat) (p : Programme) (s : Scale) (l : List Ach) (day : Int) : Bool :=
 decide (zHf d p = 0) && zBh s && (let y := l.filter fun a => keepR p day a
  decide (y.length ≤ 10) && (List.range (2 ^ y.length)).any fun set => zDf p y set && (List.range (set + 1)).any fun part => (part &&& set == part) && zTs s y (2 ^ y.length) d p.Need S0 part)
def zHj (x : Int) : Prop := zNv x = yDj x 100
theorem yCa {p : Programme} {day : Int} {a : Ach} (h1 : zHj day) (h2 : zHj a.Day) : keepR p day a = !zA9 p day a := by
 rw [keepR, zA9, ← h1, ← h2, Bool.not_and]
 congr 1
 ·rw [← decide_not]; exact decide_eq_decide.2 (by omega)
 ·rw [← decide_not]; exact decide_eq_decide.2 (by omega)
theorem zR7 (d : Nat) (p : Programme) (s : Scale) (l : List Ach) (day : Int) (h1 : zHj day) (h2 : ∀ a ∈ l, zHj a.Day) : zGq d p s l day = yGu d p s l day := by
 have e : (l.filter fun a => keepR p day a) = l.filter fun a => !zA9 p day a := List.filter_congr fun a ha => yCa h1 (h2 a ha)
 unfold zGq yGu
 rw [e]
 generalize (l.filter fun a => !zA9 p day a) = y
 refine congrArg (fun b => decide (zHf d p = 0) && zBh s && b) ?_
 by_cases hy : y.length ≤ 10
 ·simp only [decide_eq_true hy, Bool.true_and]
  have hM : 2 ^ y.length ≤ 1024 := Nat.pow_le_pow_right (n := 2) (by omega) hy
  have hR := zNj s y hy d p.Need S0 S0 ⟨fun _ _ => rfl, fun z hz => by
   have : z = 0 := by simpa [S0] using hz
   rw [this]; exact Nat.two_pow_pos _⟩
  rw [Bool.eq_iff_iff, List.any_eq_true, List.any_eq_true]
  constructor
  ·rintro ⟨set, hs, h⟩
   simp only [zz3, List.any_eq_true, List.mem_range] at h hs;obtain ⟨hw, part, hp, ha, hsub⟩ := h
   have hle : part ≤ set := by
    have : part &&& set ≤ set := Nat.and_le_right;rw [beq_iff_eq.1 hsub] at this;exact this
   refine ⟨set, by simpa using hs, ?_⟩;simp only [zz3, List.any_eq_true, List.mem_range];exact ⟨hw, part, by omega, hsub, by rw [← hR.1 part (by omega)]; exact ha⟩
  ·rintro ⟨set, hs, h⟩
   simp only [zz3, List.any_eq_true, List.mem_range] at h hs;obtain ⟨hw, part, hp, hsub, ha⟩ := h;refine ⟨set, by simpa using hs, ?_⟩;simp only [zz3, List.any_eq_true, List.mem_range];exact ⟨hw, part, by omega, by rw [hR.1 part (by omega)]; exact ha, hsub⟩
 ·simp only [decide_eq_false hy, Bool.false_and]
end Go.Sx
namespace Go.Sx
section
variable {P : Program} {F : List Nat} {w0 : Base} {s : St} {ops : Array Oper} {Q : Exit → Act → World → Prop} {rest : List Oper}
theorem zXl {t : Nat} {name : String} {x : Operand} {dI : SD} {args : Array Operand} {tys : Array Nat} {ty : Nat} {pos : String} {af : Array Edge} {ds : List SD} {d : SD} {s' : St} (hI : zW9 P dI name ds d)
  (hx : ev s x = dI) (ha : args.toList.map (unG s) = ds) (hg : zAn (gCs s args.toList [])) (hs : zC0 s t d = some s')
  (hn : zAi P F w0 ops Q rest s') : zAi P F w0 ops Q (⟨some t, .call ⟨.invoke x name, args, tys⟩, ty, pos, af, none⟩ :: rest) s := by
 obtain ⟨tx, l0, f, R, rfl, hm, hf, hR⟩ := hI
 subst ha
 exact zXm hm hf hx rfl hg hR hs hn
end
open Go.Proofs Go.RowKit
attribute [local irreducible] Run zAi zAy OpT zAc SLe OLe
set_option maxHeartbeats 2000000
set_option maxRecDepth 8000
set_option maxHeartbeats 8000000
attribute [local irreducible] cM dM
theorem yFe : zJw 0 (fun _ => false) = S0 := by funext z; simp [zJw, S0]
theorem yGm : (.mp ⟨some .i64, 1, zFl (MK.i 0) (fun _ => false), fT, none⟩ [] : OB) = zGt S0 := by
 have h := zYe
 simp only [zGt, OB.mp.injEq, MD.mk.injEq] at h
 have hc : (0 : Nat) = cM fun _ => false := h.1.2.1
 have hd : (fun _ => false) = dM fun _ => false := h.1.2.2.1
 have a1 := zL3 (fun _ => false) 0 (by decide)
 have a2 := zL4 (fun _ => false) 0 (by decide)
 rw [← hd] at a1 a2
 rw [← hc] at a2
 simp only [zGt, ← yFe]
 rw [← a2, ← a1]
 rfl
theorem zW3 {g : Nat → Bool} (m : Nat) : ((List.range m).any g = false) ↔ ∀ j, j < m → g j = false := by
 simp [List.any_eq_false]
theorem K14 (d : Nat) (hd : 1 + d ≤ 100) (hcn : zQf d ≤ 10000) : FnOK Tryz.prog 14 (fun ds v => ∃ (p : Programme) (s : Scale) (l : List Ach) (day : Int), POk d p ∧ ds = [zEs p, zDm s, zAo 8 zBp l, eInt day] ∧ v = .bool (zGq d p s l day)) := by
 have K40x := K40 d hd
 have K46x := K46 d hcn
 have K45x := K45 d
 refine zAa Tryz.call14 Tryz.func14 rfl Tryz.ntmps14 ?_
 rintro ds d ⟨p, s, l, day, hp, rfl, rfl⟩
 refine ⟨by simp, fun w0 => ?_⟩
 by_cases hck : zHf d p = 0
 ·have hc1 : (zHf d p != 0) = false := by simpa using hck
  cases hs : zBh s
  ·have hv : zGq d p s l day = false := by simp [zGq, hs]
   rw [hv]
   repeat' (first | apply zC | apply zA | apply zB | refine zF (by simp only [go_sem, hc1, hs]; rfl) qR ?_ ?_ | refine zM K40x (by simp only [go_sem, hc1, hs]; first | done | rfl) ?_ ⟨p, hp, rfl, rfl⟩ (by simp only [go_sem, hc1, hs]; rfl) ?_ | refine zV 17 qR (by simp only [go_sem, hc1, hs]; rfl) K41 (by simp only [go_sem, hc1, hs]; first | done | rfl) (fun hg => ?_) (fun _ => ⟨_, rfl, rfl⟩) (by simp only [go_sem, hc1, hs]; rfl) ?_ | (refine zE (by simp only [go_sem, hc1, hs]; rfl) ?_ ?_ <;> intro hb <;> have hc := hb <;> (try simp only [bF] at hc) <;> (try (exfalso; simp at hc; done))) | refine zI qR ?_ | exact zz0 | exact rfl | exact zAc.bool rfl | exact qP | fail)
   all_goals skip
  ·have hu : zGq d p s l day = (decide ((l.filter fun a => !zA9 p day a).length ≤ 10) && (List.range (2 ^ (l.filter fun a => !zA9 p day a).length)).any fun set => zDf p (l.filter fun a => !zA9 p day a) set && (List.range 1024).any fun part => aft s (l.filter fun a => !zA9 p day a) d p.Need S0 part && (part &&& set == part)) := by
    rw [zGq, hs, decide_eq_true hck, Bool.true_and, Bool.true_and]
   rw [hu];obtain ⟨y, hy⟩ : ∃ y, (l.filter fun a => !zA9 p day a) = y := ⟨_, rfl⟩;rw [hy];have hv : ∀ a, FnV Tryz.prog 43 [.fp (zEy p), .fp [.int .i64 day]] [zBp a] (.bool (zA9 p day a)) := fun a => ⟨_, K43, p, day, a, rfl, rfl⟩
   repeat' (first | apply zC | apply zA | apply zB | refine zF (by simp only [go_sem, hc1, hs]; rfl) qR ?_ ?_ | refine zM K40x (by simp only [go_sem, hc1, hs]; first | done | rfl) ?_ ⟨p, hp, rfl, rfl⟩ (by simp only [go_sem, hc1, hs]; rfl) ?_ | refine zV 17 qR (by simp only [go_sem, hc1, hs]; rfl) K41 (by simp only [go_sem, hc1, hs]; first | done | rfl) (fun hg => ?_) (fun _ => ⟨_, rfl, rfl⟩) (by simp only [go_sem, hc1, hs]; rfl) ?_ | exact zz0 | exact rfl | exact qP | fail)
   (refine zE qS ?_ ?_ <;> intro hb <;> have hc := hb <;> (try simp only [bF] at hc) <;> (try (exfalso; simp at hc; done)))
   refine zO 0 qS ?_;refine zO 2 qS ?_
   repeat' (first | apply zC | apply zG | apply zA | refine zF qS qR ?_ ?_ | exact zz0 | exact rfl | fail)
   refine zHq A27 qD ?_ ⟨l, rfl, rfl, rfl, rfl, rfl⟩ qS ?_
   ·repeat' (first | exact zz0 | fail)
   repeat' (first | apply zC | apply zA | apply zB | refine zF (by simp only [go_sem, hy]; rfl) qR ?_ ?_ | refine zW [3] K42 qR (by simp only [go_sem, hy]; first | done | rfl) (by simp only [go_sem, hy]) (by first | (simp only [go_sem, hy]; done) | (simp only [go_sem, hy]; rfl)) ?_ ⟨l, 43, [.fp (zEy p), .fp [.int .i64 day]], zA9 p day, ⟨hv, fun _ _ _ _ => rfl, fun _ => rfl⟩, rfl, rfl, rfl, rfl⟩ (by simp only [go_sem, hy]; rfl) ?_ | exact zz0 | exact rfl | fail)
   (refine zE qS ?_ ?_ <;> intro hb <;> have hc := hb <;> (try simp only [bF] at hc) <;> (try (exfalso; simp at hc; done)))
   ·have h10 : ¬ y.length ≤ 10 := by have := of_decide_eq_true hb; omega
    rw [decide_eq_false h10]
    repeat' (first | apply zC | apply zA | apply zB | refine zF qS qR ?_ ?_ | refine zI qR ?_ | exact zz0 | exact rfl | exact zAc.bool rfl | fail)
    all_goals skip
   have hl : y.length ≤ 10 := by have := of_decide_eq_false hb; omega
   rw [decide_eq_true hl, Bool.true_and];have hcnt := zY6 hp hck;have hM := zSc hp hck;have hI := yAg s y hl d p.Need S0 ⟨zSc hp hck, yCr hck⟩;generalize hA : aft s y d p.Need S0 = A at hI ⊢;have hc2 : decide ((zG0 d p.Need : Int) < 1) = false := decide_eq_false (by omega);have h2k : (2 : Nat) ^ y.length ≤ 2 ^ 10 := Nat.pow_le_pow_right (by omega) hl;have esh := yCu y.length (by omega);clear hv hy hu hcnt hck hA;refine zO 3 qS ?_
   repeat' (first | apply zC | apply zG | apply zA | apply zB | refine zF (by simp only [go_sem, hc2, esh]; rfl) qR ?_ ?_ | refine zM K45x (by simp only [go_sem, hc2, esh]; first | done | rfl) ?_ ⟨p.Need, s, y, ⟨hM, hl⟩, rfl, rfl⟩ (by simp only [go_sem, hc2, esh]; rfl) ?_ | refine zM K46x (by simp only [go_sem, hc2, esh]; first | done | rfl) ?_ ⟨p.Need, s, y, hM, rfl, rfl⟩ (by simp only [go_sem, hc2, esh]; rfl) ?_ | refine zHp (fT) (by simp only [go_sem, hc2, esh]; rfl) (by simp only [go_sem, hc2, esh]; rfl) ?_ | refine zZp (by simp only [go_sem, hc2, esh]; rfl) ?_ ?_ ?_ | (refine zE (by simp only [go_sem, hc2, esh]; rfl) ?_ ?_ <;> intro hb <;> have hc := hb <;> (try simp only [bF] at hc) <;> (try (exfalso; simp at hc; done))) | exact zz0 | exact rfl | fail)
   ·exact ⟨by decide, trivial⟩
   refine zIq (o' := zGt S0) 4 qR (zGx yGm) ?_;refine zDv 4 qS ?_
   repeat' (first | (show Run _ _ _ _ _ _; first | apply zC | apply zG | apply zD | apply zL | apply zA | apply zP | refine zI qR ?_ | refine zCw qR qR qR ?_ ?_ | refine zFz qR qR ?_ | refine yA qR qS ?_ | refine yC qR qS ?_ ?_ | refine zEd qR ?_ ?_ | refine zUo qR qS ?_ ?_ | refine zK qR ?_) | (show zAi _ _ _ _ _ _ _; first | apply zB | refine zF qS qR ?_ ?_ | refine zEm 17 qR qD ?_ | refine zEn 17 qS qR qD qS ?_ | refine zDu 17 qR qD qS ?_ | refine yG qS qZ qZ (fun bn hbn => ?_) | refine zFy qF qR qS ?_) | (show zAy _ _ _ _ _ _ _ _ _ _; first | refine zU qS qR ?_ ?_ | refine zQ qK qK ?_) | exact zz0 | exact rfl | exact SLe.refl _ | omega | exact zAc.bool rfl | refine zAc.bool ?_ | refine zAc.int ?_ | refine zAc.str ?_ | exact zAc.pure rfl | (show SLe _ _; simp only [go_sem]; repeat' (first | exact trivial | exact zz0 | exact SLe.refl _ | exact OLe.refl _ | exact ⟨_, rfl, OLe.refl _⟩ | refine ⟨_, rfl, ?_⟩ | refine OLe.var ?_ | (show zAh _ _; refine ⟨?_, ?_⟩) | (show zAh [] []; exact zz0) | (refine SLe.int ?_; rw [w64]; omega) | refine SLe.int ?_ | refine SLe.bool ?_ | apply And.intro)) | (show zC2 _ _; simp only [go_sem]; repeat' (first | exact trivial | exact zz0 | exact SLe.refl _ | exact OLe.refl _ | exact ⟨_, rfl, OLe.refl _⟩ | refine ⟨_, rfl, ?_⟩ | refine OLe.var ?_ | (show zAh _ _; refine ⟨?_, ?_⟩) | (show zAh [] []; exact zz0) | (refine SLe.int ?_; rw [w64]; omega) | refine SLe.int ?_ | refine SLe.bool ?_ | apply And.intro)) | exact qP | fail)
   refine zXl hI qD qD ?_ qS ?_
   ·repeat' (first | exact zz0 | fail)
   repeat' (first | apply zC | apply zD | apply zA | apply zB | refine zF (by simp only [go_sem, esh]; rfl) qR ?_ ?_ | exact zz0 | exact rfl | exact qP | fail)
   refine zN [4, 9, 11, 43] (fun x : Nat × Unit => [(44, .int .i64 x.1)]) (fun x : Nat × Unit => []) (fun x : Nat × Unit => x.1 ≤ 2 ^ y.length ∧ ∀ j, j < x.1 → (zDf p y j && (List.range 1024).any fun part => A part && (part &&& j == part)) = false) (fun x : Nat × Unit => 2 ^ y.length - x.1) (0, ()) (fun x => qS) ?_ qL qL ?_
   ·exact ⟨Nat.zero_le _, fun j h => absurd h (Nat.not_lt_zero j)⟩
   rintro ⟨k, _⟩ ⟨g1, g2⟩;simp only at g1 g2
   repeat' (first | apply zC | apply zA | apply zB | refine zF qS qR ?_ ?_ | exact zz0 | exact rfl | fail)
   (refine zE qS ?_ ?_ <;> intro hb <;> have hc := hb <;> (try simp only [bF] at hc) <;> (try (exfalso; simp at hc; done)))
   ·have hk : k < 2 ^ y.length := by assumption
    repeat' (first | apply zC | apply zG | apply zD | apply zA | apply zB | refine zF qS qR ?_ ?_ | refine zM K47 qD ?_ ⟨p, y, k, hl, by omega, rfl, rfl⟩ qS ?_ | exact zz0 | exact rfl | fail)
    (refine zE qS ?_ ?_ <;> intro hb <;> have hc := hb <;> (try simp only [bF] at hc) <;> (try (exfalso; simp at hc; done)))
    ·have hw : zDf p y k = false := by simpa using hb
     repeat' (first | apply zA | apply zB | refine zF qS qR ?_ ?_ | refine zK qR ?_ | refine zS (k+1,()) ?_ ?_ ⟨rfl, qL, qL⟩ | exact zz0 | exact rfl | omega)
     refine ⟨by simp only; omega, fun j hj => ?_⟩;by_cases hjk : j = k
     ·subst hjk; rw [hw]; rfl
     ·exact g2 j (by simp only at hj; omega)
    ·have hw : zDf p y k = true := by simpa using hb
     repeat' (first | apply zC | apply zG | apply zD | apply zA | apply zB | refine zF qS qR ?_ ?_ | refine zIm qS qS qS ?_ | exact zz0 | exact rfl | fail)
     have h1024 : k < 1024 := by omega
     refine zN [4, 9, 11, 12, 43, 44, 53] (fun x : (MK → Bool) × Option MK × Nat => []) (fun x : (MK → Bool) × Option MK × Nat => [(5, .mp ⟨some .i64, cM A, dM A, fT, some (.iter x.2.2 x.1 x.2.1)⟩ [])]) (fun x : (MK → Bool) × Option MK × Nat => ∀ z, z < 1024 → x.1 (.i ((z : Nat) : Int)) = true → A z = true → (z &&& k == z) = false) (fun x : (MK → Bool) × Option MK × Nat => x.2.2) ((fun _ => false), none, cM A) (fun x => qS) ?_ qL qL ?_
     ·intro z _ h; cases h
     rintro ⟨V, cur, c⟩ r1;simp only at r1
     repeat' (first | apply zC | apply zA | exact rfl | fail)
     refine zIn qS qS qR (fun hdone => ?_) (fun q c' hlt hdom hV => ?_)
     ·have hno : (zDf p y k && (List.range 1024).any fun part => A part && (part &&& k == part)) = false := by
       rw [hw, Bool.true_and];refine (zW3 _).2 fun z hz => ?_;cases hA : A z
       ·rfl
       ·rw [r1 z hz (hdone _ (by rw [zR8 _ _ hz]; exact hA)) hA]; rfl
      repeat' (first | apply zC | apply zB | refine zF qS qR ?_ ?_ | exact zz0 | fail)
      (refine zE qS ?_ ?_ <;> intro hb <;> have hc := hb <;> (try simp only [bF] at hc) <;> (try (exfalso; simp at hc; done)))
      repeat' (first | apply zL | apply zA | apply zB | refine zF qS qR ?_ ?_ | refine zK qR ?_ | exact zz0 | exact rfl | fail)
      refine zS (k + 1, ()) ?_ ?_ ⟨rfl, qL, qL⟩
      ·refine ⟨by simp only; omega, fun j hj => ?_⟩
       by_cases hjk : j = k
       ·subst hjk; exact hno
       ·exact g2 j (by simp only at hj; omega)
      ·simp only; omega
     ·obtain ⟨y0, hy0, hy, hS0⟩ := zLz hdom
      obtain rfl : q = (y0 : Int) := by simpa using hy
      have e1 := band y0 k (by omega) (by omega)
      have e2 : (((y0 &&& k : Nat) : Int) == (y0 : Int)) = (y0 &&& k == y0) := by
       rw [Bool.eq_iff_iff, beq_iff_eq, beq_iff_eq]; omega
      repeat' (first | apply zC | apply zB | refine zF qS qR ?_ ?_ | exact zz0 | fail)
      (refine zE qS ?_ ?_ <;> intro hb <;> have hc := hb <;> (try simp only [bF] at hc) <;> (try (exfalso; simp at hc; done)))
      repeat' (first | apply zC | apply zG | apply zD | apply zA | apply zB | refine zF (by simp only [go_sem, e1, e2]; rfl) qR ?_ ?_ | refine zIo (by simp only [go_sem, e1, e2]; rfl) (by simp only [go_sem, e1, e2]; rfl) (by simp only [go_sem, e1, e2]; rfl) ?_ | exact zz0 | exact rfl | fail)
      (refine zE qS ?_ ?_ <;> intro hb <;> have hc := hb <;> (try simp only [bF] at hc) <;> (try (exfalso; simp at hc; done)))
      ·have hyes : ((List.range (2 ^ y.length)).any fun set => zDf p y set && (List.range 1024).any fun part => A part && (part &&& set == part)) = true := by
        rw [List.any_eq_true];refine ⟨k, List.mem_range.2 hk, ?_⟩;rw [hw, Bool.true_and, List.any_eq_true];exact ⟨y0, List.mem_range.2 hy0, by rw [hS0, hb]; rfl⟩
       rw [hyes]
       repeat' (first | apply zC | apply zA | apply zB | refine zF qS qR ?_ ?_ | refine zI qR ?_ | exact zz0 | exact rfl | exact zAc.bool rfl | fail)
       all_goals skip
      ·repeat' (first | apply zG | apply zL | fail)
       refine zS (zFl (.i (y0 : Int)) V, some (.i (y0 : Int)), c') ?_ ?_ ⟨rfl, qL, qL⟩
       ·intro z hz hVz hAz
        simp only [zFl, Bool.or_eq_true, decide_eq_true_eq, MKi] at hVz
        rcases hVz with h | h
        ·have : z = y0 := by omega
         rw [this]; exact hb
        ·exact r1 z hz h hAz
       ·exact hlt
   ·have hall : ((List.range (2 ^ y.length)).any fun set => zDf p y set && (List.range 1024).any fun part => A part && (part &&& set == part)) = false := (zW3 _).2 fun j hj => g2 j (by omega)
    rw [hall]
    repeat' (first | apply zC | apply zA | apply zB | refine zF qS qR ?_ ?_ | refine zI qR ?_ | refine zK qR ?_ | exact zz0 | exact rfl | exact zAc.bool rfl | fail)
    all_goals skip
 ·have hc1 : (zHf d p != 0) = true := by simpa using hck
  have hv : zGq d p s l day = false := by simp [zGq, hck]
  rw [hv]
  repeat' (first | apply zC | apply zA | apply zB | refine zF (by simp only [go_sem, hc1]; rfl) qR ?_ ?_ | refine zM K40x (by simp only [go_sem, hc1]; first | done | rfl) ?_ ⟨p, hp, rfl, rfl⟩ (by simp only [go_sem, hc1]; rfl) ?_ | refine zEn 17 (by simp only [go_sem, hc1]; rfl) qR (by simp only [go_sem, hc1]; first | done | rfl) (by simp only [go_sem, hc1]; rfl) ?_ | (refine zE (by simp only [go_sem, hc1]; rfl) ?_ ?_ <;> intro hb <;> have hc := hb <;> (try simp only [bF] at hc) <;> (try (exfalso; simp at hc; done))) | refine zI qR ?_ | exact zz0 | exact rfl | exact zAc.bool rfl | exact qP | fail)
  all_goals skip
end Go.Sx
namespace Go.Sx
def zYo (n : Int) : Int := wr (wr (wr (100 * n) + 100) - 1)
def yFc (c : Case) (k : Nat) : Ach := ⟨⟨c.Programme.School, (c.Items.getD k default).Code⟩, (zAj c (c.Items.getD k default).Code).Credits, c.Scale.Pass, zYo (c.Items.getD k default).Term, [wr (-1 - (k : Int))], 0, []⟩
def itT (c : Case) (ch : Nat) : Nat → List Item
 | 0 => []
 | k + 1 => itT c ch k ++ if ch.testBit k then [c.Items.getD k default] else []
def acT (c : Case) (ch : Nat) : Nat → List Ach
 | 0 => c.Has
 | k + 1 => acT c ch k ++ if ch.testBit k then [yFc c k] else []
theorem zV9 (c : Case) (ch : Nat) : ∀ k, (itT c ch k).length ≤ k
 | 0 => Nat.le_refl _
 | k + 1 => by
  have := zV9 c ch k;rw [itT, List.length_append];split <;> simp <;> omega
theorem zW7 (c : Case) (ch : Nat) : ∀ k, (acT c ch k).length ≤ c.Has.length + k
 | 0 => Nat.le_refl _
 | k + 1 => by
  have := zW7 c ch k;rw [acT, List.length_append];split <;> simp <;> omega
def zFe (c : Case) : Int := zYo (wr (wr (c.First + c.Terms) - 1))
def zZv (d : Nat) (c : Case) : Bool := (List.range (2 ^ c.Items.length)).any fun ch => zTm c (itT c ch c.Items.length) && zGq d c.Programme c.Scale (acT c ch c.Items.length) (zFe c)
open Go.Proofs Go.RowKit
attribute [local irreducible] Run zAi zAy OpT zAc SLe OLe
set_option maxHeartbeats 2000000
set_option maxRecDepth 8000
set_option maxHeartbeats 8000000
@[go_sem] def yFd (l : List Item) : OB := .acc 78 2 l.length (fun i => zIh (l.getD i default))
theorem yFb (c : Case) (k : Nat) : SLe (.agg [.int .i64 c.Programme.School, .str (c.Items.getD k default).Code, .int .i64 (zAj c (c.Items.getD k default).Code).Credits, .int .i64 c.Scale.Pass, .int .i64 (zYo (c.Items.getD k default).Term), .list 1 1 (fun i => .int .i64 ([wr (-1 - (k : Int))].getD i 0)), .int .i64 0, .nils]) (zBp (yFc c k)) := by
 refine SLe.agg ⟨SLe.refl _, SLe.refl _, SLe.refl _, SLe.refl _, SLe.refl _, SLe.list rfl fun i hi => ?_, SLe.refl _, SLe.nil0 (α := Int), trivial⟩
 have : i = 0 := by omega
 subst this; rfl
theorem K10 (d : Nat) (hd : 1 + d ≤ 100) (hcn : zQf d ≤ 10000) : FnOK Tryz.prog 10 (fun ds v => ∃ c : Case, (POk d c.Programme ∧ c.Items.length ≤ 10 ∧ c.Has.length ≤ 1000) ∧ ds = [zY1 c] ∧ v = .bool (zZv d c)) := by
 have K14x := K14 d hd hcn
 refine zAa Tryz.call10 Tryz.func10 rfl Tryz.ntmps10 ?_
 rintro ds d ⟨c, ⟨hp, hi10, hh⟩, rfl, rfl⟩
 refine ⟨by simp, fun w0 => ?_⟩
 refine yE 0 17 rfl rfl fun la => ?_
 have h2k : (2 : Nat) ^ c.Items.length ≤ 2 ^ 10 := Nat.pow_le_pow_right (by omega) hi10
 have esh := yCu c.Items.length (by omega)
 repeat' (first | apply zC | apply zA | apply zB | refine zF qS qR ?_ ?_ | exact zz0 | exact rfl | fail)
 (refine zE qS ?_ ?_ <;> intro hb <;> have hc := hb <;> (try simp only [bF] at hc) <;> (try (exfalso; simp at hc; done)))
 ·exfalso; have := of_decide_eq_true hb; omega
 rw [zZv]
 generalize hM : 2 ^ c.Items.length = M at esh h2k ⊢
 repeat' (first | apply zC | apply zG | apply zD | apply zA | apply zB | refine zF (by simp only [go_sem, esh]; rfl) qR ?_ ?_ | exact rfl | exact qP | fail)
 refine zN [1, 17] (fun x : Nat × Unit => [(18, .int .i64 x.1)]) (fun x : Nat × Unit => []) (fun x : Nat × Unit => x.1 ≤ M ∧ ∀ j, j < x.1 → (zTm c (itT c j c.Items.length) && zGq d c.Programme c.Scale (acT c j c.Items.length) (zFe c)) = false) (fun x : Nat × Unit => M - x.1) (0, ()) (fun x => qS) ?_ qL qL ?_
 ·exact ⟨Nat.zero_le _, fun j h => absurd h (Nat.not_lt_zero j)⟩
 rintro ⟨ch, _⟩ ⟨g1, g2⟩
 simp only at g1 g2
 repeat' (first | apply zC | apply zA | apply zB | refine zF qS qR ?_ ?_ | exact zz0 | exact rfl | fail)
 (refine zE qS ?_ ?_ <;> intro hb <;> have hc := hb <;> (try simp only [bF] at hc) <;> (try (exfalso; simp at hc; done)))
 ·have hch : ch < M := by assumption
  repeat' (first | apply zC | apply zG | apply zD | apply zA | apply zB | refine zF qS qR ?_ ?_ | exact zz0 | exact rfl | fail)
  refine zHq A27 qD ?_ ⟨c.Has, rfl, rfl, rfl, rfl, rfl⟩ qS ?_
  ·repeat' (first | exact zz0 | fail)
  repeat' (first | apply zC | apply zD | apply zA | apply zB | refine zF qS qR ?_ ?_ | exact zz0 | exact rfl | fail)
  refine yF 4 78 2 (fun i => zIh (([] : List Item).getD i default)) rfl rfl rfl ?_;refine zN [1, 3, 17, 18, 4, 5, 25, 26] (fun x : Nat × Unit => [(27, .int .i64 x.1)]) (fun x : Nat × Unit => [(1, yAh (acT c ch x.1)), (2, yFd (itT c ch x.1))]) (fun x : Nat × Unit => x.1 ≤ c.Items.length) (fun x : Nat × Unit => c.Items.length - x.1) (0, ()) (fun x => qS) ?_ qL qL ?_
  ·exact Nat.zero_le _
  rintro ⟨k, _⟩ r1;simp only at r1;have l1 := zV9 c ch k;have l2 := zW7 c ch k
  repeat' (first | apply zC | apply zA | apply zB | refine zF qS qR ?_ ?_ | exact zz0 | exact rfl | fail)
  (refine zE qS ?_ ?_ <;> intro hb <;> have hc := hb <;> (try simp only [bF] at hc) <;> (try (exfalso; simp at hc; done)))
  ·have hk : k < c.Items.length := by assumption
   have ek := zZc ch k (by omega) (by omega);have hof : (zHb (c.Items.getD k default).Code c.Offers).getD default = zAj c (c.Items.getD k default).Code := rfl;cases hbit : ch.testBit k
   ·rw [hbit] at ek
    have e1 : acT c ch (k + 1) = acT c ch k := by rw [acT, hbit, if_neg (by simp), List.append_nil]
    have e2 : itT c ch (k + 1) = itT c ch k := by rw [itT, hbit, if_neg (by simp), List.append_nil]
    repeat' (first | apply zC | apply zG | apply zD | apply zL | apply zA | apply zB | refine zF (by simp only [go_sem, ek]; rfl) qR ?_ ?_ | (refine zE (by simp only [go_sem, ek]; rfl) ?_ ?_ <;> intro hb <;> have hc := hb <;> (try simp only [bF] at hc) <;> (try (exfalso; simp at hc; done))) | exact zz0 | exact rfl | exact qP | fail)
    refine zS (k + 1, ()) ?_ ?_ ⟨rfl, by simp only [go_sem, e1, e2]; repeat' (first | exact trivial | exact zz0 | exact SLe.refl _ | exact OLe.refl _ | exact ⟨_, rfl, OLe.refl _⟩ | refine ⟨_, rfl, ?_⟩ | refine OLe.var ?_ | (show zAh _ _; refine ⟨?_, ?_⟩) | (show zAh [] []; exact zz0) | (refine SLe.int ?_; rw [w64]; omega) | refine SLe.int ?_ | refine SLe.bool ?_ | apply And.intro), by simp only [go_sem, e1, e2]; repeat' (first | exact trivial | exact zz0 | exact SLe.refl _ | exact OLe.refl _ | exact ⟨_, rfl, OLe.refl _⟩ | refine ⟨_, rfl, ?_⟩ | refine OLe.var ?_ | (show zAh _ _; refine ⟨?_, ?_⟩) | (show zAh [] []; exact zz0) | (refine SLe.int ?_; rw [w64]; omega) | refine SLe.int ?_ | refine SLe.bool ?_ | apply And.intro)⟩
    ·simp only; omega
    ·simp only; omega
   ·rw [hbit] at ek
    have e1 : acT c ch (k + 1) = acT c ch k ++ [yFc c k] := by rw [acT, hbit, if_pos rfl]
    have e2 : itT c ch (k + 1) = itT c ch k ++ [c.Items.getD k default] := by rw [itT, hbit, if_pos rfl]
    repeat' (first | apply zC | apply zG | apply zD | apply zL | apply zA | apply zP | apply zB | refine zF (by simp only [go_sem, ek, hof]; rfl) qR ?_ ?_ | refine zU (by simp only [go_sem, ek, hof]; rfl) qR ?_ ?_ | refine zQ qK qK ?_ | refine zF0 (by simp only [go_sem, ek, hof]; rfl) ?_ (by simp only [go_sem, ek, hof]; rfl) ?_ | refine zM K28 (by simp only [go_sem, ek, hof]; first | done | rfl) ?_ ⟨c.Offers, _, rfl, rfl⟩ (by simp only [go_sem, ek, hof]; rfl) ?_ | refine zX K29 (by simp only [go_sem, ek, hof]; first | done | rfl) ?_ ⟨_, rfl, rfl⟩ (by simp only [go_sem, ek, hof]; rfl) ?_ | (refine zE (by simp only [go_sem, ek, hof]; rfl) ?_ ?_ <;> intro hb <;> have hc := hb <;> (try simp only [bF] at hc) <;> (try (exfalso; simp at hc; done))) | exact zz0 | exact rfl | exact qP | fail)
    refine zFa 5 1 qS ?_;refine zR (o' := yAh (acT c ch k ++ [yFc c k])) 1 qR (OLe.snoc zBp _ (yFc c k) (yFb c k)) ?_;refine zR (o' := yFd (itT c ch k ++ [c.Items.getD k default])) 2 qR (OLe.snoc zIh _ (c.Items.getD k default) (SLe.refl _)) ?_;rw [← e1, ← e2]
    repeat' (first | refine zS (k+1,()) ?_ ?_ ⟨rfl, qL, qL⟩ | omega)
    all_goals skip
  ·have hkl : k = c.Items.length := by omega
   subst hkl;refine zO 1 qS ?_;refine zO 2 qS ?_
   have hE : ∀ b : Bool, (zTm c (itT c ch c.Items.length) && zGq d c.Programme c.Scale (acT c ch c.Items.length) (zFe c)) = b → b = false → ∀ i, i < ch + 1 → (zTm c (itT c i c.Items.length) && zGq d c.Programme c.Scale (acT c i c.Items.length) (zFe c)) = false := fun b h1 h2 i hi => by
    by_cases hij : i = ch
    ·subst hij; rw [h1, h2]
    ·exact g2 i (by omega)
   obtain ⟨L, hL⟩ : ∃ L, L = itT c ch c.Items.length := ⟨_, rfl⟩;obtain ⟨A, hA⟩ : ∃ A, A = acT c ch c.Items.length := ⟨_, rfl⟩;rw [← hL, ← hA] at hE ⊢
   repeat' (first | apply zC | apply zP | refine zU qS qR ?_ ?_ | refine zQ qK qK ?_ | refine zX K30 qD ?_ ⟨c, L, rfl, rfl⟩ qS ?_ | refine zBx 74 qR qS K29 qD (fun hg => ?_) (fun _ => ⟨_, rfl, rfl⟩) qS ?_ | refine zBx 74 qR qS K14x qD (fun hg => ?_) (fun _ => ⟨c.Programme, c.Scale, A, zFe c, hp, rfl, rfl⟩) qS ?_ | refine zK qR ?_ | exact zz0 | exact qP | fail)
   (refine zE qS ?_ ?_ <;> intro hb <;> have hc := hb <;> (try simp only [bF] at hc) <;> (try (exfalso; simp at hc; done)))
   ·have hyes : ((List.range M).any fun ch => zTm c (itT c ch c.Items.length) && zGq d c.Programme c.Scale (acT c ch c.Items.length) (zFe c)) = true := by
     rw [List.any_eq_true];exact ⟨ch, List.mem_range.2 hch, by rw [← hL, ← hA]; exact hb⟩
    rw [hyes]
    repeat' (first | apply zC | apply zA | apply zB | refine zF qS qR ?_ ?_ | refine zI qR ?_ | exact zz0 | exact rfl | exact zAc.bool rfl | fail)
    all_goals skip
   ·repeat' (first | apply zG | apply zL | apply zA | apply zB | refine zF qS qR ?_ ?_ | refine zS (ch+1,()) ?_ ?_ ⟨rfl, qL, qL⟩ | exact zz0 | exact rfl | omega)
    exact ⟨by simp only; omega, hE _ hb rfl⟩
 ·have hall : ((List.range M).any fun ch => zTm c (itT c ch c.Items.length) && zGq d c.Programme c.Scale (acT c ch c.Items.length) (zFe c)) = false := (zW3 _).2 fun j hj => g2 j (by omega)
  rw [hall]
  repeat' (first | apply zC | apply zA | apply zB | refine zF qS qR ?_ ?_ | refine zI qR ?_ | refine zK qR ?_ | exact zz0 | exact rfl | exact zAc.bool rfl | fail)
  all_goals skip
end Go.Sx
namespace Go.Sx
open Go.Proofs Go.RowKit
def yGe (d : Nat) (c : Case) : Bool := (List.range (2 ^ c.Items.length)).any fun ch => zVg c (itT c ch c.Items.length) 0 (itT c ch c.Items.length).length && yGu d c.Programme c.Scale (acT c ch c.Items.length) (zFe c)
theorem yD8 (d : Nat) (c : Case) (h1 : zHj (zFe c)) (h2 : ∀ ch, ∀ a ∈ acT c ch c.Items.length, zHj a.Day) : zZv d c = yGe d c := by
 unfold zZv yGe
 congr 1
 funext ch
 rw [zY7, zR7 d _ _ _ _ h1 (h2 ch)]
end Go.Sx
namespace Go.Sx
def cA1 : ByteArray := ⟨#[65, 49]⟩
def cB1 : ByteArray := ⟨#[66, 49]⟩
def cC1 : ByteArray := ⟨#[67, 49]⟩
def sA (c : ByteArray) (cr src bun : Int) : Ach := ⟨⟨1, c⟩, cr, 60, 0, [src], bun, []⟩
def sP (n : Need) : Programme := ⟨1, 1, 1, 0, ⟨#[76, 97, 119]⟩, n, 0, 0, 0, []⟩
def sS : Scale := ⟨0, 100, 50⟩
def sL : List Ach := [sA cA1 5 1 0, sA cB1 5 2 0]
def n1 : Need := .mk 1 0 0 [⟨1, cA1⟩] []
def nCr : Need := .mk 2 10 0 [⟨1, cA1⟩, ⟨1, cB1⟩] []
def yDe : Need := .mk 3 0 0 [] [n1, n1]
def zS6 : Need := .mk 4 1 0 [] [n1, n1]
def nC : Need := .mk 1 0 50 [⟨1, cC1⟩] []
def sC (most : Int) : Case := ⟨sP nC, sS, [], 4, 2, [⟨cA1, 5, 1, [1], []⟩, ⟨cB1, 5, 30, [1], []⟩, ⟨cC1, 5, 30, [], [cA1]⟩], [⟨4, cA1⟩, ⟨4, cB1⟩, ⟨5, cC1⟩], most, 399⟩
theorem yE1 : zCe cA1 := ⟨by decide, by decide, fun i h => by
 have h' : i < 2 := h
 match i, h' with
 | 0, _ => show okB 65; unfold okB; omega
 | 1, _ => show okB 49; unfold okB; omega⟩
theorem yE0 : zCe cB1 := ⟨by decide, by decide, fun i h => by
 have h' : i < 2 := h
 match i, h' with
 | 0, _ => show okB 66; unfold okB; omega
 | 1, _ => show okB 49; unfold okB; omega⟩
theorem yGw : zCe cC1 := ⟨by decide, by decide, fun i h => by
 have h' : i < 2 := h
 match i, h' with
 | 0, _ => show okB 67; unfold okB; omega
 | 1, _ => show okB 49; unfold okB; omega⟩
theorem nok1 (d : Nat) : NOk d n1 := by
 have hs : zGc n1 := fun c hc => by
  obtain rfl := List.mem_singleton.1 hc;exact yE1.asc
 cases d
 ·exact ⟨hs, rfl⟩
 ·exact ⟨hs, fun x hx => by simp [n1, Need.L] at hx⟩
theorem pok (n : Need) (h : NOk 3 n) (hc : (zAd 3 1 n).length ≤ 1000) : POk 3 (sP n) := ⟨⟨h, hc⟩, by show (3 : Nat) ≤ 100000; omega, fun x hx => by simp [sP] at hx⟩
theorem yGf : POk 3 (sP nCr) := pok _ ⟨fun c hc => by
  rcases List.mem_cons.1 hc with rfl | hc
  ·exact yE1.asc
  ·obtain rfl := List.mem_singleton.1 hc
   exact yE0.asc, fun x hx => by simp [nCr, Need.L] at hx⟩ (by decide)
theorem yD9 : POk 3 (sP yDe) := pok _ ⟨fun c hc => by simp [yDe, Need.Set] at hc, fun x hx => by
  have : x = n1 := by simpa [yDe, Need.L] using hx
  subst this;exact nok1 2⟩ (by decide)
theorem yBq : POk 3 (sP zS6) := pok _ ⟨fun c hc => by simp [zS6, Need.Set] at hc, fun x hx => by
  have : x = n1 := by simpa [zS6, Need.L] using hx
  subst this;exact nok1 2⟩ (by decide)
theorem pokC : POk 3 (sP nC) := pok _ ⟨fun c hc => by
  obtain rfl := List.mem_singleton.1 hc;exact yGw.asc, fun x hx => by simp [nC, Need.L] at hx⟩ (by decide)
theorem yFv : zHj 0 := by unfold zHj; decide
theorem dayW (x : Int) : zHj (zYo x) := by
 have h : ∀ y : Int, -9223372036854775808 ≤ IntKind.i64.wrap y ∧ IntKind.i64.wrap y < 9223372036854775808 := fun y => by rw [w64]; omega
 exact zT5 _ (h _).1 (h _).2
theorem sLd : ∀ a ∈ sL, zHj a.Day := fun a ha => by
 have : a = sA cA1 5 1 0 ∨ a = sA cB1 5 2 0 := by simpa [sL] using ha
 rcases this with rfl | rfl <;> exact yFv
theorem yGh : pw pair [sA cA1 5 5 0, sA cB1 5 5 0] = false := by decide +kernel
theorem yGg : pw pair [sA cA1 5 5 2, sA cB1 5 5 2] = true := by decide +kernel
theorem yGv : zGq 3 (sP nCr) sS sL 0 = true := (zR7 3 _ _ _ _ yFv sLd).trans (by decide +kernel)
theorem yEy : zGq 3 (sP yDe) sS sL 0 = false := (zR7 3 _ _ _ _ yFv sLd).trans (by decide +kernel)
theorem yCn : zGq 3 (sP zS6) sS sL 0 = true := (zR7 3 _ _ _ _ yFv sLd).trans (by decide +kernel)
theorem zSl (c : Case) (h : ∀ a ∈ c.Has, zHj a.Day) (ch : Nat) : ∀ k, ∀ a ∈ acT c ch k, zHj a.Day
 | 0 => h
 | k + 1 => fun a ha => by
  rw [acT] at ha
  rcases List.mem_append.1 ha with ha | ha
  ·exact zSl c h ch k a ha
  ·split at ha
   ·obtain rfl := List.mem_singleton.1 ha
    exact dayW _
   ·cases ha
theorem zVe (d : Nat) (c : Case) (h : ∀ a ∈ c.Has, zHj a.Day) : zZv d c = yGe d c := yD8 d c (dayW _) fun ch => zSl c h ch _
theorem posT : zZv 3 (sC 10) = true := (zVe 3 _ fun a ha => by cases ha).trans (by decide +kernel)
theorem posN : zZv 3 (sC 4) = false := (zVe 3 _ fun a ha => by cases ha).trans (by decide +kernel)
end Go.Sx
