/- Part of the proof that the laws of the judge return true for every input: J42a, B51a. -/
import Derived.Test.YtmbocmonhcplhaaGreatJ41
import Derived.Test.YtmbocmonhcplhaaGreatS4
set_option linter.all false
namespace Go.Sx
open Go.Proofs Go.RowKit
attribute [local irreducible] Run RunL RunD OpT SLe0 SLe OLe
set_option maxHeartbeats 2000000
set_option maxRecDepth 8000
set_option maxRecDepth 40000
set_option maxHeartbeats 400000000
attribute [go_sem] asA asS recAs List.replicate_succ List.replicate_zero vslF
@[go_sem] theorem w01 : IntKind.i64.wrap (0 + 1) = 1 := rfl
@[go_sem] theorem w12 : IntKind.i64.wrap (1 + 1) = 2 := rfl
@[go_sem] theorem w23 : IntKind.i64.wrap (2 + 1) = 3 := rfl
@[go_sem] theorem w34 : IntKind.i64.wrap (3 + 1) = 4 := rfl
@[go_sem] theorem w45 : IntKind.i64.wrap (4 + 1) = 5 := rfl
@[go_sem] theorem w56 : IntKind.i64.wrap (5 + 1) = 6 := rfl
@[go_sem] theorem w67 : IntKind.i64.wrap (6 + 1) = 7 := rfl
@[go_sem] theorem w78 : IntKind.i64.wrap (7 + 1) = 8 := rfl
@[go_sem] theorem w89 : IntKind.i64.wrap (8 + 1) = 9 := rfl
@[go_sem] theorem w910 : IntKind.i64.wrap (9 + 1) = 10 := rfl
@[go_sem] theorem nc0 : ((0 : Nat) : Int) = 0 := rfl
@[go_sem] theorem nc1 : ((1 : Nat) : Int) = 1 := rfl
@[go_sem] theorem nc2 : ((2 : Nat) : Int) = 2 := rfl
@[go_sem] theorem nc3 : ((3 : Nat) : Int) = 3 := rfl
@[go_sem] theorem nc4 : ((4 : Nat) : Int) = 4 := rfl
@[go_sem] theorem nc5 : ((5 : Nat) : Int) = 5 := rfl
@[go_sem] theorem nc6 : ((6 : Nat) : Int) = 6 := rfl
@[go_sem] theorem nc7 : ((7 : Nat) : Int) = 7 := rfl
@[go_sem] theorem nc8 : ((8 : Nat) : Int) = 8 := rfl
@[go_sem] theorem nc9 : ((9 : Nat) : Int) = 9 := rfl
@[go_sem] theorem tn4 : Int.toNat 4 = 4 := rfl
@[go_sem] theorem tn5 : Int.toNat 5 = 5 := rfl
@[go_sem] theorem tn6 : Int.toNat 6 = 6 := rfl
@[go_sem] theorem tn7 : Int.toNat 7 = 7 := rfl
@[go_sem] theorem tn8 : Int.toNat 8 = 8 := rfl
@[go_sem] theorem tn2 : Int.toNat 2 = 2 := rfl
@[go_sem] theorem tn3 : Int.toNat 3 = 3 := rfl
theorem tU182 : Tryz.prog.underlying 182 = some (.slice 106) := by kernel_rfl
theorem info106 : (Tryz.prog.info? 106).map (fun i => (i.zero, i.size, i.bytes)) = some (some (.slice none 0 0), 1, 24) := by kernel_rfl
theorem set_or (j : Nat) (U b : Nat → Bool) (i : Nat) : setF j (.bool (U j || b j)) (fun i => .bool (U i)) i = .bool (U i || (decide (i = j) && b i)) := by
 simp only [setF]
 by_cases h : i = j
 ·subst h; simp
 ·simp [h]
theorem lt_succ_or (z j : Nat) (b : Bool) : ((decide (z < j) && b) || (decide (z = j) && b)) = (decide (z < j + 1) && b) := by
 rw [← Bool.and_or_distrib_right]
 congr 1
 rw [Bool.eq_iff_iff, Bool.or_eq_true, decide_eq_true_eq, decide_eq_true_eq, decide_eq_true_eq]
 omega
def acS (met : Nat → Nat → Bool) (q m z : Nat) : Bool := (List.range m).any fun t => decide (q ≤ t) && met t z
theorem acS_le (met : Nat → Nat → Bool) (q m z : Nat) (h : m ≤ q) : acS met q m z = false := by
 simp only [acS, List.any_eq_false, List.mem_range, Bool.and_eq_true, decide_eq_true_eq]
 intro t ht; omega
theorem acS_zero (met : Nat → Nat → Bool) (q z : Nat) : acS met q q z = false := acS_le met q q z (Nat.le_refl _)
theorem acS_succ (met : Nat → Nat → Bool) (q m : Nat) (h : q ≤ m) (z : Nat) : acS met q (m + 1) z = (acS met q m z || met m z) := by
 simp [acS, List.range_succ, h]
theorem some_acS' {M k : Nat} {As : List ((Nat → Bool) → Nat → Bool)} {S : Nat → Bool} {met : Nat → Nat → Bool} {q z : Nat} (hz : z < M) (h1 : (foldM As [S]).length = k + 1) (h2 : ∀ i z, z < M → i < k + 1 → met i z = (foldM As [S]).getD i noneS z) : someS As (q : Int) S z = acS met q (k + 1) z := by
 unfold someS
 rw [Bool.eq_iff_iff, any_drop]
 simp only [acS, List.any_eq_true, List.mem_range, Bool.and_eq_true, decide_eq_true_eq]
 constructor
 ·rintro ⟨i, q1, q2, q3⟩
  refine ⟨i, by omega, ?_, by rw [h2 i z hz (by omega)]; exact q3⟩
  revert q1; split <;> omega
 ·rintro ⟨i, q1, q2, q3⟩
  refine ⟨i, ?_, by omega, by rw [← h2 i z hz q1]; exact q3⟩
  split <;> omega
def loopsC : Code → List Code
 | .seq a b => loopsC a ++ loopsC b
 | .cond _ a b => loopsC a ++ loopsC b
 | .block _ c => loopsC c
 | .loop c => c :: loopsC c
 | .scope c => loopsC c
 | _ => []
def nthLoop (i : Nat) (c : Option Code) : Code := (loopsC (c.getD .skip)).getD i .skip
@[go_sem] def eRows (M n : Nat) (f : Nat → Nat → Bool) : SD := .list 1 n fun i => eB M (f i)
@[go_sem] def s51 (n : Need) (s : Scale) (l : List Ach) (M : Nat) (U : Nat → Bool) (least : Int) (k : Nat) (mf : Nat → Nat → Bool) : St := ⟨167, 2, [(11, .int .i64 k), (10, eRows M (k + 1) mf), (2, eList 8 eAch l), (3, eB M U), (4, .loc 0 0), (5, .loc 1 0), (9, .int .i64 least)], [(0, .var (nCellsU n)), (1, .var [.int .i64 s.Worst, .int .i64 s.Best, .int .i64 s.Pass])]⟩
@[go_sem] def rwA : Nat → Nat → List SD
 | 0, _ => []
 | n + 1, b => .acc b :: rwA n (b + 1)
@[go_sem] def rwO (M : Nat) (W : Nat → Nat → Bool) : Nat → Nat → List (Nat × OB)
 | 0, _ => []
 | n + 1, j => (3 + j, aB M (W j)) :: rwO M W n (j + 1)
@[go_sem] def t51 (n : Need) (s : Scale) (l : List Ach) (M : Nat) (U : Nat → Bool) (least : Int) (k i : Nat) (mf W : Nat → Nat → Bool) : St := ⟨167, k + 5, [(14, .int .i64 i), (2, eList 8 eAch l), (3, eB M U), (4, .loc 0 0), (5, .loc 1 0), (9, .int .i64 least), (10, eRows M (k + 1) mf), (11, .int .i64 k), (12, .vsl 2 0 (k + 2) (k + 2))], [(0, .var (nCellsU n)), (1, .var [.int .i64 s.Worst, .int .i64 s.Best, .int .i64 s.Pass]), (2, .var (rwA (k + 2) 3))] ++ rwO M W (k + 2) 0⟩
@[go_sem] abbrev lt51 {k m : Nat} (_ : k < m) : Nat := k
theorem run_loopN {P : Program} {F : List Nat} {w0 : Base} {fin : Exit → Act → World → Prop} {kl : List It} {s : St} {σ : Type} {body : Code} {S : σ → St} {k m : Nat} (_ : k < m) (ns : List Nat) (U : σ → List (Nat × SD)) (UO : Nat → σ → List (Nat × OB)) (I : σ → Prop) (μ : σ → Nat) (x0 : σ)
  (hS : ∀ x, headS s ns U (UO k) x = S x) (h0 : I x0) (hs : subS s.sl (U x0)) (ho : subO s.ow (UO k x0)) (hb : ∀ x, I x → Run P F w0 fin (.code body :: .lp (LI F w0 S I μ x) :: kl) (S x)) : Run P F w0 fin (.code (.loop body) :: kl) s := zN ns U (UO k) I μ x0 hS h0 hs ho hb
def rowsOk (M : Nat) (W : Nat → Nat → Bool) : List SD → Nat → Prop
 | [], _ => True
 | d :: r, i => d = (.list 1 M fun j => .bool (W i j)) ∧ rowsOk M W r (i + 1)
theorem rows_nth {M : Nat} {W : Nat → Nat → Bool} : ∀ (l : List SD) (i0 i : Nat), rowsOk M W l i0 → i < l.length → nthSD l i = .list 1 M fun j => .bool (W (i0 + i) j)
 | [], _, i, _, h => absurd h (Nat.not_lt_zero i)
 | d :: r, i0, 0, h, _ => h.1
 | d :: r, i0, i + 1, h, hi => by
  have := rows_nth r (i0 + 1) i h.2 (by simpa using hi)
  rw [show i0 + (i + 1) = i0 + 1 + i by omega]
  exact this
theorem rows_lit {M n : Nat} {W : Nat → Nat → Bool} {l : List SD} (hn : n = l.length) (h : rowsOk M W l 0) : SLe (.list 1 n (nthSD l)) (.list 1 n fun i => .list 1 M fun j => .bool (W i j)) := SLe.list rfl fun i hi => by
 have := rows_nth l 0 i h (by omega)
 rwa [Nat.zero_add] at this
theorem ole_rowT {M t : Nat} {V b : Nat → Bool} {c : Bool} (h : c = b t) : OLe (.acc 4 1 M (setF t (.bool (V t || c)) fun z => .bool (V z))) (.acc 4 1 M fun z => .bool (V z || (decide (z = t) && b z))) :=
 OLe.accS rfl fun i _ => by subst h; exact set_or t V b i
theorem ole_rowN {M t : Nat} {V b : Nat → Bool} (h : ∀ z, b z = false) : OLe (.acc 4 1 M fun z => .bool (V z)) (.acc 4 1 M fun z => .bool (V z || (decide (z = t) && b z))) :=
 OLe.accS rfl fun i _ => by rw [h i, Bool.and_false, Bool.or_false]
theorem row_eq (i j : Nat) (f g : Nat → Nat → Bool) (z : Nat) : (((decide (j < i) && f j z) || (decide (0 < j ∧ j ≤ i) && g (j - 1) z)) || ((decide (j = i) && f i z) || (decide (j = i + 1) && g i z))) = ((decide (j < i + 1) && f j z) || (decide (0 < j ∧ j ≤ i + 1) && g (j - 1) z)) := by
 rcases Nat.lt_trichotomy j i with h | h | h
 ·have h1 : ¬ j = i := by omega
  have h2 : ¬ j = i + 1 := by omega
  have h3 : j < i + 1 := by omega
  have h4 : j ≤ i := by omega
  have h5 : j ≤ i + 1 := by omega
  simp [h, h1, h2, h3, h4, h5]
 ·subst h
  have h2 : ¬ j = j + 1 := by omega
  simp
  cases f j z <;> cases decide (0 < j) <;> simp
 ·have h1 : ¬ j < i := by omega
  have h2 : ¬ j = i := by omega
  have h3 : ¬ j ≤ i := by omega
  by_cases h4 : j = i + 1
  ·subst h4
   simp
   rintro (⟨h', _⟩ | ⟨h', _⟩) <;> omega
  ·have h5 : ¬ j < i + 1 := by omega
   have h6 : ¬ j ≤ i + 1 := by omega
   simp [h1, h2, h3, h4, h5, h6]
def iv51 (A : Scale → List Ach → Nat → Need → (Nat → Bool) → Nat → Bool) (n : Need) (s : Scale) (l : List Ach) (M : Nat) (mf : Nat → Nat → Bool) {k m : Nat} (_ : k < m) (x : Nat × (Nat → Nat → Bool)) : Prop := x.1 ≤ k + 1 ∧ ∀ j z, z < M → x.2 j z = ((decide (j < x.1) && mf j z) || (decide (0 < j ∧ j ≤ x.1) && A s l M (n.L.getD k default) (mf (j - 1)) z))
theorem step51 {A : Scale → List Ach → Nat → Need → (Nat → Bool) → Nat → Bool} {n : Need} {s : Scale} {l : List Ach} {M : Nat} {mf W V : Nat → Nat → Bool} {k m i : Nat} (hk : k < m) (hi : i < k + 1) (g2 : ∀ j z, z < M → W j z = ((decide (j < i) && mf j z) || (decide (0 < j ∧ j ≤ i) && A s l M (n.L.getD k default) (mf (j - 1)) z)))
  (h : ∀ j z, z < M → V j z = (W j z || ((decide (j = i) && mf i z) || (decide (j = i + 1) && A s l M (n.L.getD k default) (mf i) z)))) : iv51 A n s l M mf hk (i + 1, V) ∧ k + 1 - (i + 1) < k + 1 - i :=
 ⟨⟨hi, fun j z hz => by simp only; rw [h j z hz, g2 j z hz]; exact row_eq i j mf (fun y z => A s l M (n.L.getD k default) (mf y) z) z⟩, by omega⟩
theorem stepmkNk {P : Program} {F : List Nat} {w0 : Base} {s : St} {ops : Array Oper} {Q : Exit → Act → World → Prop} {rest : List Oper} {k n : Nat} (_ : k < n) {t T te b : Nat} {x y : Operand} {kx ky : IntKind} {c1 c2 : Int} {z : Value} {ty : Nat} {pos : String} {af : Array Edge} {s' : St} (hT : P.underlying T = some (.slice te)) (hi : (P.info? te).map (fun i => (i.zero, i.size, i.bytes)) = some (some z, 1, b)) (hbz : (Nat.ble b 64 && z.oneCell' && Nat.ble (k + 2) 100) = true) (hzc : z.cells = #[z])
  (hx : ev s x = .int kx c1) (hy : ev s y = .int ky c2) (hc1 : c1 = ((k + 2 : Nat) : Int)) (hc2 : c2 = ((k + 2 : Nat) : Int))
  (hb : (Nat.blt t s.n && s.free s.nx) = true) (hs : (⟨s.n, s.nx + 1, upd s.sl t (.vsl s.nx 0 (k + 2) (k + 2)), upd s.ow s.nx (.var (List.replicate (k + 2) (ofS z)))⟩ : St) = s')
  (hn : RunL P F w0 ops Q rest s') : RunL P F w0 ops Q (⟨some t, .makeSlice T x y, ty, pos, af, none⟩ :: rest) s := stepmkN (k + 2) hT hi hbz hzc hx hy hc1 hc2 hb hs hn
end Go.Sx
namespace Go.Sx
open Go.Proofs Go.RowKit
attribute [local irreducible] Run RunL RunD OpT SLe0 SLe OLe
set_option maxHeartbeats 2000000
set_option maxRecDepth 8000
set_option maxRecDepth 40000
set_option maxHeartbeats 400000000
theorem B51a {Pm : Need → Prop} {A : Scale → List Ach → Nat → Need → (Nat → Bool) → Nat → Bool}
  (ih : FnOK Tryz.prog 51 (fun ds v => ∃ (n : Need) (s : Scale) (l : List Ach) (M : Nat) (S : Nat → Bool), (Pm n ∧ l.length ≤ 10 ∧ M = 2 ^ l.length) ∧ ds = [eNeedU n, eScale s, eList 8 eAch l, eB M S] ∧ v = eB M (A s l M n S)))
  {F : List Nat} {w0 : Base} {fin : Exit → Act → World → Prop} {kl : List It} {n : Need} {s : Scale} {l : List Ach} {M : Nat} {U : Nat → Bool} {least : Int} {mf : Nat → Nat → Bool} {k : Nat} {i : Nat} {W : Nat → Nat → Bool} (hg : k ≤ 2) (hik : i ≤ k) (hm : Pm (n.L.getD k default)) (hk : k < n.L.length) (hl : l.length ≤ 10) (hMe : M = 2 ^ l.length) (hM : M ≤ 1024)
  (hn : ∀ V : Nat → Nat → Bool, (∀ j z, z < M → V j z = (W j z || ((decide (j = i) && mf i z) || (decide (j = i + 1) && A s l M (n.L.getD k default) (mf i) z)))) → Run Tryz.prog F w0 fin kl (t51 n s l M U least k (i + 1) mf V)) :
  Run Tryz.prog F w0 fin (.code (nthLoop 2 Tryz.f51.body) :: kl) (t51 n s l M U least k i mf W) := by
 have en : nthSD (eNeeds n.L) k = eNeedU (n.L.getD k default) := by rw [eNeeds_nth _ _ hk, eNeed_U]
 obtain ⟨i', hi'⟩ : ∃ i', i' = i := ⟨_, rfl⟩
 obtain ⟨R, hR⟩ : ∃ R, A s l M (n.L.getD k default) = R := ⟨_, rfl⟩
 rw [hR] at hn
 rcases (show (k = 0 ∧ i = 0) ∨ (k = 1 ∧ i = 0) ∨ (k = 1 ∧ i = 1) ∨ (k = 2 ∧ i = 0) ∨ (k = 2 ∧ i = 1) ∨ (k = 2 ∧ i = 2) by omega) with ⟨rfl, rfl⟩ | ⟨rfl, rfl⟩ | ⟨rfl, rfl⟩ | ⟨rfl, rfl⟩ | ⟨rfl, rfl⟩ | ⟨rfl, rfl⟩
 all_goals
  refine run_st qS ?_
  repeat' (first | apply zC | apply zA | apply zB | refine zF qS qR ?_ ?_ | exact True.intro | exact rfl | fail)
  (refine zE qS ?_ ?_ <;> intro hb <;> have hc := hb <;> (try simp only [bF] at hc) <;> (try (exfalso; simp at hc; done)))
  repeat' (first | apply zC | apply zG | apply zD | apply zA | apply zP | apply zB | refine zF (by simp only [go_sem, en]; rfl) qR ?_ ?_ | refine runDqRP (by simp only [go_sem, en]; rfl) qR ?_ (by simp only [go_sem, en, recsOf, recA, recU, recG, readS, keysA, keysU]; rfl) ?_ | refine zQ qK qK ?_ | refine zX ih (by simp only [go_sem, en]; first | done | rfl) ?_ ⟨n.L.getD _ default, s, l, M, _, ⟨hm, hl, hMe⟩, rfl, rfl⟩ (by simp only [go_sem, en]; rfl) ?_ | exact True.intro | exact rfl | exact qP | fail)
  simp only [hR]
  refine run_loopN hk [2, 3, 4, 5, 9, 10, 11, 12, 14, 15] (fun x : Nat × (Nat → Nat → Bool) => [(16, .int .i64 x.1)]) (fun k x => rwO M x.2 (k + 2) 0) (fun x => x.1 ≤ M ∧ ∀ j z, z < M → x.2 j z = (W j z || (decide (z < x.1) && ((decide (j = i') && mf i' z) || (decide (j = i' + 1) && R (mf i') z))))) (fun x => M - x.1) (0, W) (fun x => qS) ?_ qL qL ?_
  ·exact ⟨Nat.zero_le _, fun j z _ => by simp⟩
  rintro ⟨t, V⟩ ⟨p1, p2⟩
  simp only at p1 p2
  repeat' (first | apply zC | apply zA | apply zB | refine zF qS qR ?_ ?_ | exact True.intro | exact rfl | fail)
  (refine zE qS ?_ ?_ <;> intro hb <;> have hc := hb <;> (try simp only [bF] at hc) <;> (try (exfalso; simp at hc; done)))
  ·have ht : t < M := by omega
   repeat' (first | apply zC | apply zG | apply zD | apply zL | apply zA | apply zP | apply zB | refine zF qS qR ?_ ?_ | refine zU qS qR ?_ ?_ | refine zQ qK qK ?_ | refine runDas qS qS ?_ | exact True.intro | exact rfl | exact qP | fail)
   refine zS (t + 1, fun j z => V j z || (decide (z = t) && ((decide (j = i') && mf i' z) || (decide (j = i' + 1) && R (mf i') z)))) ?_ ?_ ⟨rfl, by simp only [go_sem]; repeat' (first | exact trivial | exact True.intro | exact SLe.refl _ | exact OLe.refl _ | exact ⟨_, rfl, OLe.refl _⟩ | refine ⟨_, rfl, ?_⟩ | refine OLe.var ?_ | (show SLeL _ _; refine ⟨?_, ?_⟩) | (show SLeL [] []; exact True.intro) | (refine SLe.int ?_; rw [w64]; omega) | refine SLe.int ?_ | refine SLe.bool ?_ | apply And.intro | exact ole_rowT (by simp [hi']) | exact ole_rowN (fun z => by simp [hi']) | (simp only [hi']; rfl)), by simp only [go_sem]; repeat' (first | exact trivial | exact True.intro | exact SLe.refl _ | exact OLe.refl _ | exact ⟨_, rfl, OLe.refl _⟩ | refine ⟨_, rfl, ?_⟩ | refine OLe.var ?_ | (show SLeL _ _; refine ⟨?_, ?_⟩) | (show SLeL [] []; exact True.intro) | (refine SLe.int ?_; rw [w64]; omega) | refine SLe.int ?_ | refine SLe.bool ?_ | apply And.intro | exact ole_rowT (by simp [hi']) | exact ole_rowN (fun z => by simp [hi']) | (simp only [hi']; rfl))⟩
   ·exact ⟨by simp only; omega, fun j z hz => by simp only; rw [p2 j z hz, Bool.or_assoc, lt_succ_or]⟩
   ·simp only; omega
  ·repeat' (first | apply zL | apply zA | apply zB | refine zF qS qR ?_ ?_ | refine zK qR ?_ | exact True.intro | exact rfl | fail)
   refine run_into (hn V fun j z hz => by rw [p2 j z hz, decide_eq_true (by omega : z < t), Bool.true_and]; subst hi'; rfl) ⟨rfl, by simp only [go_sem]; repeat' (first | exact trivial | exact True.intro | exact SLe.refl _ | exact OLe.refl _ | exact ⟨_, rfl, OLe.refl _⟩ | refine ⟨_, rfl, ?_⟩ | refine OLe.var ?_ | (show SLeL _ _; refine ⟨?_, ?_⟩) | (show SLeL [] []; exact True.intro) | (refine SLe.int ?_; rw [w64]; omega) | refine SLe.int ?_ | refine SLe.bool ?_ | apply And.intro | exact ole_rowT (by simp [hi']) | exact ole_rowN (fun z => by simp [hi']) | (simp only [hi']; rfl)), by simp only [go_sem]; repeat' (first | exact trivial | exact True.intro | exact SLe.refl _ | exact OLe.refl _ | exact ⟨_, rfl, OLe.refl _⟩ | refine ⟨_, rfl, ?_⟩ | refine OLe.var ?_ | (show SLeL _ _; refine ⟨?_, ?_⟩) | (show SLeL [] []; exact True.intro) | (refine SLe.int ?_; rw [w64]; omega) | refine SLe.int ?_ | refine SLe.bool ?_ | apply And.intro | exact ole_rowT (by simp [hi']) | exact ole_rowN (fun z => by simp [hi']) | (simp only [hi']; rfl))⟩
end Go.Sx
