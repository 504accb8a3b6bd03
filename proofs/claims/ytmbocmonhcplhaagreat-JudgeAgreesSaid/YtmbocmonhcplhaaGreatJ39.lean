/- Part of the proof that the laws of the judge return true for every input: J36, J33, J37, J38, J39. -/
import Derived.Test.YtmbocmonhcplhaaGreatJ35
set_option linter.all false
namespace Go.Sx
open Go.Proofs Go.RowKit
attribute [local irreducible] Run zAi zAy OpT zAc SLe OLe
set_option maxHeartbeats 2000000
set_option maxRecDepth 8000
set_option maxHeartbeats 4000000
attribute [local irreducible] cM dM
@[go_sem] theorem fT_eq (q : MK) : fT q = .bool true := rfl
theorem K271 : FnOK Tryz.prog 271 (fun ds v => ∃ (fs cr : List Int) (N : Int) (S : Nat → Bool), ((∀ x ∈ fs, 0 ≤ x ∧ x < 10 ∧ x < cr.length) ∧ fs.length ≤ 10) ∧ ds = [.agg [ints fs, ints cr, .int .i64 N], zFt S] ∧ v = zFt (stepS S fun y z => chs cr N y fs y 0 z)) := by
 refine zAa Tryz.call271 Tryz.func271 rfl Tryz.ntmps271 ?_
 rintro ds d ⟨fs, cr, N, S, ⟨hf, hfl⟩, rfl, rfl⟩
 refine ⟨by simp, fun w0 => ?_⟩
 have e0 : (.mp ⟨some .i64, 0, fun _ => false, fT, none⟩ [] : OB) = zGt (fun _ => false) := by
  simp only [zGt]
  congr 2
  all_goals first | (funext q; cases q <;> simp [dM]; done) | (simp [cM]; done)
 repeat' (first | apply zC | apply zD | apply zA | apply zB | refine zF qS qR ?_ ?_ | refine zHp (fT) qS qS ?_ | refine zIm qS qS qS ?_ | exact zz0 | exact rfl | fail)
 refine zR (o' := zGt (fun _ => false)) 1 qR (zGx e0) ?_
 refine zN [0, 1, 2, 4, 5, 10] (fun x : (MK → Bool) × Option MK × Nat × (Nat → Bool) => []) (fun x : (MK → Bool) × Option MK × Nat × (Nat → Bool) => [(1, zGt x.2.2.2), (3, .mp ⟨some .i64, cM S, dM S, fT, some (.iter x.2.2.1 x.1 x.2.1)⟩ [])]) (fun x : (MK → Bool) × Option MK × Nat × (Nat → Bool) => ∀ z, z < 1024 → x.2.2.2 z = unV x.1 S (fun y z => chs cr N y fs y 0 z) z) (fun x : (MK → Bool) × Option MK × Nat × (Nat → Bool) => x.2.2.1) ((fun _ => false), none, cM S, fun _ => false) (fun x => qS) ?_ qL qL ?_
 ·intro z _; exact (zHl _ _ _).symm
 rintro ⟨V, cur, c, T⟩ g1
 simp only at g1
 repeat' (first | apply zC | apply zA | exact rfl | fail)
 refine zIn qS qS qR (fun hdone => ?_) (fun y c' hlt hdom hV => ?_)
 ·have hT : ∀ z, z < 1024 → T z = stepS S (fun y z => chs cr N y fs y 0 z) z := fun z hz => by rw [g1 z hz, zHm _ hdone]
  rw [← zM7 hT]
  repeat' (first | refine zO 1 qS ?_ | apply zC | apply zA | apply zB | refine zF qS qR ?_ ?_ | (refine zE qS ?_ ?_ <;> intro hb <;> have hc := hb <;> (try simp only [bF] at hc) <;> (try (exfalso; simp at hc; done))) | refine zI qR ?_ | refine zK qR ?_ | exact zz0 | exact rfl | exact zAc.pure rfl | fail)
  all_goals skip
 ·obtain ⟨n, hn, hy, hS⟩ := zLz hdom
  obtain rfl : y = (n : Int) := by simpa using hy
  repeat' (first | apply zC | apply zB | refine zF qS qR ?_ ?_ | exact zz0 | fail)
  (refine zE qS ?_ ?_ <;> intro hb <;> have hc := hb <;> (try simp only [bF] at hc) <;> (try (exfalso; simp at hc; done)))
  obtain ⟨T1, hT1⟩ : ∃ T1 : Nat → Bool, (fun z => T z || chs cr N n (fs) n 0 z) = T1 := ⟨_, rfl⟩;have ihx := K272 fs.length;clear e0 hdom hV
  repeat' (first | apply zC | apply zG | apply zD | apply zL | apply zA | apply zB | refine zF (by simp only [go_sem, hT1]; rfl) qR ?_ ?_ | refine zIo (by simp only [go_sem, hT1]; rfl) (by simp only [go_sem, hT1]; rfl) (by simp only [go_sem, hT1]; rfl) ?_ | refine zD0 [0, 4, 2, 5, 1] ihx (by first | (simp only [go_sem, hT1]; done) | (simp only [go_sem, hT1]; rfl)) qR (by simp only [go_sem, hT1]; first | done | rfl) (by first | (simp only [go_sem, hT1]; done) | rfl) (by first | (simp only [go_sem, hT1]; done) | (simp only [go_sem, hT1]; rfl)) ?_ ⟨fs, cr, N, n, T, 0, n, 0, ⟨hf, hfl, by omega, hn, hn⟩, rfl, rfl, rfl, rfl⟩ (by simp only [go_sem, hT1]; rfl) ?_ | exact zz0 | exact rfl | fail)
  refine zS (zFl (.i (n : Int)) V, some (.i (n : Int)), c', T1) ?_ ?_ ⟨rfl, qL, qL⟩
  ·intro z hz
   simp only;rw [← hT1];simp only;rw [g1 z hz, zJ2 _ hn hS]
  ·exact hlt
end Go.Sx
namespace Go.Sx
open Go.Proofs Go.RowKit
attribute [local irreducible] Run zAi zAy OpT zAc SLe OLe
set_option maxHeartbeats 2000000
set_option maxRecDepth 8000
set_option maxHeartbeats 20000000
theorem yAb : AsY Tryz.prog 179 179 := fun _ _ _ => by kernel_rfl
theorem yAd : AsN Tryz.prog 175 179 (.agg #[.slice none 0 0, .int .i64 0]) := fun _ _ _ => by kernel_rfl
theorem yAc : AsN Tryz.prog 177 179 (.agg #[.slice none 0 0, .int .i64 0]) := fun _ _ _ => by kernel_rfl
def zG0 : Nat → Need → Nat
 | 0, n => if n.Kind = 1 ∨ n.Kind = 2 then 1 else 0
 | d + 1, n => if n.Kind = 1 ∨ n.Kind = 2 then 1 else (n.L.map (zG0 d)).sum
theorem zQe : ∀ (d : Nat) (n : Need), MOk d n → zG0 d n ≤ zQf d
 | 0, n, _ => by simp only [zG0, zQf]; split <;> omega
 | d + 1, n, h => by
  have hc := zY4 d;simp only [zG0, zQf];split
  ·omega
  ·have key : ∀ l : List Need, (∀ x ∈ l, MOk d x) → (l.map (zG0 d)).sum ≤ l.length * zQf d := by
    intro l
    induction l with
    | nil => intro _; simp
    | cons x r ih =>
     intro hx;have h1 := ih fun y hy => hx y (List.mem_cons_of_mem _ hy);have h2 := zQe d x (hx x (List.mem_cons_self ..));simp only [List.map_cons, List.sum_cons, List.length_cons, Nat.succ_mul];omega
   have h5 := key n.L h.2.2;have h6 := Nat.mul_le_mul_right (zQf d) h.1;omega
theorem K46 (d : Nat) (hcn : zQf d ≤ 10000) : FnOK Tryz.prog 46 (fun ds v => ∃ (n : Need) (s : Scale) (l : List Ach), MOk d n ∧ ds = [zBk s l d n] ∧ v = eInt (zG0 d n : Nat)) := by
 induction d with
 | zero =>
  refine zAa Tryz.call46 Tryz.func46 rfl Tryz.ntmps46 ?_;rintro ds d ⟨n, s, l, hn, rfl, rfl⟩;refine ⟨by simp, fun w0 => ?_⟩;by_cases k1 : n.Kind = 1
  ·have hw : zBk s l 0 n = .iface 175 (.agg (wL s l 0 n)) := by simp only [zBk, wT, if_pos k1]
   have hc : zG0 0 n = 1 := by rw [zG0, if_pos (.inl k1)]
   rw [hw, hc]
   repeat' (first | apply zC | apply zG | apply zD | apply zL | apply zA | apply zB | refine zF qS qR ?_ ?_ | refine zL7 yAd qS qS ?_ | (refine zE qS ?_ ?_ <;> intro hb <;> have hc := hb <;> (try simp only [bF] at hc) <;> (try (exfalso; simp at hc; done))) | refine zI qR ?_ | exact zz0 | exact rfl | refine zAc.int ?_ | fail)
   all_goals skip
  by_cases k2 : n.Kind = 2
  ·have hw : zBk s l 0 n = .iface 177 (.agg (wL s l 0 n)) := by simp only [zBk, wT, if_neg k1, if_pos k2]
   have hc : zG0 0 n = 1 := by rw [zG0, if_pos (.inr k2)]
   rw [hw, hc]
   repeat' (first | apply zC | apply zG | apply zD | apply zL | apply zA | apply zB | refine zF qS qR ?_ ?_ | refine zL7 yAc qS qS ?_ | (refine zE qS ?_ ?_ <;> intro hb <;> have hc := hb <;> (try simp only [bF] at hc) <;> (try (exfalso; simp at hc; done))) | refine zI qR ?_ | exact zz0 | exact rfl | refine zAc.int ?_ | fail)
   all_goals skip
  ·have hw : zBk s l 0 n = .iface 179 (.agg [.list 1 0 fun _ => .any, .int .i64 (if n.Kind = 3 then 0 else n.N)]) := by simp only [zBk, wT, wL, if_neg k1, if_neg k2]
   have hc : zG0 0 n = 0 := by rw [zG0, if_neg (by omega)]
   rw [hw, hc]
   repeat' (first | apply zC | apply zD | apply zA | apply zB | refine zF qS qR ?_ ?_ | refine zT8 yAb qS qS ?_ | (refine zE qS ?_ ?_ <;> intro hb <;> have hc := hb <;> (try simp only [bF] at hc) <;> (try (exfalso; simp at hc; done))) | exact zz0 | exact rfl | fail)
   refine zN [0, 12, 13] (fun x : Nat × Unit => [(14, .int .i64 x.1), (3, .int .i64 0)]) (fun x : Nat × Unit => []) (fun x : Nat × Unit => x.1 ≤ 0) (fun x : Nat × Unit => 0 - x.1) (0, ()) (fun x => qS) ?_ qL qL ?_
   ·exact Nat.le_refl _
   rintro ⟨j, _⟩ q1;simp only at q1
   repeat' (first | apply zC | apply zL | apply zA | apply zB | refine zF qS qR ?_ ?_ | (refine zE qS ?_ ?_ <;> intro hb <;> have hc := hb <;> (try simp only [bF] at hc) <;> (try (exfalso; simp at hc; done))) | refine zI qR ?_ | refine zK qR ?_ | exact zz0 | exact rfl | refine zAc.int ?_ | fail)
   all_goals skip
 | succ d ih =>
  refine zAa Tryz.call46 Tryz.func46 rfl Tryz.ntmps46 ?_;rintro ds d ⟨n, s, l, hn, rfl, rfl⟩;refine ⟨by simp, fun w0 => ?_⟩;by_cases k1 : n.Kind = 1
  ·have hw : zBk s l (d + 1) n = .iface 175 (.agg (wL s l (d + 1) n)) := by simp only [zBk, wT, if_pos k1]
   have hc : zG0 (d + 1) n = 1 := by rw [zG0, if_pos (.inl k1)]
   rw [hw, hc]
   repeat' (first | apply zC | apply zG | apply zD | apply zL | apply zA | apply zB | refine zF qS qR ?_ ?_ | refine zL7 yAd qS qS ?_ | (refine zE qS ?_ ?_ <;> intro hb <;> have hc := hb <;> (try simp only [bF] at hc) <;> (try (exfalso; simp at hc; done))) | refine zI qR ?_ | exact zz0 | exact rfl | refine zAc.int ?_ | fail)
   all_goals skip
  by_cases k2 : n.Kind = 2
  ·have hw : zBk s l (d + 1) n = .iface 177 (.agg (wL s l (d + 1) n)) := by simp only [zBk, wT, if_neg k1, if_pos k2]
   have hc : zG0 (d + 1) n = 1 := by rw [zG0, if_pos (.inr k2)]
   rw [hw, hc]
   repeat' (first | apply zC | apply zG | apply zD | apply zL | apply zA | apply zB | refine zF qS qR ?_ ?_ | refine zL7 yAc qS qS ?_ | (refine zE qS ?_ ?_ <;> intro hb <;> have hc := hb <;> (try simp only [bF] at hc) <;> (try (exfalso; simp at hc; done))) | refine zI qR ?_ | exact zz0 | exact rfl | refine zAc.int ?_ | fail)
   all_goals skip
  ·have hw : zBk s l (d + 1) n = .iface 179 (.agg [.list 1 n.L.length fun i => zBk s l d (n.L.getD i default), .int .i64 (if n.Kind = 3 then (n.L.length : Int) else n.N)]) := by simp only [zBk, wT, wL, if_neg k1, if_neg k2]
   have hc0 : zG0 (d + 1) n = (n.L.map (zG0 d)).sum := by rw [zG0, if_neg (by omega)]
   have hb1 : zQf d ≤ 10000 := by simp only [zQf] at hcn; omega
   have hsum : ∀ i, i ≤ n.L.length → ((n.L.take i).map (zG0 d)).sum ≤ i * zQf d := by
    intro i
    induction i with
    | zero => intro _; simp
    | succ i ihh =>
     intro hi;have h1 := ihh (by omega);have h2 := zQe d _ (hn.2.2 _ (zAk (show i < n.L.length by omega)));rw [List.take_add_one, List.getElem?_eq_getElem (by omega), List.map_append, List.sum_append];rw [zz2, List.getElem?_eq_getElem (by omega)] at h2;simp only [Option.getD_some] at h2;simp only [Option.toList_some, List.map_cons, List.map_nil, List.sum_cons, List.sum_nil, Nat.succ_mul];omega
   rw [hw, hc0]
   repeat' (first | apply zC | apply zD | apply zA | apply zB | refine zF qS qR ?_ ?_ | refine zT8 yAb qS qS ?_ | (refine zE qS ?_ ?_ <;> intro hb <;> have hc := hb <;> (try simp only [bF] at hc) <;> (try (exfalso; simp at hc; done))) | exact zz0 | exact rfl | fail)
   refine zN [0, 12, 13] (fun x : Nat × Unit => [(14, .int .i64 x.1), (3, .int .i64 (((n.L.take x.1).map (zG0 d)).sum : Nat))]) (fun x : Nat × Unit => []) (fun x : Nat × Unit => x.1 ≤ n.L.length) (fun x : Nat × Unit => n.L.length - x.1) (0, ()) (fun x => qS) ?_ qL qL ?_
   ·exact Nat.zero_le _
   rintro ⟨j, _⟩ q1;simp only at q1
   repeat' (first | apply zC | apply zA | apply zB | refine zF qS qR ?_ ?_ | exact zz0 | exact rfl | fail)
   (refine zE qS ?_ ?_ <;> intro hb <;> have hc := hb <;> (try simp only [bF] at hc) <;> (try (exfalso; simp at hc; done)))
   ·have hj : j < n.L.length := by assumption
    have h3 := hn.1;have h7 := hsum j q1;have h8 : j * zQf d ≤ 8 * 10000 := Nat.mul_le_mul (by omega) hb1;have hx := hn.2.2 _ (zAk hj);have h9 := zQe d _ hx
    have hs : ((n.L.take (j + 1)).map (zG0 d)).sum = ((n.L.take j).map (zG0 d)).sum + zG0 d (n.L.getD j default) := by
     rw [List.take_add_one, List.getElem?_eq_getElem hj, List.map_append, List.sum_append, zz2, List.getElem?_eq_getElem hj];simp
    have e1 : IntKind.i64.wrap ((((n.L.take j).map (zG0 d)).sum : Int) + (zG0 d (n.L.getD j default) : Int)) = (((n.L.take (j + 1)).map (zG0 d)).sum : Nat) := by rw [w64, hs]; omega
    have ih' := ih hb1
    repeat' (first | apply zC | apply zG | apply zD | apply zL | apply zA | apply zB | refine zF (by simp only [go_sem, e1]; rfl) qR ?_ ?_ | refine zM ih' (by simp only [go_sem, e1]; first | done | rfl) ?_ ⟨n.L.getD j default, s, l, hx, rfl, rfl⟩ (by simp only [go_sem, e1]; rfl) ?_ | refine zS (j+1,()) ?_ ?_ ⟨rfl, qL, qL⟩ | exact zz0 | exact rfl | omega | exact qP | fail)
    all_goals skip
   ·have hje : j = n.L.length := by omega
    repeat' (first | apply zC | apply zL | apply zA | apply zB | refine zF qS qR ?_ ?_ | refine zI qR ?_ | refine zK qR ?_ | exact zz0 | exact rfl | refine zAc.int ?_ | fail)
    all_goals (rw [hje, List.take_length])
end Go.Sx
namespace Go.Sx
open Go.Proofs Go.RowKit
attribute [local irreducible] Run zAi zAy OpT zAc SLe OLe
set_option maxHeartbeats 2000000
set_option maxRecDepth 8000
set_option maxHeartbeats 4000000
attribute [local irreducible] cM dM
@[go_sem] def yEw (l : List (Nat → Bool)) : SD := .list 1 l.length fun i => zFt (l.getD i fun _ => false)
theorem K274 : zKz Tryz.prog 274 (fun ds T es n g => ∃ l : List (Nat → Bool), (0 < l.length ∧ l.length ≤ 100) ∧ ds = [yEw l] ∧ T = 103 ∧ es = 1 ∧ n = l.length ∧ g = fun i => zFt (l.getD i fun _ => false)) := by
 refine zE3 Tryz.call274 Tryz.func274 rfl Tryz.ntmps274 ?_
 rintro ds T es n g ⟨l, hl, rfl, rfl, rfl, rfl, rfl⟩
 refine ⟨by simp, fun w0 => ?_⟩
 rcases l with _ | ⟨x, r⟩
 ·exact absurd hl.1 (by simp)
 ·have hl' : r.length + 1 ≤ 100 := by simpa using hl.2
  repeat' (first | apply zC | apply zG | apply zA | apply zB | refine zF qS qR ?_ ?_ | (refine zE qS ?_ ?_ <;> intro hb <;> have hc := hb <;> (try simp only [bF] at hc) <;> (try (exfalso; simp at hc; done))) | refine zCw qR qR qR ?_ ?_ | exact zz0 | exact rfl | exact qP | fail)
  all_goals first | (show zAn _; simp only [zAn]; omega) | (simp only [List.length_cons]; omega) | (intro i _; simp only [zA3, Nat.not_lt_zero, if_false, Nat.sub_zero]; rfl) | skip
end Go.Sx
namespace Go.Sx
def zW9 (P : Program) (dI : SD) (name : String) (ds : List SD) (d : SD) : Prop := ∃ tx l0 f R, dI = .iface tx (.agg l0) ∧ zQm P tx name f ∧ FnOK P f R ∧ R (.agg l0 :: ds) d
theorem zX5 {P : Program} {F : List Nat} {w0 : Base} {s : St} {Q : Exit → Act → World → Prop} {rest : List Oper} {l : List Oper} {s0 : St} {rs : List Rec} {id : Nat} {t : Nat} {name : String} {x : Operand} {dI : SD} {args : Array Operand} {tys : Array Nat} {ty : Nat} {pos : String} {af : Array Edge} {ds : List SD} {d : SD} {s' : St} (hI : zW9 P dI name ds d)
  (hx : ev s x = dI) (ha : args.toList.map (unG s) = ds) (hg : zAn (gCs s args.toList [])) (hs : zC0 s t d = some s')
  (hn : zAy P F w0 Q id l s0 (rs ++ [⟨zBf s (tmpsOf (x :: args.toList)), [], some t, d, [], []⟩]) rest s') : zAy P F w0 Q id l s0 rs (⟨some t, .call ⟨.invoke x name, args, tys⟩, ty, pos, af, none⟩ :: rest) s := by
 obtain ⟨tx, l0, f, R, rfl, hm, hf, hR⟩ := hI
 subst ha
 exact zX6 hm hf hx rfl hg hR hs hn
open Go.Proofs Go.RowKit
attribute [local irreducible] Run zAi zAy OpT zAc SLe OLe
set_option maxHeartbeats 2000000
set_option maxRecDepth 8000
theorem zYe : (.mp ⟨some .i64, 0, fun _ => false, fT, none⟩ [] : OB) = zGt (fun _ => false) := by
 simp only [zGt]
 congr 2
 all_goals first | (funext q; cases q <;> simp [dM]; done) | (simp [cM]; done)
set_option maxHeartbeats 4000000
attribute [local irreducible] cM dM
def noneS : Nat → Bool := fun _ => false
def orS (A B : Nat → Bool) : Nat → Bool := fun z => A z || B z
def stepM (A : (Nat → Bool) → Nat → Bool) (met : List (Nat → Bool)) : List (Nat → Bool) := (List.range (met.length + 1)).map fun i => if i = 0 then met.getD 0 noneS else orS (met.getD i noneS) (A (met.getD (i - 1) noneS))
def zI0 (As : List ((Nat → Bool) → Nat → Bool)) (met : List (Nat → Bool)) : List (Nat → Bool) := As.foldl (fun m A => stepM A m) met
def zJe (As : List ((Nat → Bool) → Nat → Bool)) (least : Int) (S : Nat → Bool) : Nat → Bool :=
 fun z => ((zI0 As [S]).drop (if ((zI0 As [S]).length : Int) < least then ((zI0 As [S]).length : Int) else least).toNat).any fun m => m z
def aft (s : Scale) (l : List Ach) : Nat → Need → (Nat → Bool) → Nat → Bool
 | 0, n, S => if n.Kind = 1 then stepS S (zMl (zA6 n s l 0)) else if n.Kind = 2 then stepS S (fun y z => chs (zC5 l) n.N y (zA6 n s l 0) y 0 z) else zJe [] (if n.Kind = 3 then 0 else n.N) S
 | d + 1, n, S => if n.Kind = 1 then stepS S (zMl (zA6 n s l 0)) else if n.Kind = 2 then stepS S (fun y z => chs (zC5 l) n.N y (zA6 n s l 0) y 0 z) else zJe (n.L.map (aft s l d)) (if n.Kind = 3 then (n.L.length : Int) else n.N) S
theorem zD5 (A : (Nat → Bool) → Nat → Bool) (met : List (Nat → Bool)) : (stepM A met).length = met.length + 1 := by simp [stepM]
theorem zHr (A : (Nat → Bool) → Nat → Bool) (met : List (Nat → Bool)) (i : Nat) (hi : i < met.length + 1) : (stepM A met).getD i noneS = if i = 0 then met.getD 0 noneS else orS (met.getD i noneS) (A (met.getD (i - 1) noneS)) := by
 simp only [stepM, zz2, List.getElem?_map, List.getElem?_range hi]; rfl
theorem yGj : zFt noneS = .fmap (some .i64) 0 (fun _ => false) fT := by
 have := zYe
 simp only [zGt, OB.mp.injEq, MD.mk.injEq] at this
 simp only [zFt]
 rw [show cM noneS = 0 from this.1.2.1.symm, show dM noneS = fun _ => false from this.1.2.2.1.symm]
theorem yDw (S : Nat → Bool) : SLe (.list 1 1 (zBc [.fmap (some IntKind.i64) (cM S) (dM S) fT])) (.list 1 1 fun i => .fmap (some IntKind.i64) (cM ([S].getD i fun x => false)) (dM ([S].getD i fun x => false)) fT) := SLe.list rfl fun i hi => by
 have : i = 0 := by omega
 subst this; rfl
theorem zL9 (U : Nat → Bool) (z : Nat) (hz : z < 1024) : stepS U (fun y z => y == z) z = U z := by
 simp only [stepS]
 rw [Bool.eq_iff_iff, List.any_eq_true]
 constructor
 ·rintro ⟨y, h1, h2⟩
  simp only [zz3, beq_iff_eq] at h2;rw [← h2.2]; exact h2.1
 ·intro h
  exact ⟨z, List.mem_range.2 hz, by simp [h]⟩
@[go_sem] theorem fT_eq' (q : MK) : fT q = .bool true := rfl
theorem yBs (nx : List (Nat → Bool)) (k : Nat) (U : Nat → Bool) {d : SD} (hk : k < nx.length) (hd : d = zFt U) : OLe (.acc 103 1 nx.length (setF k d fun i => zFt (nx.getD i fun _ => false))) (.acc 103 1 (nx.set k U).length fun i => zFt ((nx.set k U).getD i fun _ => false)) := OLe.accS (by simp) fun i hi => by
 simp only [setF]
 by_cases h : i = k
 ·subst h
  simp [hd, zz2, hk]
 ·have h' : ¬ k = i := fun hc => h hc.symm
  simp [h, zGu h, zz2, List.getElem?_set, h']
theorem zTg (As : List ((Nat → Bool) → Nat → Bool)) (A : (Nat → Bool) → Nat → Bool) (met : List (Nat → Bool)) : zI0 (As ++ [A]) met = stepM A (zI0 As met) := by simp [zI0]
theorem zMq {l l' : List (Nat → Bool)} (h1 : l.length = l'.length) (h2 : ∀ i, i < l.length → l.getD i noneS = l'.getD i noneS) : l = l' := by
 apply List.ext_getElem h1
 intro i q1 q2
 have := h2 i q1
 rw [zz2, zz2, List.getElem?_eq_getElem q1, List.getElem?_eq_getElem q2] at this
 exact this
noncomputable def judgeAfter : String := ((((Tryz.prog.info? 175).map (·.methods)).getD #[])[0]?.map (·.name)).getD ""
theorem K273 (nm : String) (s : Scale) (l : List Ach) (d : Nat) (Pm : Need → Prop) (ih : ∀ (m : Need) (X : Nat → Bool), Pm m → zW9 Tryz.prog (zBk s l d m) nm [zFt X] (zFt (aft s l d m X))) (hnm : nm = judgeAfter) :
  FnOK Tryz.prog 273 (fun ds v => ∃ (ms : List Need) (least : Int) (S : Nat → Bool), ((∀ m ∈ ms, Pm m) ∧ ms.length ≤ 8 ∧ 0 ≤ least) ∧ ds = [.agg [.list 1 ms.length fun i => zBk s l d (ms.getD i default), .int .i64 least], zFt S] ∧ v = zFt (zJe (ms.map (aft s l d)) least S)) := by
 subst hnm
 refine zAa Tryz.call273 Tryz.func273 rfl Tryz.ntmps273 ?_
 rintro ds d ⟨ms, least, S, ⟨hms, hl3, hle⟩, rfl, rfl⟩
 refine ⟨by simp, fun w0 => ?_⟩
 repeat' (first | apply zC | apply zD | apply zA | apply zB | refine zF qS qR ?_ ?_ | exact zz0 | exact rfl | fail)
 refine zN [0, 1, 2, 4, 22, 23] (fun x : Nat × List (Nat → Bool) => [(24, .int .i64 x.1), (5, yEw x.2)]) (fun x : Nat × List (Nat → Bool) => []) (fun x : Nat × List (Nat → Bool) => (x.1 ≤ ms.length ∧ x.2.length = x.1 + 1) ∧ x.2 = zI0 ((ms.take x.1).map (aft s l d)) [S]) (fun x : Nat × List (Nat → Bool) => ms.length - x.1) (0, [S]) (fun x => qS) ?_ (by simp only [go_sem]; repeat' (first | exact trivial | exact zz0 | exact SLe.refl _ | exact OLe.refl _ | exact ⟨_, rfl, OLe.refl _⟩ | refine ⟨_, rfl, ?_⟩ | refine OLe.var ?_ | (show zAh _ _; refine ⟨?_, ?_⟩) | (show zAh [] []; exact zz0) | (refine SLe.int ?_; rw [w64]; omega) | refine SLe.int ?_ | refine SLe.bool ?_ | apply And.intro | (exact yDw _))) (by simp only [go_sem]; repeat' (first | exact trivial | exact zz0 | exact SLe.refl _ | exact OLe.refl _ | exact ⟨_, rfl, OLe.refl _⟩ | refine ⟨_, rfl, ?_⟩ | refine OLe.var ?_ | (show zAh _ _; refine ⟨?_, ?_⟩) | (show zAh [] []; exact zz0) | (refine SLe.int ?_; rw [w64]; omega) | refine SLe.int ?_ | refine SLe.bool ?_ | apply And.intro | (exact yDw _))) ?_
 ·exact ⟨⟨Nat.zero_le _, rfl⟩, rfl⟩
 rintro ⟨j, met⟩ ⟨⟨g1, g2⟩, g3⟩
 simp only at g1 g2 g3
 repeat' (first | apply zC | apply zA | apply zB | refine zF qS qR ?_ ?_ | exact zz0 | exact rfl | fail)
 (refine zE qS ?_ ?_ <;> intro hb <;> have hc := hb <;> (try simp only [bF] at hc) <;> (try (exfalso; simp at hc; done)))
 ·have hj : j < ms.length := by assumption
  repeat' (first | apply zC | apply zG | apply zD | apply zA | apply zB | refine zF qS qR ?_ ?_ | exact zz0 | exact rfl | exact qP | fail)
  refine zHq K274 qD ?_ ⟨met, ⟨by omega, by omega⟩, rfl, rfl, rfl, rfl, rfl⟩ qS ?_
  ·repeat' (first | exact zz0 | fail)
  repeat' (first | refine zHp (fT) qS qS ?_ | fail)
  refine zDv 2 qS ?_
  repeat' (first | apply zC | apply zD | apply zA | apply zB | refine zF qS qR ?_ ?_ | exact zz0 | exact rfl | exact qP | fail)
  refine zR (o' := .acc 103 1 (met ++ [noneS]).length (fun i => zFt ((met ++ [noneS]).getD i fun _ => false))) 1 qR (zA4 (α := Nat → Bool) zFt met noneS yGj.symm) ?_;refine zN [0, 1, 2, 4, 5, 7, 22, 23, 24, 8, 33, 34] (fun x : Nat × List (Nat → Bool) => [(35, .int .i64 x.1)]) (fun x : Nat × List (Nat → Bool) => [(1, .acc 103 1 x.2.length (fun i => zFt (x.2.getD i fun _ => false)))]) (fun x : Nat × List (Nat → Bool) => (x.1 ≤ met.length ∧ x.2.length = met.length + 1) ∧ ∀ i, i < met.length + 1 → x.2.getD i noneS = if 0 < i ∧ i ≤ x.1 then orS (met.getD i noneS) (aft s l d (ms.getD j default) (met.getD (i - 1) noneS)) else met.getD i noneS) (fun x : Nat × List (Nat → Bool) => met.length - x.1) (0, met ++ [noneS]) (fun x => qS) ?_ qL qL ?_
  ·refine ⟨⟨Nat.zero_le _, by simp⟩, fun i hi => ?_⟩
   simp only;rw [if_neg (by omega)];simp only [zz2];by_cases h : i < met.length
   ·rw [List.getElem?_append_left h]
   ·have : i = met.length := by omega
    subst this;simp
  rintro ⟨n, nx⟩ ⟨⟨q1, q2⟩, q3⟩;simp only at q1 q2 q3
  repeat' (first | apply zC | apply zA | apply zB | refine zF qS qR ?_ ?_ | exact zz0 | exact rfl | fail)
  (refine zE qS ?_ ?_ <;> intro hb <;> have hc := hb <;> (try simp only [bF] at hc) <;> (try (exfalso; simp at hc; done)))
  ·have hn : n < met.length := by assumption
   have e1 : IntKind.i64.wrap ((n : Int) + 1) = ((n + 1 : Nat) : Int) := by rw [w64]; omega
   have hI := ih _ (met.getD n fun _ => false) (hms _ (zAk hj))
   repeat' (first | apply zC | apply zG | apply zD | apply zA | apply zP | apply zB | refine zF (by simp only [go_sem, e1]; rfl) qR ?_ ?_ | refine zU (by simp only [go_sem, e1]; rfl) qR ?_ ?_ | refine zQ qK qK ?_ | refine zHp (fT) (by simp only [go_sem, e1]; rfl) (by simp only [go_sem, e1]; rfl) ?_ | refine zX5 hI (by first | (simp only [go_sem, e1]; done) | (simp only [go_sem, e1]; rfl)) (by simp only [go_sem, e1]; first | done | rfl) ?_ (by simp only [go_sem, e1]; rfl) ?_ | exact zz0 | exact rfl | exact qP | fail)
   refine zR (o' := zGt (fun _ => false)) 3 qR (zGx zYe) ?_;refine zN [0, 1, 2, 4, 5, 7, 8, 9, 10, 11, 22, 23, 24, 33, 34, 35, 49, 50] (fun x : Nat × (Nat → Bool) => [(51, .int .i64 x.1)]) (fun x : Nat × (Nat → Bool) => [(3, zGt x.2)]) (fun x : Nat × (Nat → Bool) => x.1 ≤ 2 ∧ ∀ z, z < 1024 → x.2 z = ((decide (0 < x.1) && (nx.getD (n + 1) fun _ => false) z) || (decide (1 < x.1) && aft s l d (ms.getD j default) (met.getD n fun _ => false) z))) (fun x : Nat × (Nat → Bool) => 2 - x.1) (0, fun _ => false) (fun x => qS) ?_ qL qL ?_
   ·exact ⟨by decide, fun z _ => by simp⟩
   rintro ⟨k, T⟩ ⟨p1, p2⟩;simp only at p1 p2
   match k, p1 with
   | 0, _ =>
    repeat' (first | apply zC | apply zA | apply zB | refine zF qS qR ?_ ?_ | exact zz0 | exact rfl | fail)
    (refine zE qS ?_ ?_ <;> intro hb <;> have hc := hb <;> (try simp only [bF] at hc) <;> (try (exfalso; simp at hc; done)))
    repeat' (first | apply zC | apply zG | apply zD | apply zA | apply zB | refine zF qS qR ?_ ?_ | refine zIm qS qS qS ?_ | exact zz0 | exact rfl | exact qP | fail)
    refine zN [0, 1, 2, 4, 5, 7, 8, 9, 10, 11, 22, 23, 24, 33, 34, 35, 49, 50, 51, 56] (fun x : (MK → Bool) × Option MK × Nat × (Nat → Bool) => []) (fun x : (MK → Bool) × Option MK × Nat × (Nat → Bool) => [(3, zGt x.2.2.2), (4, .mp ⟨some .i64, cM (nx.getD (n + 1) fun _ => false), dM (nx.getD (n + 1) fun _ => false), fT, some (.iter x.2.2.1 x.1 x.2.1)⟩ [])]) (fun x : (MK → Bool) × Option MK × Nat × (Nat → Bool) => ∀ z, z < 1024 → x.2.2.2 z = (T z || unV x.1 (nx.getD (n + 1) fun _ => false) (fun y z => y == z) z)) (fun x : (MK → Bool) × Option MK × Nat × (Nat → Bool) => x.2.2.1) ((fun _ => false), none, cM (nx.getD (n + 1) fun _ => false), T) (fun x => qS) ?_ qL qL ?_
    ·intro z _; simp only; rw [zHl]; simp
    rintro ⟨V, cur, c, T2⟩ r1;simp only at r1
    repeat' (first | apply zC | apply zA | exact rfl | fail)
    refine zIn qS qS qR (fun hdone => ?_) (fun y c' hlt hdom hV => ?_)
    ·have hT2 : ∀ z, z < 1024 → T2 z = (T z || (nx.getD (n + 1) fun _ => false) z) := fun z hz => by rw [r1 z hz, zHm _ hdone, zL9 _ z hz]
     repeat' (first | apply zC | apply zB | refine zF qS qR ?_ ?_ | exact zz0 | fail)
     (refine zE qS ?_ ?_ <;> intro hb <;> have hc := hb <;> (try simp only [bF] at hc) <;> (try (exfalso; simp at hc; done)))
     repeat' (first | apply zL | apply zA | apply zB | refine zF qS qR ?_ ?_ | refine zK qR ?_ | exact zz0 | exact rfl | fail)
     refine zS (1, T2) ?_ ?_ ⟨rfl, qL, qL⟩
     ·exact ⟨by simp only; omega, fun z hz => by simp only; rw [hT2 z hz, p2 z hz]; simp⟩
     ·simp only; omega
    ·obtain ⟨y0, hy0, hy, hS0⟩ := zLz hdom
     obtain rfl : y = (y0 : Int) := by simpa using hy
     have u1 := zL3 T2 _ hy0;have u2 := zL4 T2 _ hy0
     repeat' (first | apply zC | apply zB | refine zF qS qR ?_ ?_ | exact zz0 | fail)
     (refine zE qS ?_ ?_ <;> intro hb <;> have hc := hb <;> (try simp only [bF] at hc) <;> (try (exfalso; simp at hc; done)))
     repeat' (first | apply zC | apply zG | apply zD | apply zL | apply zA | apply zB | refine zF (by simp only [go_sem, u1, u2]; rfl) qR ?_ ?_ | refine zJ4 (by simp only [go_sem, u1, u2]; rfl) ?_ ?_ ?_ | refine zIo (by simp only [go_sem, u1, u2]; rfl) (by simp only [go_sem, u1, u2]; rfl) (by simp only [go_sem, u1, u2]; rfl) ?_ | exact zz0 | exact rfl | fail)
     ·exact ⟨Nat.lt_of_le_of_lt (zWy T2) (by decide), trivial⟩
     refine zS (zFl (.i (y0 : Int)) V, some (.i (y0 : Int)), c', zJw y0 T2) ?_ ?_ ⟨rfl, qL, qL⟩
     ·intro z hz
      simp only [zJw];rw [r1 z hz, zJ2 _ hy0 hS0, show (z == y0) = (y0 == z) from by rw [Bool.eq_iff_iff, beq_iff_eq, beq_iff_eq]; exact ⟨Eq.symm, Eq.symm⟩];rw [Bool.or_comm, Bool.or_assoc]
     ·exact hlt
   | 1, _ =>
    repeat' (first | apply zC | apply zA | apply zB | refine zF qS qR ?_ ?_ | exact zz0 | exact rfl | fail)
    (refine zE qS ?_ ?_ <;> intro hb <;> have hc := hb <;> (try simp only [bF] at hc) <;> (try (exfalso; simp at hc; done)))
    repeat' (first | apply zC | apply zG | apply zD | apply zA | apply zB | refine zF qS qR ?_ ?_ | refine zIm qS qS qS ?_ | exact zz0 | exact rfl | exact qP | fail)
    refine zN [0, 1, 2, 4, 5, 7, 8, 9, 10, 11, 22, 23, 24, 33, 34, 35, 49, 50, 51, 56] (fun x : (MK → Bool) × Option MK × Nat × (Nat → Bool) => []) (fun x : (MK → Bool) × Option MK × Nat × (Nat → Bool) => [(3, zGt x.2.2.2), (4, .mp ⟨some .i64, cM (aft s l d (ms.getD j default) (met.getD n fun _ => false)), dM (aft s l d (ms.getD j default) (met.getD n fun _ => false)), fT, some (.iter x.2.2.1 x.1 x.2.1)⟩ [])]) (fun x : (MK → Bool) × Option MK × Nat × (Nat → Bool) => ∀ z, z < 1024 → x.2.2.2 z = (T z || unV x.1 (aft s l d (ms.getD j default) (met.getD n fun _ => false)) (fun y z => y == z) z)) (fun x : (MK → Bool) × Option MK × Nat × (Nat → Bool) => x.2.2.1) ((fun _ => false), none, cM (aft s l d (ms.getD j default) (met.getD n fun _ => false)), T) (fun x => qS) ?_ qL qL ?_
    ·intro z _; simp only; rw [zHl]; simp
    rintro ⟨V, cur, c, T2⟩ r1;simp only at r1
    repeat' (first | apply zC | apply zA | exact rfl | fail)
    refine zIn qS qS qR (fun hdone => ?_) (fun y c' hlt hdom hV => ?_)
    ·have hT2 : ∀ z, z < 1024 → T2 z = (T z || (aft s l d (ms.getD j default) (met.getD n fun _ => false)) z) := fun z hz => by rw [r1 z hz, zHm _ hdone, zL9 _ z hz]
     repeat' (first | apply zC | apply zB | refine zF qS qR ?_ ?_ | exact zz0 | fail)
     (refine zE qS ?_ ?_ <;> intro hb <;> have hc := hb <;> (try simp only [bF] at hc) <;> (try (exfalso; simp at hc; done)))
     repeat' (first | apply zL | apply zA | apply zB | refine zF qS qR ?_ ?_ | refine zK qR ?_ | exact zz0 | exact rfl | fail)
     refine zS (2, T2) ?_ ?_ ⟨rfl, qL, qL⟩
     ·exact ⟨by simp only; omega, fun z hz => by simp only; rw [hT2 z hz, p2 z hz]; simp⟩
     ·simp only; omega
    ·obtain ⟨y0, hy0, hy, hS0⟩ := zLz hdom
     obtain rfl : y = (y0 : Int) := by simpa using hy
     have u1 := zL3 T2 _ hy0;have u2 := zL4 T2 _ hy0
     repeat' (first | apply zC | apply zB | refine zF qS qR ?_ ?_ | exact zz0 | fail)
     (refine zE qS ?_ ?_ <;> intro hb <;> have hc := hb <;> (try simp only [bF] at hc) <;> (try (exfalso; simp at hc; done)))
     repeat' (first | apply zC | apply zG | apply zD | apply zL | apply zA | apply zB | refine zF (by simp only [go_sem, u1, u2]; rfl) qR ?_ ?_ | refine zJ4 (by simp only [go_sem, u1, u2]; rfl) ?_ ?_ ?_ | refine zIo (by simp only [go_sem, u1, u2]; rfl) (by simp only [go_sem, u1, u2]; rfl) (by simp only [go_sem, u1, u2]; rfl) ?_ | exact zz0 | exact rfl | fail)
     ·exact ⟨Nat.lt_of_le_of_lt (zWy T2) (by decide), trivial⟩
     refine zS (zFl (.i (y0 : Int)) V, some (.i (y0 : Int)), c', zJw y0 T2) ?_ ?_ ⟨rfl, qL, qL⟩
     ·intro z hz
      simp only [zJw];rw [r1 z hz, zJ2 _ hy0 hS0, show (z == y0) = (y0 == z) from by rw [Bool.eq_iff_iff, beq_iff_eq, beq_iff_eq]; exact ⟨Eq.symm, Eq.symm⟩];rw [Bool.or_comm, Bool.or_assoc]
     ·exact hlt
   | 2, _ =>
    repeat' (first | apply zC | apply zA | apply zB | refine zF qS qR ?_ ?_ | exact zz0 | exact rfl | fail)
    (refine zE qS ?_ ?_ <;> intro hb <;> have hc := hb <;> (try simp only [bF] at hc) <;> (try (exfalso; simp at hc; done)))
    repeat' (first | apply zA | refine zF qS qR ?_ ?_ | refine zK qR ?_ | exact rfl | exact qP | fail)
    refine zDv 3 qS ?_
    repeat' (first | apply zL | apply zA | apply zB | refine zF (by simp only [go_sem, e1]; rfl) qR ?_ ?_ | exact zz0 | exact rfl | fail)
    have hq := q3 (n + 1) (by omega);rw [if_neg (by omega)] at hq
    have hE : zFt T = zFt (orS (met.getD (n + 1) noneS) (aft s l d (ms.getD j default) (met.getD n noneS))) := zM7 fun z hz => by
     rw [p2 z hz];simp only [orS, ← hq];rfl
    refine zR (o' := .acc 103 1 (nx.set (n + 1) (orS (met.getD (n + 1) noneS) (aft s l d (ms.getD j default) (met.getD n noneS)))).length (fun i => zFt ((nx.set (n + 1) (orS (met.getD (n + 1) noneS) (aft s l d (ms.getD j default) (met.getD n noneS)))).getD i fun _ => false))) 1 qR (yBs nx (n + 1) _ (by omega) hE) ?_;refine zS (n + 1, nx.set (n + 1) (orS (met.getD (n + 1) noneS) (aft s l d (ms.getD j default) (met.getD n noneS)))) ?_ ?_ ⟨rfl, qL, qL⟩
    ·refine ⟨⟨by simp only; omega, by simp [q2]⟩, fun i hi => ?_⟩
     simp only;by_cases hin : i = n + 1
     ·subst hin
      rw [if_pos (by omega), zz2, List.getElem?_set_self (by omega)];rfl
     ·have h' : ¬ n + 1 = i := fun hc => hin hc.symm
      rw [zz2, List.getElem?_set_ne h', ← zz2, q3 i hi];by_cases hh : 0 < i ∧ i ≤ n
      ·rw [if_pos hh, if_pos (by omega)]
      ·rw [if_neg hh, if_neg (by omega)]
    ·simp only; omega
  ·have hnl : n = met.length := by omega
   have hnx : nx = stepM (aft s l d (ms.getD j default)) met := zMq (by rw [q2, zD5]) fun i hi => by
    rw [q3 i (by omega), zHr _ _ _ (by omega)];by_cases h0 : i = 0
    ·subst h0; rw [if_neg (by omega), if_pos rfl]
    ·rw [if_pos (by omega), if_neg h0]
   repeat' (first | refine zO 1 qS ?_ | apply zL | apply zA | apply zB | refine zF qS qR ?_ ?_ | refine zK qR ?_ | exact zz0 | exact rfl | fail)
   refine zS (j + 1, nx) ?_ ?_ ⟨rfl, qL, qL⟩
   ·refine ⟨⟨by simp only; omega, by simp only; omega⟩, ?_⟩
    simp only;rw [hnx, g3, ← zTg, List.take_add_one, List.getElem?_eq_getElem hj, List.map_append, zz2, List.getElem?_eq_getElem hj];rfl
   ·simp only; omega
 ·clear ih
  have hjm : ms.take j = ms := List.take_of_length_le (by omega);rw [hjm] at g3;have hS : zJe (ms.map (aft s l d)) least S = fun z => (met.drop (if ((met.length : Nat) : Int) < least then ((met.length : Nat) : Int) else least).toNat).any fun m => m z := by funext z; simp only [zJe, ← g3]
  rw [hS];clear hS g3
  repeat' (first | apply zC | apply zD | apply zA | apply zB | refine zF qS qR ?_ ?_ | refine zHp (fT) qS qS ?_ | refine zK qR ?_ | exact zz0 | exact rfl | exact qP | fail)
  generalize hbb : (if ((met.length : Nat) : Int) < least then ((met.length : Nat) : Int) else least).toNat = b;have hb2 : b ≤ met.length := by rw [← hbb]; split <;> omega
  refine zR (o' := zGt (fun _ => false)) 1 qR (zGx zYe) ?_;refine zN [0, 1, 2, 4, 15, 79, 80] (fun x : Nat × (Nat → Bool) => [(81, .int .i64 x.1)]) (fun x : Nat × (Nat → Bool) => [(1, zGt x.2)]) (fun x : Nat × (Nat → Bool) => x.1 ≤ met.length - b ∧ ∀ z, z < 1024 → x.2 z = ((met.drop b).take x.1).any fun m => m z) (fun x : Nat × (Nat → Bool) => met.length - b - x.1) (0, fun _ => false) (fun x => qS) ?_ qL qL ?_
  ·exact ⟨Nat.zero_le _, fun z _ => by simp⟩
  rintro ⟨i, T⟩ ⟨p1, p2⟩;simp only at p1 p2
  repeat' (first | apply zC | apply zA | apply zB | refine zF qS qR ?_ ?_ | exact zz0 | exact rfl | fail)
  (refine zE qS ?_ ?_ <;> intro hb <;> have hc := hb <;> (try simp only [bF] at hc) <;> (try (exfalso; simp at hc; done)))
  ·have hi : i < met.length - b := by assumption
   have htk : ∀ z, (((met.drop b).take (i + 1)).any fun m => m z) = ((((met.drop b).take i).any fun m => m z) || (met.getD (b + i) fun _ => false) z) := fun z => by
    have h1 : (met.drop b)[i]? = some (met.getD (b + i) fun _ => false) := by
     rw [List.getElem?_drop, zz2, List.getElem?_eq_getElem (by omega)]; rfl
    rw [List.take_add_one, h1, List.any_append];simp
   repeat' (first | apply zC | apply zG | apply zD | apply zA | apply zB | refine zF qS qR ?_ ?_ | refine zIm qS qS qS ?_ | exact zz0 | exact rfl | exact qP | fail)
   refine zN [0, 1, 2, 4, 15, 79, 80, 81, 86] (fun x : (MK → Bool) × Option MK × Nat × (Nat → Bool) => []) (fun x : (MK → Bool) × Option MK × Nat × (Nat → Bool) => [(1, zGt x.2.2.2), (2, .mp ⟨some .i64, cM (met.getD (b + i) fun _ => false), dM (met.getD (b + i) fun _ => false), fT, some (.iter x.2.2.1 x.1 x.2.1)⟩ [])]) (fun x : (MK → Bool) × Option MK × Nat × (Nat → Bool) => ∀ z, z < 1024 → x.2.2.2 z = (T z || unV x.1 (met.getD (b + i) fun _ => false) (fun y z => y == z) z)) (fun x : (MK → Bool) × Option MK × Nat × (Nat → Bool) => x.2.2.1) ((fun _ => false), none, cM (met.getD (b + i) fun _ => false), T) (fun x => qS) ?_ qL qL ?_
   ·intro z _; simp only; rw [zHl]; simp
   rintro ⟨V, cur, c, T2⟩ r1;simp only at r1
   repeat' (first | apply zC | apply zA | exact rfl | fail)
   refine zIn qS qS qR (fun hdone => ?_) (fun y c' hlt hdom hV => ?_)
   ·have hT2 : ∀ z, z < 1024 → T2 z = (T z || (met.getD (b + i) fun _ => false) z) := fun z hz => by rw [r1 z hz, zHm _ hdone, zL9 _ z hz]
    repeat' (first | apply zC | apply zB | refine zF qS qR ?_ ?_ | exact zz0 | fail)
    (refine zE qS ?_ ?_ <;> intro hb <;> have hc := hb <;> (try simp only [bF] at hc) <;> (try (exfalso; simp at hc; done)))
    repeat' (first | apply zL | apply zA | apply zB | refine zF qS qR ?_ ?_ | refine zK qR ?_ | exact zz0 | exact rfl | fail)
    refine zS (i + 1, T2) ?_ ?_ ⟨rfl, qL, qL⟩
    ·exact ⟨by simp only; omega, fun z hz => by simp only; rw [hT2 z hz, p2 z hz, htk z]⟩
    ·simp only; omega
   ·obtain ⟨y0, hy0, hy, hS0⟩ := zLz hdom
    obtain rfl : y = (y0 : Int) := by simpa using hy
    have u1 := zL3 T2 _ hy0;have u2 := zL4 T2 _ hy0
    repeat' (first | apply zC | apply zB | refine zF qS qR ?_ ?_ | exact zz0 | fail)
    (refine zE qS ?_ ?_ <;> intro hb <;> have hc := hb <;> (try simp only [bF] at hc) <;> (try (exfalso; simp at hc; done)))
    repeat' (first | apply zC | apply zG | apply zD | apply zL | apply zA | apply zB | refine zF (by simp only [go_sem, u1, u2]; rfl) qR ?_ ?_ | refine zJ4 (by simp only [go_sem, u1, u2]; rfl) ?_ ?_ ?_ | refine zIo (by simp only [go_sem, u1, u2]; rfl) (by simp only [go_sem, u1, u2]; rfl) (by simp only [go_sem, u1, u2]; rfl) ?_ | exact zz0 | exact rfl | fail)
    ·exact ⟨Nat.lt_of_le_of_lt (zWy T2) (by decide), trivial⟩
    refine zS (zFl (.i (y0 : Int)) V, some (.i (y0 : Int)), c', zJw y0 T2) ?_ ?_ ⟨rfl, qL, qL⟩
    ·intro z hz
     simp only [zJw];rw [r1 z hz, zJ2 _ hy0 hS0, show (z == y0) = (y0 == z) from by rw [Bool.eq_iff_iff, beq_iff_eq, beq_iff_eq]; exact ⟨Eq.symm, Eq.symm⟩];rw [Bool.or_comm, Bool.or_assoc]
    ·exact hlt
  ·have hE : zFt T = zFt (fun z => (met.drop b).any fun m => m z) := zM7 fun z hz => by
    rw [p2 z hz, List.take_of_length_le (by rw [List.length_drop]; omega)]
   rw [← hE]
   repeat' (first | refine zO 1 qS ?_ | apply zC | apply zA | apply zB | refine zF qS qR ?_ ?_ | refine zI qR ?_ | refine zK qR ?_ | exact zz0 | exact rfl | exact zAc.pure rfl | fail)
   all_goals skip
end Go.Sx
namespace Go.Sx
open Go.Proofs Go.RowKit
attribute [local irreducible] Run zAi zAy OpT zAc SLe OLe
set_option maxHeartbeats 2000000
set_option maxRecDepth 8000
set_option maxHeartbeats 4000000
attribute [local irreducible] cM dM
def NN : Nat → Need → Prop
 | 0, n => 0 ≤ n.N
 | d + 1, n => 0 ≤ n.N ∧ ∀ x ∈ n.L, NN d x
theorem zM3 (n : Need) (s : Scale) : ∀ (l : List Ach) (k : Nat), ∀ x ∈ zA6 n s l k, (k : Int) ≤ x ∧ x < (k : Int) + l.length
 | [], k, x, hx => by simp [zA6] at hx
 | a :: r, k, x, hx => by
  simp only [zA6, List.mem_append] at hx
  rcases hx with hx | hx
  ·split at hx
   ·simp only [List.mem_singleton] at hx
    subst hx;simp only [List.length_cons]; omega
   ·cases hx
  ·have := zM3 n s r (k + 1) x hx
   simp only [List.length_cons]; omega
theorem yB1 : zQm Tryz.prog 175 judgeAfter 270 := fun _ _ _ => by kernel_rfl
theorem yB0 : zQm Tryz.prog 177 judgeAfter 271 := fun _ _ _ => by kernel_rfl
theorem zVu : zQm Tryz.prog 179 judgeAfter 273 := fun _ _ _ => by kernel_rfl
theorem yAf {P : Program} {f : Nat} {R R' : List SD → SD → Prop} (hf : FnOK P f R) (h : ∀ ds' d, R' ds' d → ∃ ds, R ds d ∧ ∀ h e vs, repT h ds' e vs → repT h ds e vs) : FnOK P f R' :=
 ⟨hf.call, fun ds' d hr h0 e w vs gh hs hv => by
  obtain ⟨ds, h1, h2⟩ := h ds' d hr;exact hf.ok ds d h1 h0 e w vs gh hs (h2 _ _ _ hv)⟩
theorem yG8 (s : Scale) (l : List Ach) : FnOK Tryz.prog 273 (fun ds v => ∃ (least : Int) (S : Nat → Bool), 0 ≤ least ∧ ds = [.agg [.list 1 0 fun _ => .any, .int .i64 least], zFt S] ∧ v = zFt (zJe [] least S)) := by
 refine yAf (K273 _ s l 0 (fun _ => False) (fun _ _ h => h.elim) rfl) ?_
 rintro ds v ⟨least, S, hle, rfl, rfl⟩
 refine ⟨_, ⟨[], least, S, ⟨fun m hm => by simp at hm, by simp, hle⟩, rfl, rfl⟩, fun h e vs hv => ?_⟩
 simp only [repT, rep, repC] at hv ⊢
 obtain ⟨v1, vs1, rfl, ⟨cs, rfl, v2, cs2, rfl, o1, ⟨a, cap, e1, e2, e3, e4⟩, h5⟩, h6⟩ := hv
 exact ⟨_, _, rfl, ⟨_, rfl, _, _, rfl, o1, ⟨a, cap, e1, e2, e3, fun h => absurd h (by simp)⟩, h5⟩, h6⟩
theorem yEm (s : Scale) (l : List Ach) (hl : l.length ≤ 10) (d : Nat) (n : Need) (S : Nat → Bool) (hk : n.Kind = 1 ∨ n.Kind = 2) : zW9 Tryz.prog (zBk s l d n) judgeAfter [zFt S] (zFt (aft s l d n S)) := by
 have hf : ∀ x ∈ zA6 n s l 0, 0 ≤ x ∧ x < 10 := fun x hx => by have := zM3 n s l 0 x hx; omega
 have hf2 : ∀ x ∈ zA6 n s l 0, 0 ≤ x ∧ x < 10 ∧ x < (zC5 l).length := fun x hx => by
  have := zM3 n s l 0 x hx;simp only [zC5, List.length_map]; omega
 have hfl : (zA6 n s l 0).length ≤ 10 := Nat.le_trans (zOt n s l 0) hl
 rcases hk with k1 | k2
 ·refine ⟨175, [ints (zA6 n s l 0)], 270, _, ?_, yB1, K270, zA6 n s l 0, S, ⟨hf, hfl⟩, rfl, ?_⟩
  ·cases d <;> simp only [zBk, wT, wL, if_pos k1]
  ·cases d <;> simp only [aft, if_pos k1]
 ·have k1 : ¬ n.Kind = 1 := by omega
  refine ⟨177, [ints (zA6 n s l 0), ints (zC5 l), .int .i64 n.N], 271, _, ?_, yB0, K271, zA6 n s l 0, zC5 l, n.N, S, ⟨hf2, hfl⟩, rfl, ?_⟩
  ·cases d <;> simp only [zBk, wT, wL, if_neg k1, if_pos k2]
  ·cases d <;> simp only [aft, if_neg k1, if_pos k2]
theorem yAg (s : Scale) (l : List Ach) (hl : l.length ≤ 10) : ∀ (d : Nat) (n : Need) (S : Nat → Bool), MOk d n ∧ NN d n → zW9 Tryz.prog (zBk s l d n) judgeAfter [zFt S] (zFt (aft s l d n S))
 | 0, n, S, ⟨hn, hN⟩ => by
  by_cases hk : n.Kind = 1 ∨ n.Kind = 2
  ·exact yEm s l hl 0 n S hk
  ·have k1 : ¬ n.Kind = 1 := fun h => hk (.inl h)
   have k2 : ¬ n.Kind = 2 := fun h => hk (.inr h);refine ⟨179, _, 273, _, ?_, zVu, yG8 s l, (if n.Kind = 3 then 0 else n.N), S, ?_, rfl, ?_⟩
   ·simp only [zBk, wT, wL, if_neg k1, if_neg k2]
   ·split
    ·exact Int.le_refl _
    ·exact hN
   ·simp only [aft, if_neg k1, if_neg k2]
 | d + 1, n, S, ⟨hn, hN⟩ => by
  by_cases hk : n.Kind = 1 ∨ n.Kind = 2
  ·exact yEm s l hl (d + 1) n S hk
  ·have k1 : ¬ n.Kind = 1 := fun h => hk (.inl h)
   have k2 : ¬ n.Kind = 2 := fun h => hk (.inr h);refine ⟨179, _, 273, _, ?_, zVu, K273 _ s l d (fun m => MOk d m ∧ NN d m) (fun m X h => yAg s l hl d m X h) rfl, n.L, (if n.Kind = 3 then (n.L.length : Int) else n.N), S, ⟨fun m hm => ⟨hn.2.2 m hm, hN.2 m hm⟩, hn.1, ?_⟩, rfl, ?_⟩
   ·simp only [zBk, wT, wL, if_neg k1, if_neg k2]
   ·split
    ·omega
    ·exact hN.1
   ·simp only [aft, if_neg k1, if_neg k2]
end Go.Sx
