/- Part of the proof that the laws of the judge return true for every input: J8, J9, J10, J11, J12, J13. -/
import Derived.Test.YtmbocmonhcplhaaGreatJ8a
import Derived.Test.YtmbocmonhcplhaaGreatJ4
import Derived.Test.YtmbocmonhcplhaaGreatS3
set_option linter.all false
namespace Go.Sx
open Go.Proofs Go.RowKit
attribute [local irreducible] Run zAi zAy zAc SLe OLe
set_option maxHeartbeats 2000000
set_option maxRecDepth 8000
def zTb (set : Nat) : List Ach → Nat → Nat → Int → Nat × Int
 | [], _, m, c => (m, c)
 | a :: r, k, m, c => if set.testBit k then zTb set r (k + 1) (m + 1) (wr (c + a.Credits)) else zTb set r (k + 1) m c
def zJc (n : Need) (l : List Ach) (set : Nat) : Bool :=
 let x := zTb set l 0 0 0
 if n.Kind == 1 then x.1 == 1 else decide (0 < x.1) && decide (n.N ≤ x.2)
def zIz (n : Need) (s : Scale) (a : Ach) : Bool := (n.Set.any fun c => zEk c a.Course) && reaches s a.Grade n.Min
def zTh (n : Need) (s : Scale) : List Ach → Nat → Nat → Nat
 | [], _, set => set
 | a :: r, k, set => zTh n s r (k + 1) (if zIz n s a then set ||| 2 ^ k else set)
end Go.Sx
namespace Go.Sx
open Go.Proofs Go.RowKit
attribute [local irreducible] Run zAi zAy zAc SLe OLe
set_option maxHeartbeats 2000000
set_option maxRecDepth 8000
def zEi (p : Programme) (set : Nat) : List Ach → Nat → List Ach → Int → Int → Option (List Ach × Int × Int)
 | [], _, t, c, o => some (t, c, o)
 | a :: r, k, t, c, o =>
  if set.testBit k then
   if t.any fun x => excl p x.Course a.Course then none
   else zEi p set r (k + 1) (t ++ [a]) (wr (c + a.Credits)) (if a.Course.School == p.School && a.Bundle == 0 then wr (o + a.Credits) else o)
  else zEi p set r (k + 1) t c o
def zDf (p : Programme) (l : List Ach) (set : Nat) : Bool :=
 match zEi p set l 0 [] 0 0 with
 | none => false
 | some (t, c, o) => pw pair t && decide (p.Total ≤ c) && decide (p.Own ≤ o)
theorem zId (t : List Ach) (a : Ach) (i : Nat) (hi : i < t.length + 1) : zA3 t.length (fun i => zBp (t.getD i default)) (zBc [zBp a]) i = zBp ((t ++ [a]).getD i default) := by
 simp only [zA3]
 split
 ·rename_i h
  simp [zz2, List.getElem?_append_left h]
 ·rename_i h
  have : i = t.length := by omega
  subst this;simp [zz2, zBc]
end Go.Sx
namespace Go.Sx
open Go.Proofs Go.RowKit
attribute [local irreducible] Run zAi zAy zAc SLe OLe
set_option maxHeartbeats 2000000
set_option maxRecDepth 8000
theorem zLi (a b : Course × Course) : zE8 a b = zE8 b a := by
 simp only [zE8]
 rw [Bool.eq_iff_iff]
 simp only [zz3, beq_iff_eq]
 constructor
 ·rintro ⟨h1, h2, h3, h4⟩; exact ⟨h1.symm, h2.symm, h3.symm, h4.symm⟩
 ·rintro ⟨h1, h2, h3, h4⟩; exact ⟨h1.symm, h2.symm, h3.symm, h4.symm⟩
theorem zM5 (p : Programme) (a b : Course) : ((p.Exclude.any fun y => zE8 (a, b) y) || (p.Exclude.any fun y => zE8 (b, a) y)) = excl p b a := by
 simp only [excl]
 induction p.Exclude with
 | nil => rfl
 | cons x r ih =>
  simp only [List.any_cons, ← ih, zLi (a, b) x, zLi (b, a) x];cases zE8 x (a, b) <;> cases zE8 x (b, a) <;> simp
theorem zF8 (a : Ach) : ∀ (t : List Ach) (n : Int), credits (t ++ [a]) n = wr (credits t n + a.Credits)
 | [], n => rfl
 | x :: r, n => by simp only [List.cons_append, credits]; exact zF8 a r _
theorem K47 : FnOK Tryz.prog 47 (fun ds d => ∃ p l set, l.length ≤ 10 ∧ set < 1024 ∧ ds = [zEs p, zAo 8 zBp l, eInt ((set : Nat) : Int)] ∧ d = .bool (zDf p l set)) := by
 refine zAa Tryz.call47 Tryz.func47 rfl Tryz.ntmps47 ?_
 rintro ds d ⟨p, l, set, hl, hset, rfl, rfl⟩
 refine ⟨by simp, fun w0 => ?_⟩
 have e : ∀ k : Nat, k < l.length → _ := fun k hk => zZc set k (by omega) (by omega)
 repeat' (first | apply zC | apply zD | apply zA | apply zB | refine zF qS qR ?_ ?_ | exact zz0 | exact rfl | fail)
 refine yF 7 65 8 (fun i => zBp (([] : List Ach).getD i default)) rfl rfl rfl ?_
 refine zN [2, 3, 13, 14, 7] (fun x : Nat × List Ach × Int => [(15, .int .i64 x.1), (8, .int .i64 x.2.2)]) (fun x : Nat × List Ach × Int => [(1, .acc 65 8 x.2.1.length fun i => zBp (x.2.1.getD i default))]) (fun x : Nat × List Ach × Int => x.1 ≤ l.length ∧ x.2.1.length ≤ x.1 ∧ zEi p set l 0 [] 0 0 = zEi p set (l.drop x.1) x.1 x.2.1 (credits x.2.1 0) x.2.2) (fun x : Nat × List Ach × Int => l.length - x.1) (0, [], 0) (fun x => qS) ?_ qL qL ?_
 ·exact ⟨Nat.zero_le _, Nat.zero_le _, rfl⟩
 rintro ⟨k, t, o⟩ ⟨h1, h2, h3⟩
 simp only at h1 h2 h3
 repeat' (first | apply zC | apply zA | apply zB | refine zF qS qR ?_ ?_ | exact zz0 | exact rfl | fail)
 (refine zE qS ?_ ?_ <;> intro hb <;> have hc := hb <;> (try simp only [bF] at hc) <;> (try (exfalso; simp at hc; done)))
 ·replace e := e k ‹_›
  rw [zAv _ _ ‹k < _›, zEi] at h3;cases hbit : set.testBit k
  ·rw [hbit, if_neg (by simp)] at h3
   repeat' (first | apply zC | apply zG | apply zD | apply zA | apply zB | refine zF (by simp only [go_sem, e, hbit]; rfl) qR ?_ ?_ | (refine zE (by simp only [go_sem, e, hbit]; rfl) ?_ ?_ <;> intro hb <;> have hc := hb <;> (try simp only [bF] at hc) <;> (try (exfalso; simp at hc; done))) | refine zK qR ?_ | exact zz0 | exact rfl | exact qP | fail)
   refine zS (k + 1, t, o) ?_ ?_ ⟨rfl, qL, qL⟩
   ·exact ⟨by simp only; omega, by simp only; omega, h3⟩
   ·simp only; omega
  ·rw [hbit, if_pos rfl] at h3
   repeat' (first | apply zC | apply zG | apply zD | apply zA | apply zB | refine zF (by simp only [go_sem, e, hbit]; rfl) qR ?_ ?_ | (refine zE (by simp only [go_sem, e, hbit]; rfl) ?_ ?_ <;> intro hb <;> have hc := hb <;> (try simp only [bF] at hc) <;> (try (exfalso; simp at hc; done))) | exact zz0 | exact rfl | exact qP | fail)
   refine zN [2, 3, 13, 14, 7, 10, 9, 15, 8, 25, 26] (fun i : Nat × Unit => [(27, .int .i64 i.1)]) (fun i : Nat × Unit => []) (fun i : Nat × Unit => i.1 ≤ t.length ∧ (t.any fun x => excl p x.Course (l.getD k default).Course) = (t.drop i.1).any fun x => excl p x.Course (l.getD k default).Course) (fun i : Nat × Unit => t.length - i.1) (0, ()) (fun x => qS) ?_ qL qL ?_
   ·exact ⟨Nat.zero_le _, rfl⟩
   rintro ⟨i, _⟩ ⟨h4, h5⟩;simp only at h4 h5
   repeat' (first | apply zC | apply zG | apply zD | apply zL | apply zA | apply zB | refine zF (by simp only [go_sem, e, hbit]; rfl) qR ?_ ?_ | refine zM K99 (by simp only [go_sem, e, hbit]; first | done | rfl) ?_ ⟨p.Exclude, ((l.getD k default).Course, (t.getD i default).Course), rfl, rfl⟩ (by simp only [go_sem, e, hbit]; rfl) ?_ | refine zV 39 qR (by simp only [go_sem, e, hbit]; rfl) K99 (by simp only [go_sem, e, hbit]; first | done | rfl) (fun hg => ?_) (fun _ => ⟨p.Exclude, ((t.getD i default).Course, (l.getD k default).Course), rfl, rfl⟩) (by simp only [go_sem, e, hbit]; rfl) ?_ | (refine zE (by simp only [go_sem, e, hbit]; rfl) ?_ ?_ <;> intro hb <;> have hc := hb <;> (try simp only [bF] at hc) <;> (try (exfalso; simp at hc; done))) | refine zI qR ?_ | refine zK qR ?_ | refine zS (i+1,()) ?_ ?_ ⟨rfl, qL, qL⟩ | exact zz0 | exact rfl | omega | refine zAc.bool ?_ | exact qP | fail)
   ·rw [zM5] at hb
    rw [h5, zAv _ _ ‹i < _›, List.any_cons, hb, Bool.true_or, if_pos rfl] at h3;rw [zDf, h3]
   ·rw [zM5] at hb
    refine ⟨by simp only; omega, ?_⟩;rw [h5, zAv _ _ ‹i < _›, List.any_cons, hb, Bool.false_or]
   ·rw [Bool.and_comm] at hb
    rw [h5, List.drop_of_length_le (by omega), List.any_nil, if_neg (by simp), if_pos hb, ← zF8] at h3;refine zS (k + 1, t ++ [l.getD k default], wr (o + (l.getD k default).Credits)) ?_ ?_ ⟨rfl, by simp only [go_sem]; repeat' (first | exact trivial | exact ⟨_, rfl, OLe.refl _⟩ | exact SLe.refl _ | (refine SLe.int ?_; rw [w64]; omega) | refine SLe.int ?_ | apply And.intro | exact ⟨_, rfl, OLe.accS (by simp) fun i hi => zId t _ i hi⟩), by simp only [go_sem]; repeat' (first | exact trivial | exact ⟨_, rfl, OLe.refl _⟩ | exact SLe.refl _ | (refine SLe.int ?_; rw [w64]; omega) | refine SLe.int ?_ | apply And.intro | exact ⟨_, rfl, OLe.accS (by simp) fun i hi => zId t _ i hi⟩)⟩
    ·exact ⟨by simp only; omega, by simp; omega, h3⟩
    ·simp only; omega
   ·rw [Bool.and_comm] at hb
    rw [h5, List.drop_of_length_le (by omega), List.any_nil, if_neg (by simp), if_neg (by rw [hb]; simp), ← zF8] at h3;refine zS (k + 1, t ++ [l.getD k default], o) ?_ ?_ ⟨rfl, by simp only [go_sem]; repeat' (first | exact trivial | exact ⟨_, rfl, OLe.refl _⟩ | exact SLe.refl _ | (refine SLe.int ?_; rw [w64]; omega) | refine SLe.int ?_ | apply And.intro | exact ⟨_, rfl, OLe.accS (by simp) fun i hi => zId t _ i hi⟩), by simp only [go_sem]; repeat' (first | exact trivial | exact ⟨_, rfl, OLe.refl _⟩ | exact SLe.refl _ | (refine SLe.int ?_; rw [w64]; omega) | refine SLe.int ?_ | apply And.intro | exact ⟨_, rfl, OLe.accS (by simp) fun i hi => zId t _ i hi⟩)⟩
    ·exact ⟨by simp only; omega, by simp; omega, h3⟩
    ·simp only; omega
 ·rw [List.drop_of_length_le (by omega), zEi] at h3
  repeat' (first | refine zO 1 qS ?_ | apply zC | apply zP | refine zU qS qR ?_ ?_ | refine zQ qK qK ?_ | refine zX K16 qD ?_ ⟨_, rfl, rfl⟩ qS ?_ | refine zBx 72 qR qS K105 qD (fun hg => ?_) (fun _ => ⟨_, rfl, rfl⟩) qS ?_ | refine zI qR ?_ | refine zK qR ?_ | exact zz0 | refine zAc.bool ?_ | exact qP | fail)
  rw [zDf, h3]
end Go.Sx
namespace Go.Sx
open Go.Proofs Go.RowKit
attribute [local irreducible] Run zAi zAy zAc SLe OLe
set_option maxHeartbeats 2000000
set_option maxRecDepth 8000
attribute [go_sem] zWj
def zAj (c : Case) (code : ByteArray) : Offer := (zHb code c.Offers).getD default
def zL1 (a b : Offer) : Bool := a.Slots.any fun n => b.Slots.any fun y => n == y
def zOm (c : Case) (x : Item) (k : Nat) : List Item → Nat → Int → Option Int
 | [], _, cr => some cr
 | y :: r, i, cr =>
  if decide (i < k) && (y.Code == x.Code || (y.Term == x.Term && zL1 (zAj c x.Code) (zAj c y.Code))) then none
  else zOm c x k r (i + 1) (if y.Term == x.Term then wr (cr + (zAj c y.Code).Credits) else cr)
def zRc (c : Case) (l : List Item) (k : Nat) : Bool :=
 let x := l.getD k default
 if (!(zHb x.Code c.Offers).isSome || decide ((zAj c x.Code).Places < 1) || zWd c x.Code || !zI8 c l x (zAj c x.Code)) then false else
  match zOm c x k l 0 0 with
  | none => false
  | some cr => !decide (c.Most < cr)
def zVg (c : Case) (l : List Item) : Nat → Nat → Bool
 | _, 0 => true
 | k, n + 1 => zRc c l k && zVg c l (k + 1) n
end Go.Sx
namespace Go.Sx
open Go.Proofs Go.RowKit
attribute [local irreducible] Run zAi zAy zAc SLe OLe
set_option maxHeartbeats 2000000
set_option maxRecDepth 8000
def zIk (n m : Int) : Int := (wr (n.tmod m + m)).tmod m
theorem K24 : FnOK Tryz.prog 24 (fun ds d => ∃ n m, m ≠ 0 ∧ ds = [eInt n, eInt m] ∧ d = eInt (zIk n m)) := by
 refine zAa Tryz.call24 Tryz.func24 rfl Tryz.ntmps24 ?_
 rintro ds d ⟨n, m, hm, rfl, rfl⟩
 refine ⟨by simp, fun w0 => ?_⟩
 repeat' (first | apply zC | apply zA | apply zB | refine zF qS qR ?_ ?_ | refine zI qR ?_ | exact zz0 | exact rfl | refine zAc.int ?_ | exact qP | fail)
theorem K94 : FnOK Tryz.prog 94 (fun ds d => ∃ n a b, ds = [eInt n, eInt a, eInt b] ∧ d = .bool (decide (a ≤ n) && decide (n ≤ b))) := by
 refine zAa Tryz.call94 Tryz.func94 rfl Tryz.ntmps94 ?_
 rintro ds d ⟨n, a, b, rfl, rfl⟩
 refine ⟨by simp, fun w0 => ?_⟩
 repeat' (first | apply zC | apply zA | apply zB | refine zF qS qR ?_ ?_ | refine zI qR ?_ | exact zz0 | exact rfl | exact zAc.bool rfl | exact qP | fail)
theorem K168 : FnOK Tryz.prog 168 (fun ds d => ∃ n, ds = [eInt n] ∧ d = .bool false) := by
 refine zAa Tryz.call168 Tryz.func168 rfl Tryz.ntmps168 ?_
 rintro ds d ⟨n, rfl, rfl⟩
 refine ⟨by simp, fun w0 => ?_⟩
 repeat' (first | apply zC | apply zA | apply zB | refine zF qS qR ?_ ?_ | refine zI qR ?_ | exact zz0 | exact rfl | refine zAc.bool ?_ | fail)
 simp
def zO1 (a b : Int) : Int := if a < b then -1 else if b < a then 1 else 0
theorem yHg : FnOK Tryz.prog 125 (fun ds d => ∃ a b, ds = [eInt a, eInt b] ∧ d = eInt (zO1 a b)) := by
 refine zAa Tryz.call125 Tryz.func125 rfl Tryz.ntmps125 ?_
 rintro ds d ⟨a, b, rfl, rfl⟩
 refine ⟨by simp, fun w0 => ?_⟩
 repeat' (first | apply zC | apply zG | apply zA | apply zB | refine zF qS qR ?_ ?_ | refine zM K168 qD ?_ ⟨_, rfl, rfl⟩ qS ?_ | (refine zE qS ?_ ?_ <;> intro hb <;> have hc := hb <;> (try simp only [bF] at hc) <;> (try (exfalso; simp at hc; done))) | refine zI qR ?_ | exact zz0 | exact rfl | refine zAc.int ?_ | fail)
 all_goals (simp only [zO1]; omega)
theorem K196 : FnOK Tryz.prog 196 (fun ds d => ∃ n, ds = [eStr n] ∧ d = .bool false) := by
 refine zAa Tryz.call196 Tryz.func196 rfl Tryz.ntmps196 ?_
 rintro ds d ⟨n, rfl, rfl⟩
 refine ⟨by simp, fun w0 => ?_⟩
 repeat' (first | apply zC | apply zA | apply zB | refine zF qS qR ?_ ?_ | refine zI qR ?_ | exact zz0 | exact rfl | refine zAc.bool ?_ | fail)
 simp
end Go.Sx
namespace Go.Sx
open Go.Proofs Go.RowKit
attribute [local irreducible] Run zAi zAy zAc SLe OLe
set_option maxHeartbeats 2000000
set_option maxRecDepth 8000
@[go_sem] theorem kkT103 : kkT Tryz.prog 103 = some (some .i64) := by kernel_rfl
@[go_sem] theorem mzT103 : mzT Tryz.prog 103 = some (.bool false) := by kernel_rfl
@[go_sem] theorem kkT148 : kkT Tryz.prog 148 = some (none) := by kernel_rfl
@[go_sem] theorem mzT148 : mzT Tryz.prog 148 = some (.bool false) := by kernel_rfl
@[go_sem] theorem kkT149 : kkT Tryz.prog 149 = some (some .i64) := by kernel_rfl
@[go_sem] theorem mzT149 : mzT Tryz.prog 149 = some (.int .i64 0) := by kernel_rfl
@[go_sem] theorem kkT208 : kkT Tryz.prog 208 = some (some .i64) := by kernel_rfl
@[go_sem] theorem mzT208 : mzT Tryz.prog 208 = some (.agg #[.nilFunc]) := by kernel_rfl
theorem zCf (n m : Int) (h : 0 < m) (h2 : m ≤ 1000000) : 0 ≤ zIk n m ∧ zIk n m < m := by
 unfold zIk wr
 have h1 := Int.tmod_lt_of_pos n h
 have h3 : -m < n.tmod m := by
  have := Int.lt_tmod_of_pos n h;omega
 rw [w64, show (n.tmod m + m + 9223372036854775808) % 18446744073709551616 - 9223372036854775808 = n.tmod m + m by omega]
 exact ⟨Int.tmod_nonneg _ (by omega), Int.tmod_lt_of_pos _ h⟩
def nxN (L : List Int) (at' : Nat) (m : Int) : Int := if L.length ≤ at' then 0 else zIk (L.getD at' default) m
def nxA (L : List Int) (at' : Nat) : Nat := if L.length ≤ at' then at' else at' + 1
def zE6 (L : List Int) (at' : Nat) : OB := .var [lngs L, eInt (at' : Int)]
attribute [go_sem] zE6
theorem K90 : FnM Tryz.prog 90 (fun ds os d os' => ∃ (L : List Int) (k : Nat) (m : Int), (0 < m ∧ m ≤ 1000000) ∧ ds = [.loc 1000 0, eInt m] ∧ os = [zE6 L k] ∧ d = eInt (nxN L k m) ∧ os' = [(1000, zE6 L (nxA L k))]) := by
 refine zBq Tryz.call90 Tryz.func90 rfl Tryz.ntmps90 ?_
 rintro ds os d os' ⟨L, k, m, ⟨hm, hm2⟩, rfl, rfl, rfl, rfl⟩
 refine ⟨by simp, fun F w0 => ?_⟩
 refine runLng 1000 0 rfl rfl fun hl => ?_
 by_cases hk : L.length ≤ k
 ·simp only [nxN, nxA, if_pos hk]
  repeat' (first | apply zC | apply zG | apply zA | apply zP | apply zB | refine zF qS qR ?_ ?_ | refine zU qS qR ?_ ?_ | refine zQ qK qK ?_ | (refine zE qS ?_ ?_ <;> intro hb <;> have hc := hb <;> (try simp only [bF] at hc) <;> (try (exfalso; simp at hc; done))) | refine yC qR qS ?_ ?_ | exact zz0 | exact rfl | exact SLe.refl _ | omega | (show zC2 _ _; simp only [go_sem]; repeat' (first | exact trivial | exact zz0 | exact SLe.refl _ | exact OLe.refl _ | exact ⟨_, rfl, OLe.refl _⟩ | refine ⟨_, rfl, ?_⟩ | refine OLe.var ?_ | (show zAh _ _; refine ⟨?_, ?_⟩) | (show zAh [] []; exact zz0) | (refine SLe.int ?_; rw [w64]; omega) | refine SLe.int ?_ | refine SLe.bool ?_ | apply And.intro)) | fail)
 ·simp only [nxN, nxA, if_neg hk]
  have e1 : IntKind.i64.wrap ((k : Int) + 1) = ((k + 1 : Nat) : Int) := by rw [w64]; omega
  repeat' (first | apply zC | apply zG | apply zA | apply zP | apply zB | refine zF (by simp only [go_sem, e1]; rfl) qR ?_ ?_ | refine zU (by simp only [go_sem, e1]; rfl) qR ?_ ?_ | refine zQ qK qK ?_ | (refine zE (by simp only [go_sem, e1]; rfl) ?_ ?_ <;> intro hb <;> have hc := hb <;> (try simp only [bF] at hc) <;> (try (exfalso; simp at hc; done))) | refine yC qR (by simp only [go_sem, e1]; rfl) ?_ ?_ | exact zz0 | exact rfl | exact SLe.refl _ | omega | (show zC2 _ _; simp only [go_sem, e1]; repeat' (first | exact trivial | exact zz0 | exact SLe.refl _ | exact OLe.refl _ | exact ⟨_, rfl, OLe.refl _⟩ | refine ⟨_, rfl, ?_⟩ | refine OLe.var ?_ | (show zAh _ _; refine ⟨?_, ?_⟩) | (show zAh [] []; exact zz0) | (refine SLe.int ?_; rw [w64]; omega) | refine SLe.int ?_ | refine SLe.bool ?_ | apply And.intro)) | exact qP | fail)
end Go.Sx
