/- Part of the proof that the laws of the judge return true for every input: J40, J48. -/
import Derived.Test.YtmbocmonhcplhaaGreatJ31
import Derived.Test.YtmbocmonhcplhaaGreatJ39
import Derived.Test.YtmbocmonhcplhaaGreatJ13
import Derived.Test.YtmbocmonhcplhaaGreatS4
set_option linter.all false
namespace Go.Sx
open Go.Proofs Go.RowKit
attribute [local irreducible] Run zAi zAy OpT zAc SLe OLe
set_option maxHeartbeats 2000000
set_option maxRecDepth 8000
set_option maxHeartbeats 20000000
theorem K99t : FnOK Tryz.prog 99 (fun ds d => ∃ (a : List (Course × Course)) (k : Nat) (x : Course × Course), k < a.length ∧ ds = [.list 4 k (fun i => zM8 (a.getD i default)), zM8 x] ∧ d = .bool ((a.take k).any fun y => zE8 x y)) := by
 refine yAf K99 ?_
 rintro ds v ⟨a, k, x, hk, rfl, rfl⟩
 refine ⟨_, ⟨a.take k, x, rfl, rfl⟩, fun h e vs hv => ?_⟩
 exact zAh.repT (l := [.list 4 k (fun i => zM8 (a.getD i default)), zM8 x]) ⟨SLe.list (by rw [List.length_take]; omega) fun i hi => by
  simp only [zz2, List.getElem?_take, hi, if_true], SLe.refl _, trivial⟩ hv
theorem K40 (d : Nat) (hd : 1 + d ≤ 100) : FnOK Tryz.prog 40 (fun ds v => ∃ p : Programme, POk d p ∧ ds = [zEs p] ∧ v = eInt (zHf d p)) := by
 have K96x := K96 d hd
 refine zAa Tryz.call40 Tryz.func40 rfl Tryz.ntmps40 ?_
 rintro ds d ⟨p, hp, rfl, rfl⟩
 refine ⟨by simp, fun w0 => ?_⟩
 repeat' (first | apply zC | apply zD | apply zA | apply zB | refine zF qS qR ?_ ?_ | refine zM K94 qD ?_ ⟨_, _, _, rfl, rfl⟩ qS ?_ | exact zz0 | exact rfl | fail)
 (refine zE qS ?_ ?_ <;> intro hb <;> have hc := hb <;> (try simp only [bF] at hc) <;> (try (exfalso; simp at hc; done)))
 ·rw [zHf, if_pos hb]
  repeat' (first | apply zC | apply zA | apply zB | refine zF qS qR ?_ ?_ | refine zI qR ?_ | exact zz0 | exact rfl | refine zAc.int ?_ | fail)
  all_goals skip
 rw [zHf, if_neg (by rw [hb]; simp)]
 repeat' (first | apply zC | apply zA | apply zB | refine zF qS qR ?_ ?_ | refine zM K94 qD ?_ ⟨_, _, _, rfl, rfl⟩ qS ?_ | refine zV 16 qR qS K94 qD (fun hg => ?_) (fun _ => ⟨_, _, _, rfl, rfl⟩) qS ?_ | refine zV 22 qR qS K94 qD (fun hg => ?_) (fun _ => ⟨_, _, _, rfl, rfl⟩) qS ?_ | refine zV 28 qR qS K94 qD (fun hg => ?_) (fun _ => ⟨_, _, _, rfl, rfl⟩) qS ?_ | refine zV 34 qR qS K94 qD (fun hg => ?_) (fun _ => ⟨_, _, _, rfl, rfl⟩) qS ?_ | refine zV 40 qR qS K94 qD (fun hg => ?_) (fun _ => ⟨_, _, _, rfl, rfl⟩) qS ?_ | exact zz0 | exact rfl | exact qP | fail)
 (refine zE qS ?_ ?_ <;> intro hb <;> have hc := hb <;> (try simp only [bF] at hc) <;> (try (exfalso; simp at hc; done)))
 ·have hb2 : zPq p = true := hb
  rw [if_pos hb2]
  repeat' (first | apply zC | apply zA | apply zB | refine zF qS qR ?_ ?_ | refine zI qR ?_ | exact zz0 | exact rfl | refine zAc.int ?_ | fail)
  all_goals skip
 have hb2 : zPq p = false := hb
 rw [if_neg (by rw [hb2]; simp)]
 repeat' (first | apply zC | apply zA | apply zB | refine zF qS qR ?_ ?_ | refine zM K95 qD ?_ ⟨p.Name, hp.name, rfl, rfl⟩ qS ?_ | exact zz0 | exact rfl | fail)
 (refine zE qS ?_ ?_ <;> intro hb <;> have hc := hb <;> (try simp only [bF] at hc) <;> (try (exfalso; simp at hc; done)))
 ·rw [if_pos hb]
  repeat' (first | apply zC | apply zA | apply zB | refine zF qS qR ?_ ?_ | refine zI qR ?_ | exact zz0 | exact rfl | refine zAc.int ?_ | fail)
  all_goals skip
 rw [if_neg (by rw [hb]; simp)]
 repeat' (first | apply zC | apply zG | apply zL | apply zA | apply zB | refine zF qS qR ?_ ?_ | refine zM K96x qD ?_ ⟨p.Need, hp.need, rfl, rfl⟩ qS ?_ | exact zz0 | exact rfl | fail)
 (refine zE qS ?_ ?_ <;> intro hb <;> have hc := hb <;> (try simp only [bF] at hc) <;> (try (exfalso; simp at hc; done)))
 ·have hz : ¬ zSb (zAd d 1 p.Need) = 0 := by simpa using hb
  rw [if_neg hz]
  repeat' (first | apply zC | apply zA | apply zB | refine zF qS qR ?_ ?_ | refine zI qR ?_ | exact zz0 | exact rfl | refine zAc.int ?_ | fail)
  all_goals skip
 have hz : zSb (zAd d 1 p.Need) = 0 := by simpa using hb
 rw [if_pos hz]
 clear hz
 repeat' (first | apply zC | apply zG | apply zA | apply zB | refine zF qS qR ?_ ?_ | exact zz0 | exact rfl | fail)
 (refine zE qS ?_ ?_ <;> intro hb <;> have hc := hb <;> (try simp only [bF] at hc) <;> (try (exfalso; simp at hc; done)))
 ·rw [if_pos hb]
  repeat' (first | apply zC | apply zA | apply zB | refine zF qS qR ?_ ?_ | refine zI qR ?_ | exact zz0 | exact rfl | refine zAc.int ?_ | fail)
  all_goals skip
 rw [if_neg (by rw [hb]; simp)]
 have hl8 : p.Exclude.length ≤ 8 := by
  have := of_decide_eq_false hb;omega
 clear K96x hb2
 repeat' (first | apply zC | apply zG | apply zD | apply zA | apply zB | refine zF qS qR ?_ ?_ | exact zz0 | exact rfl | fail)
 refine zN [0, 1, 62, 63] (fun x : Nat × Unit => [(64, .int .i64 x.1)]) (fun x : Nat × Unit => []) (fun x : Nat × Unit => x.1 ≤ p.Exclude.length ∧ zTi p.Exclude p.Exclude 0 = zTi p.Exclude (p.Exclude.drop x.1) x.1) (fun x : Nat × Unit => p.Exclude.length - x.1) (0, ()) (fun x => qS) ?_ qL qL ?_
 ·exact ⟨Nat.zero_le _, rfl⟩
 rintro ⟨k, _⟩ ⟨g1, g2⟩
 simp only at g1 g2
 repeat' (first | apply zC | apply zA | apply zB | refine zF qS qR ?_ ?_ | exact zz0 | exact rfl | fail)
 (refine zE qS ?_ ?_ <;> intro hb <;> have hc := hb <;> (try simp only [bF] at hc) <;> (try (exfalso; simp at hc; done)))
 ·have hk : k < p.Exclude.length := by assumption
  obtain ⟨hc1, hc2⟩ := hp.excl _ (zAk hk);rw [zAv _ _ hk, zTi] at g2
  repeat' (first | apply zC | apply zG | apply zD | apply zA | apply zB | refine zF qS qR ?_ ?_ | refine zM K97 qD ?_ ⟨_, hc1, rfl, rfl⟩ qS ?_ | refine zV 74 qR qS K97 qD (fun hg => ?_) (fun _ => ⟨_, hc2, rfl, rfl⟩) qS ?_ | exact zz0 | exact rfl | exact qP | fail)
  (refine zE qS ?_ ?_ <;> intro hb <;> have hc := hb <;> (try simp only [bF] at hc) <;> (try (exfalso; simp at hc; done)))
  ·rw [if_pos hb] at g2
   rw [g2]
   repeat' (first | apply zC | apply zA | apply zB | refine zF qS qR ?_ ?_ | refine zI qR ?_ | exact zz0 | exact rfl | refine zAc.int ?_ | fail)
   all_goals skip
  rw [if_neg (by rw [hb]; simp)] at g2
  repeat' (first | apply zC | apply zA | apply zB | refine zF (by simp only [go_sem, zFj]; rfl) qR ?_ ?_ | refine zM K98 (by simp only [go_sem, zFj]; first | done | rfl) ?_ ⟨_, _, rfl, rfl⟩ (by simp only [go_sem, zFj]; rfl) ?_ | exact zz0 | exact rfl | exact qP | fail)
  (refine zE qS ?_ ?_ <;> intro hb <;> have hc := hb <;> (try simp only [bF] at hc) <;> (try (exfalso; simp at hc; done)))
  ·have hb3 : (!zMg (p.Exclude.getD k default).1 (p.Exclude.getD k default).2) = true := hb
   rw [if_pos hb3] at g2;rw [g2]
   repeat' (first | apply zC | apply zA | apply zB | refine zF qS qR ?_ ?_ | refine zI qR ?_ | exact zz0 | exact rfl | refine zAc.int ?_ | fail)
   all_goals skip
  have hb3 : (!zMg (p.Exclude.getD k default).1 (p.Exclude.getD k default).2) = false := hb;rw [if_neg (by rw [hb3]; simp)] at g2
  repeat' (first | apply zC | apply zP | refine zU qS qR ?_ ?_ | refine zQ qK qK ?_ | refine zX K99t qD ?_ ⟨_, k, _, hk, rfl, rfl⟩ qS ?_ | exact zz0 | exact qP | fail)
  (refine zE qS ?_ ?_ <;> intro hb <;> have hc := hb <;> (try simp only [bF] at hc) <;> (try (exfalso; simp at hc; done)))
  ·rw [if_pos hb] at g2
   rw [g2]
   repeat' (first | apply zC | apply zA | apply zB | refine zF qS qR ?_ ?_ | refine zI qR ?_ | exact zz0 | exact rfl | refine zAc.int ?_ | fail)
   all_goals skip
  ·rw [if_neg (by rw [hb]; simp)] at g2
   repeat' (first | apply zG | apply zL | apply zA | apply zB | refine zF qS qR ?_ ?_ | refine zS (k+1,()) ?_ ?_ ⟨rfl, qL, qL⟩ | exact zz0 | exact rfl | omega)
   exact ⟨by simp only; omega, g2⟩
 ·rw [List.drop_of_length_le (by omega), zTi] at g2
  rw [g2]
  repeat' (first | apply zC | apply zA | apply zB | refine zF qS qR ?_ ?_ | refine zI qR ?_ | refine zK qR ?_ | exact zz0 | exact rfl | refine zAc.int ?_ | fail)
  all_goals skip
end Go.Sx
namespace Go.Sx
def crT (c : Case) : List Item → Int → Int → Int
 | [], _, cr => cr
 | y :: r, t, cr => crT c r t (if y.Term == t then wr (cr + (zAj c y.Code).Credits) else cr)
def clI (c : Case) (x y : Item) : Bool := y.Code == x.Code || (y.Term == x.Term && zL1 (zAj c y.Code) (zAj c x.Code))
def okA (c : Case) (l : List Item) (x : Item) : Bool := !(zHb x.Code c.Offers).isSome || decide ((zAj c x.Code).Places < 1) || zWd c x.Code || decide (c.Most < crT c l x.Term 0)
def okI (c : Case) (l : List Item) (k : Nat) : Bool := !okA c l (l.getD k default) && !((l.take k).any (clI c (l.getD k default))) && zI8 c l (l.getD k default) (zAj c (l.getD k default).Code)
def zTm (c : Case) (l : List Item) : Bool := (List.range l.length).all (okI c l)
theorem zQg (a b : Offer) : zL1 a b = zL1 b a := by
 rw [Bool.eq_iff_iff]
 simp only [zL1, List.any_eq_true, beq_iff_eq]
 constructor
 ·rintro ⟨n, h1, y, h2, rfl⟩; exact ⟨n, h2, n, h1, rfl⟩
 ·rintro ⟨n, h1, y, h2, rfl⟩; exact ⟨n, h2, n, h1, rfl⟩
theorem zOl (c : Case) (x : Item) (k : Nat) : ∀ (l : List Item) (i : Nat) (cr : Int), zOm c x k l i cr = if (l.take (k - i)).any (clI c x) then none else some (crT c l x.Term cr)
 | [], i, cr => by simp [zOm, crT]
 | y :: r, i, cr => by
  rw [zOm, zOl c x k r, crT];by_cases hi : i < k
  ·have e : k - i = (k - (i + 1)) + 1 := by omega
   rw [e, List.take_succ_cons, List.any_cons, decide_eq_true hi, Bool.true_and];have hcl : clI c x y = (y.Code == x.Code || y.Term == x.Term && zL1 (zAj c x.Code) (zAj c y.Code)) := by rw [clI, zQg]
   rw [← hcl];cases clI c x y <;> simp
  ·have e : k - i = 0 := by omega
   have e2 : k - (i + 1) = 0 := by omega
   rw [e, e2, decide_eq_false hi];simp
theorem zVo (c : Case) (l : List Item) (k : Nat) : zRc c l k = okI c l k := by
 unfold zRc okI okA
 simp only
 generalize l.getD k default = x
 rw [zOl, Nat.sub_zero]
 cases (l.take k).any (clI c x)
 ·simp only [Bool.false_eq_true, if_false]
  generalize decide (c.Most < crT c l x.Term 0) = b2;generalize decide ((zAj c x.Code).Places < 1) = b1;cases (zHb x.Code c.Offers).isSome <;> cases b1 <;> cases zWd c x.Code <;> cases zI8 c l x (zAj c x.Code) <;> cases b2 <;> rfl
 ·simp only [if_true]
  generalize decide (c.Most < crT c l x.Term 0) = b2;generalize decide ((zAj c x.Code).Places < 1) = b1;cases (zHb x.Code c.Offers).isSome <;> cases b1 <;> cases zWd c x.Code <;> cases zI8 c l x (zAj c x.Code) <;> cases b2 <;> rfl
theorem zQ9 (c : Case) (l : List Item) : ∀ (n k : Nat), zVg c l k n = (List.range n).all fun i => zRc c l (k + i)
 | 0, k => rfl
 | n + 1, k => by
  rw [zVg, zQ9 c l n, Bool.eq_iff_iff];simp only [zz3, List.all_eq_true, List.mem_range]
  constructor
  ·rintro ⟨h1, h2⟩ i hi
   cases i with
   | zero => exact h1
   | succ i => rw [show k + (i + 1) = k + 1 + i by omega]; exact h2 i (by omega)
  ·intro h
   exact ⟨h 0 (by omega), fun i hi => by rw [show k + 1 + i = k + (i + 1) by omega]; exact h (i + 1) (by omega)⟩
theorem zY7 (c : Case) (l : List Item) : zTm c l = zVg c l 0 l.length := by
 rw [zQ9, zTm]
 congr 1
 funext i
 rw [zVo, Nat.zero_add]
theorem zR9 (c : Case) (y : Item) (t : Int) : ∀ (l : List Item) (cr : Int), crT c (l ++ [y]) t cr = if y.Term == t then wr (crT c l t cr + (zAj c y.Code).Credits) else crT c l t cr
 | [], cr => rfl
 | z :: r, cr => by simp only [List.cons_append, crT]; exact zR9 c y t r _
theorem zKu {c : Case} {l : List Item} {k : Nat} (hk : k < l.length) (h : okI c l k = false) : zTm c l = false := by
 rw [zTm, List.all_eq_false]
 exact ⟨k, List.mem_range.2 hk, by rw [h]; simp⟩
theorem zYr (c : Case) (code : ByteArray) : zWd c code = c.Has.any fun a => (a.Course.School == c.Programme.School) && (a.Course.Code == code) := rfl
open Go.Proofs Go.RowKit
attribute [local irreducible] Run zAi zAy OpT zAc SLe OLe
set_option maxHeartbeats 2000000
set_option maxRecDepth 8000
set_option maxHeartbeats 8000000
attribute [go_sem] zWj
def tD (d : MK → Bool) (n : Nat) : OB := .mp ⟨none, n, d, fun _ => .bool true, none⟩ []
def cD (d : MK → Bool) (g : MK → Int) (n : Nat) : OB := .mp ⟨some .i64, n, d, fun q => .int .i64 (g q), none⟩ []
attribute [go_sem] tD cD
@[go_sem] theorem set_true (q : MK) : zNn q (.bool true) (fun _ => .bool true) = fun _ => .bool true := by
 funext r; simp only [zNn]; split <;> rfl
theorem yA3 (d : MK → Bool) (n : Nat) (g : MK → Int) (t v : Int) : (.mp ⟨some .i64, n, d, zNn (.i t) (.int .i64 v) fun q => .int .i64 (g q), none⟩ [] : OB) = cD d (fun q => if q = .i t then v else g q) n := by
 simp only [cD]
 congr 2
 funext r
 simp only [zNn]
 split <;> rfl
theorem K30 : FnOK Tryz.prog 30 (fun ds v => ∃ c l, ds = [zY1 c, zAo 2 zIh l] ∧ v = .bool (zTm c l)) := by
 refine zAa Tryz.call30 Tryz.func30 rfl Tryz.ntmps30 ?_
 rintro ds d ⟨c, l, rfl, rfl⟩
 refine ⟨by simp, fun w0 => ?_⟩
 refine zB3 1 rfl fun ll => ?_
 refine yE 0 17 rfl rfl fun la => ?_
 repeat' (first | apply zC | apply zD | apply zA | apply zB | refine zF qS qR ?_ ?_ | refine zHp ((fun _ => .bool true)) qS qS ?_ | exact zz0 | exact rfl | fail)
 refine zN [1, 2, 5, 25, 26] (fun x : Nat × Nat × (MK → Bool) => [(27, .int .i64 x.1)]) (fun x : Nat × Nat × (MK → Bool) => [(1, tD x.2.2 x.2.1)]) (fun x : Nat × Nat × (MK → Bool) => (x.1 ≤ c.Has.length ∧ x.2.1 ≤ x.1) ∧ ∀ code, x.2.2 (.s code) = (c.Has.take x.1).any fun a => (a.Course.School == c.Programme.School) && (a.Course.Code == code)) (fun x : Nat × Nat × (MK → Bool) => c.Has.length - x.1) (0, 0, fun _ => false) (fun x => qS) ?_ qL qL ?_
 ·exact ⟨⟨Nat.zero_le _, Nat.zero_le _⟩, fun code => rfl⟩
 rintro ⟨k, n, dm⟩ ⟨⟨g1, g2⟩, g3⟩
 simp only at g1 g2 g3
 repeat' (first | apply zC | apply zA | apply zB | refine zF qS qR ?_ ?_ | exact zz0 | exact rfl | fail)
 (refine zE qS ?_ ?_ <;> intro hb <;> have hc := hb <;> (try simp only [bF] at hc) <;> (try (exfalso; simp at hc; done)))
 ·have hk : k < c.Has.length := by assumption
  have htk : ∀ code, ((c.Has.take (k + 1)).any fun a => (a.Course.School == c.Programme.School) && (a.Course.Code == code)) = (dm (.s code) || (((c.Has.getD k default).Course.School == c.Programme.School) && ((c.Has.getD k default).Course.Code == code))) := fun code => by
   rw [List.take_add_one, List.any_append, g3, zz2, List.getElem?_eq_getElem hk];simp
  repeat' (first | apply zC | apply zG | apply zD | apply zA | apply zB | refine zF qS qR ?_ ?_ | exact zz0 | exact rfl | exact qP | fail)
  (refine zE qS ?_ ?_ <;> intro hb <;> have hc := hb <;> (try simp only [bF] at hc) <;> (try (exfalso; simp at hc; done)))
  ·repeat' (first | apply zL | apply zA | apply zB | refine zF qS qR ?_ ?_ | refine zJ4 qS ?_ ?_ ?_ | refine zS (k+1,(bif dm (.s (c.Has.getD k default).Course.Code) then n else n+1),zFl (.s (c.Has.getD k default).Course.Code) dm) ?_ ?_ ⟨rfl, qL, qL⟩ | exact zz0 | exact rfl | omega)
   ·simp only [zAn, maxN]; exact ⟨by omega, trivial⟩
   ·refine ⟨⟨by simp only; omega, ?_⟩, fun code => ?_⟩
    ·simp only
     cases dm (.s (c.Has.getD k default).Course.Code) <;> simp <;> omega
    ·simp only
     rw [htk, hb, Bool.true_and, Bool.or_comm, zFl]
     congr 1
     rw [Bool.eq_iff_iff, decide_eq_true_eq, beq_iff_eq]
     constructor
     ·intro h; injection h with h; exact h.symm
     ·intro h; rw [h]
  ·repeat' (first | apply zG | apply zL | apply zA | apply zB | refine zF qS qR ?_ ?_ | refine zS (k+1,n,dm) ?_ ?_ ⟨rfl, qL, qL⟩ | exact zz0 | exact rfl | omega)
   refine ⟨⟨by simp only; omega, by simp only; omega⟩, fun code => ?_⟩;simp only;rw [htk, hb, Bool.false_and, Bool.or_false]
 have hdm : ∀ code, (bif dm (.s code) then true else false) = zWd c code := fun code => by
  rw [zYr, g3, List.take_of_length_le (by omega)];cases (c.Has.any fun a => (a.Course.School == c.Programme.School) && (a.Course.Code == code)) <;> rfl
 clear g3
 repeat' (first | apply zC | apply zD | apply zA | apply zB | refine zF qS qR ?_ ?_ | refine zHp ((fun _ => .int .i64 0)) qS qS ?_ | refine zK qR ?_ | exact zz0 | exact rfl | fail)
 refine zN [1, 2, 5, 8, 44, 45] (fun x : Nat × Nat × (MK → Bool) × (MK → Int) => [(46, .int .i64 x.1)]) (fun x : Nat × Nat × (MK → Bool) × (MK → Int) => [(2, cD x.2.2.1 x.2.2.2 x.2.1)]) (fun x : Nat × Nat × (MK → Bool) × (MK → Int) => (x.1 ≤ l.length ∧ x.2.1 ≤ x.1) ∧ ∀ t, (bif x.2.2.1 (.i t) then x.2.2.2 (.i t) else 0) = crT c (l.take x.1) t 0) (fun x : Nat × Nat × (MK → Bool) × (MK → Int) => l.length - x.1) (0, 0, (fun _ => false), fun _ => 0) (fun x => qS) ?_ qL qL ?_
 ·exact ⟨⟨Nat.zero_le _, Nat.zero_le _⟩, fun t => rfl⟩
 rintro ⟨k2, n2, dc, gc⟩ ⟨⟨q1, q2⟩, q3⟩
 simp only at q1 q2 q3
 repeat' (first | apply zC | apply zA | apply zB | refine zF qS qR ?_ ?_ | exact zz0 | exact rfl | fail)
 (refine zE qS ?_ ?_ <;> intro hb <;> have hc := hb <;> (try simp only [bF] at hc) <;> (try (exfalso; simp at hc; done)))
 ·have hk : k2 < l.length := by assumption
  have htk : ∀ t, crT c (l.take (k2 + 1)) t 0 = if (l.getD k2 default).Term == t then wr (crT c (l.take k2) t 0 + (zAj c (l.getD k2 default).Code).Credits) else crT c (l.take k2) t 0 := fun t => by
   rw [List.take_add_one, List.getElem?_eq_getElem hk, zz2, List.getElem?_eq_getElem hk];exact zR9 c _ t _ 0
  have hof : (zHb (l.getD k2 default).Code c.Offers).getD default = zAj c (l.getD k2 default).Code := rfl
  repeat' (first | apply zC | apply zG | apply zD | apply zL | apply zA | apply zB | refine zF (by simp only [go_sem, q3, hof]; rfl) qR ?_ ?_ | refine zM K28 (by simp only [go_sem, q3, hof]; first | done | rfl) ?_ ⟨c.Offers, _, rfl, rfl⟩ (by simp only [go_sem, q3, hof]; rfl) ?_ | refine zJ4 (by simp only [go_sem, q3, hof]; rfl) ?_ ?_ ?_ | refine zZq (by simp only [go_sem, q3, hof]; rfl) ?_ (by simp only [go_sem, q3, hof]; rfl) ?_ | exact zz0 | exact rfl | exact qP | fail)
  ·simp only [zAn, maxN]; exact ⟨by omega, trivial⟩
  obtain ⟨v, hv⟩ : ∃ v, v = wr (crT c (l.take k2) (l.getD k2 default).Term 0 + (zAj c (l.getD k2 default).Code).Credits) := ⟨_, rfl⟩;refine zR (o' := cD (zFl (.i (l.getD k2 default).Term) dc) (fun q => if q = .i (l.getD k2 default).Term then v else gc q) (bif dc (.i (l.getD k2 default).Term) then n2 else n2 + 1)) 2 qR (zGx (by rw [hv]; exact yA3 _ _ _ _ _)) ?_;refine zS (k2 + 1, (bif dc (.i (l.getD k2 default).Term) then n2 else n2 + 1), zFl (.i (l.getD k2 default).Term) dc, fun q => if q = .i (l.getD k2 default).Term then v else gc q) ?_ ?_ ⟨rfl, qL, qL⟩
  ·refine ⟨⟨by simp only; omega, ?_⟩, fun t => ?_⟩
   ·simp only
    cases dc (.i (l.getD k2 default).Term) <;> simp <;> omega
   ·simp only
    rw [htk, ← q3 t];by_cases ht : t = (l.getD k2 default).Term
    ·subst ht
     rw [if_pos (by simp), hv, ← q3];simp [zFl]
    ·have h1 : decide (MK.i t = MK.i (l.getD k2 default).Term) = false := decide_eq_false fun h => ht (by injection h)
     have h2 : ((l.getD k2 default).Term == t) = false := by rw [beq_eq_false_iff_ne]; exact fun h => ht h.symm
     have h3 : ¬ MK.i t = MK.i (l.getD k2 default).Term := fun h => ht (by injection h);rw [h2, zFl, h1, Bool.false_or, if_neg h3];rfl
  ·simp only; omega
 have hcr : ∀ t, (bif dc (.i t) then gc (.i t) else 0) = crT c l t 0 := fun t => by rw [q3, List.take_of_length_le (by omega)]
 clear q3
 repeat' (first | apply zC | apply zD | apply zA | apply zB | refine zF qS qR ?_ ?_ | refine zK qR ?_ | exact zz0 | exact rfl | fail)
 refine yF 13 76 5 (fun i => zC7 (([] : List Offer).getD i default)) rfl rfl rfl ?_
 refine zN [1, 2, 5, 8, 13, 66, 67] (fun x : Nat × List Offer => [(68, .int .i64 x.1)]) (fun x : Nat × List Offer => [(3, .acc 76 5 x.2.length (fun i => zC7 (x.2.getD i default)))]) (fun x : Nat × List Offer => (x.1 ≤ l.length ∧ x.2.length = x.1) ∧ (∀ j, j < x.1 → okI c l j = true) ∧ ∀ j, j < x.1 → x.2.getD j default = zAj c (l.getD j default).Code) (fun x : Nat × List Offer => l.length - x.1) (0, []) (fun x => qS) ?_ qL qL ?_
 ·exact ⟨⟨Nat.zero_le _, rfl⟩, fun j h => absurd h (Nat.not_lt_zero j), fun j h => absurd h (Nat.not_lt_zero j)⟩
 rintro ⟨k3, of⟩ ⟨⟨r1, r2⟩, r3, r4⟩
 simp only at r1 r2 r3 r4
 repeat' (first | apply zC | apply zA | apply zB | refine zF qS qR ?_ ?_ | exact zz0 | exact rfl | fail)
 (refine zE qS ?_ ?_ <;> intro hb <;> have hc := hb <;> (try simp only [bF] at hc) <;> (try (exfalso; simp at hc; done)))
 ·have hk : k3 < l.length := by assumption
  have hof : (zHb (l.getD k3 default).Code c.Offers).getD default = zAj c (l.getD k3 default).Code := rfl
  repeat' (first | apply zC | apply zG | apply zD | apply zA | apply zB | refine zF (by simp only [go_sem, hdm, hcr, hof]; rfl) qR ?_ ?_ | refine zM K28 (by simp only [go_sem, hdm, hcr, hof]; first | done | rfl) ?_ ⟨c.Offers, _, rfl, rfl⟩ (by simp only [go_sem, hdm, hcr, hof]; rfl) ?_ | refine zUa 88 qR (by simp only [go_sem, hdm, hcr, hof]; rfl) (by simp only [go_sem, hdm, hcr, hof]; rfl) (fun hg => ?_) (by simp only [go_sem, hdm, hcr, hof]; rfl) ?_ | refine zUa 94 qR (by simp only [go_sem, hdm, hcr, hof]; rfl) (by simp only [go_sem, hdm, hcr, hof]; rfl) (fun hg => ?_) (by simp only [go_sem, hdm, hcr, hof]; rfl) ?_ | exact zz0 | exact rfl | exact qP | fail)
  (refine zE qS ?_ ?_ <;> intro hb <;> have hc := hb <;> (try simp only [bF] at hc) <;> (try (exfalso; simp at hc; done)))
  ·have hA : okA c l (l.getD k3 default) = true := hb
   rw [zKu hk (by rw [okI, hA]; rfl)]
   repeat' (first | apply zC | apply zA | apply zB | refine zF qS qR ?_ ?_ | refine zI qR ?_ | exact zz0 | exact rfl | exact zAc.bool rfl | fail)
   all_goals skip
  have hA : okA c l (l.getD k3 default) = false := hb
  repeat' (first | apply zC | apply zG | apply zD | apply zA | apply zB | refine zF qS qR ?_ ?_ | exact rfl | exact qP | fail)
  refine zN [1, 2, 5, 8, 13, 14, 15, 16, 66, 67, 68, 105, 106] (fun x : Nat × Unit => [(107, .int .i64 x.1)]) (fun x : Nat × Unit => []) (fun x : Nat × Unit => x.1 ≤ k3 ∧ ∀ j, j < x.1 → clI c (l.getD k3 default) (l.getD j default) = false) (fun x : Nat × Unit => k3 - x.1) (0, ()) (fun x => qS) ?_ qL qL ?_
  ·exact ⟨Nat.zero_le _, fun j h => absurd h (Nat.not_lt_zero j)⟩
  rintro ⟨i, _⟩ ⟨p1, p2⟩;simp only at p1 p2
  repeat' (first | apply zC | apply zA | apply zB | refine zF qS qR ?_ ?_ | exact zz0 | exact rfl | fail)
  (refine zE qS ?_ ?_ <;> intro hb <;> have hc := hb <;> (try simp only [bF] at hc) <;> (try (exfalso; simp at hc; done)))
  ·have hi : i < k3 := by assumption
   have ho := r4 i hi
   repeat' (first | apply zC | apply zG | apply zD | apply zA | apply zP | apply zB | refine zF qS qR ?_ ?_ | refine zU qS qR ?_ ?_ | refine zQ qK qK ?_ | refine zBx 123 qR qS K83 qD (fun hg => ?_) (fun _ => ⟨of.getD i default, zAj c (l.getD k3 default).Code, rfl, rfl⟩) qS ?_ | exact rfl | exact qP | fail)
   (refine zE qS ?_ ?_ <;> intro hb <;> have hc := hb <;> (try simp only [bF] at hc) <;> (try (exfalso; simp at hc; done)))
   ·have hcl : clI c (l.getD k3 default) (l.getD i default) = true := by rw [clI, ← ho]; exact hb
    have hany : (l.take k3).any (clI c (l.getD k3 default)) = true := by
     rw [List.any_eq_true];refine ⟨l.getD i default, ?_, hcl⟩;apply List.mem_of_getElem? (i := i);rw [List.getElem?_take, if_pos hi, zz2, List.getElem?_eq_getElem (by omega)]; rfl
    rw [zKu hk (by rw [okI, hA, hany]; rfl)]
    repeat' (first | apply zC | apply zA | apply zB | refine zF qS qR ?_ ?_ | refine zI qR ?_ | exact zz0 | exact rfl | exact zAc.bool rfl | fail)
    all_goals skip
   ·have hcl : clI c (l.getD k3 default) (l.getD i default) = false := by rw [clI, ← ho]; exact hb
    repeat' (first | apply zG | apply zL | apply zA | apply zB | refine zF qS qR ?_ ?_ | refine zS (i+1,()) ?_ ?_ ⟨rfl, qL, qL⟩ | exact zz0 | exact rfl | omega)
    refine ⟨by simp only; omega, fun j hj => ?_⟩;by_cases hji : j = i
    ·subst hji; exact hcl
    ·exact p2 j (by simp only at hj; omega)
  have hany : (l.take k3).any (clI c (l.getD k3 default)) = false := by
   rw [List.any_eq_false];intro y hy;obtain ⟨j, hj⟩ := List.getElem?_of_mem hy;rw [List.getElem?_take] at hj;split at hj
   ·rename_i hjk
    have := p2 j (by omega);rw [zz2, zz2, hj] at this;rw [zz2, show clI c (l[k3]?.getD default) y = false from this]; simp
   ·cases hj
  refine zQ0 5 4 rfl rfl fun lb => ?_;refine zO 4 qS ?_
  repeat' (first | apply zC | apply zD | apply zA | apply zB | refine zF qS qR ?_ ?_ | refine zK qR ?_ | exact zz0 | exact rfl | exact qP | fail)
  refine zR (o' := .acc 76 5 (of ++ [zAj c (l.getD k3 default).Code]).length (fun i => zC7 ((of ++ [zAj c (l.getD k3 default).Code]).getD i default))) 3 qR (zA4 zC7 of (zAj c (l.getD k3 default).Code) rfl) ?_;refine zN [1, 2, 5, 8, 13, 14, 15, 66, 67, 68, 138, 139] (fun x : Nat × Unit => [(140, .int .i64 x.1)]) (fun x : Nat × Unit => []) (fun x : Nat × Unit => x.1 ≤ (zAj c (l.getD k3 default).Code).Needs.length ∧ ∀ j, j < x.1 → (zWd c ((zAj c (l.getD k3 default).Code).Needs.getD j default) || l.any fun y => y.Code == (zAj c (l.getD k3 default).Code).Needs.getD j default && decide (y.Term < (l.getD k3 default).Term)) = true) (fun x : Nat × Unit => (zAj c (l.getD k3 default).Code).Needs.length - x.1) (0, ()) (fun x => qS) ?_ qL qL ?_
  ·exact ⟨Nat.zero_le _, fun j h => absurd h (Nat.not_lt_zero j)⟩
  rintro ⟨i, _⟩ ⟨p1, p3⟩;simp only at p1 p3
  repeat' (first | apply zC | apply zA | apply zB | refine zF qS qR ?_ ?_ | exact zz0 | exact rfl | fail)
  (refine zE qS ?_ ?_ <;> intro hb <;> have hc := hb <;> (try simp only [bF] at hc) <;> (try (exfalso; simp at hc; done)))
  ·have hi : i < (zAj c (l.getD k3 default).Code).Needs.length := by assumption
   obtain ⟨nd, hnd⟩ : ∃ nd, nd = (zAj c (l.getD k3 default).Code).Needs.getD i default := ⟨_, rfl⟩;have hv : ∀ j, j < l.length → FnV Tryz.prog 84 [.fp [.str ((zAj c (l.getD k3 default).Code).Needs.getD i default)], .fp [.int .i64 (l.getD k3 default).Term, .str (l.getD k3 default).Code]] [zIh (l.getD j default)] (.bool ((l.getD j default).Code == (zAj c (l.getD k3 default).Code).Needs.getD i default && decide ((l.getD j default).Term < (l.getD k3 default).Term))) := fun j _ => ⟨_, K84, _, _, _, rfl, rfl⟩
   repeat' (first | refine zDv 6 qS ?_ | apply zC | apply zG | apply zD | apply zA | apply zB | refine zF (by simp only [go_sem, hdm]; rfl) qR ?_ ?_ | refine zV 149 qR (by simp only [go_sem, hdm]; rfl) K85 (by simp only [go_sem, hdm]; first | done | rfl) (fun hg => ?_) (fun _ => ⟨l, 84, _, (fun y => y.Code == (zAj c (l.getD k3 default).Code).Needs.getD i default && decide (y.Term < (l.getD k3 default).Term)), hv, rfl, rfl⟩) (by simp only [go_sem, hdm]; rfl) ?_ | refine zZq (by simp only [go_sem, hdm]; rfl) ?_ (by simp only [go_sem, hdm]; rfl) ?_ | exact zz0 | exact rfl | exact qP | fail)
   (refine zE qS ?_ ?_ <;> intro hb <;> have hc := hb <;> (try simp only [bF] at hc) <;> (try (exfalso; simp at hc; done)))
   ·have hb3 : (zWd c ((zAj c (l.getD k3 default).Code).Needs.getD i default) || l.any fun y => y.Code == (zAj c (l.getD k3 default).Code).Needs.getD i default && decide (y.Term < (l.getD k3 default).Term)) = false := by
     rw [← Bool.not_eq_true', Bool.not_or]; exact hb
    have hnp : zI8 c l (l.getD k3 default) (zAj c (l.getD k3 default).Code) = false := by
     rw [zI8, List.all_eq_false];refine ⟨(zAj c (l.getD k3 default).Code).Needs.getD i default, zAk hi, ?_⟩;rw [hb3]; simp
    rw [zKu hk (by rw [okI, hnp, Bool.and_false])]
    repeat' (first | apply zC | apply zA | apply zB | refine zF qS qR ?_ ?_ | refine zI qR ?_ | exact zz0 | exact rfl | exact zAc.bool rfl | fail)
    all_goals skip
   ·have hb3 : (zWd c ((zAj c (l.getD k3 default).Code).Needs.getD i default) || l.any fun y => y.Code == (zAj c (l.getD k3 default).Code).Needs.getD i default && decide (y.Term < (l.getD k3 default).Term)) = true := by
     have h4 : (!zWd c ((zAj c (l.getD k3 default).Code).Needs.getD i default) && !(l.any fun y => y.Code == (zAj c (l.getD k3 default).Code).Needs.getD i default && decide (y.Term < (l.getD k3 default).Term))) = false := hb;rw [← Bool.not_or, Bool.not_eq_false'] at h4;exact h4
    repeat' (first | apply zG | apply zL | apply zA | apply zB | refine zF qS qR ?_ ?_ | refine zS (i+1,()) ?_ ?_ ⟨rfl, qL, qL⟩ | exact zz0 | exact rfl | omega)
    refine ⟨by simp only; omega, fun j hj => ?_⟩;by_cases hji : j = i
    ·subst hji; exact hb3
    ·exact p3 j (by simp only at hj; omega)
  ·have hnp : zI8 c l (l.getD k3 default) (zAj c (l.getD k3 default).Code) = true := by
    rw [zI8, List.all_eq_true];intro n hn;obtain ⟨j, hj⟩ := List.getElem?_of_mem hn;have hjl := (List.getElem?_eq_some_iff.1 hj).1;have := p3 j (by omega);rw [zz2, hj] at this;exact this
   repeat' (first | apply zL | apply zA | apply zB | refine zF qS qR ?_ ?_ | refine zK qR ?_ | exact zz0 | exact rfl | fail)
   refine zS (k3 + 1, of ++ [zAj c (l.getD k3 default).Code]) ?_ ?_ ⟨rfl, qL, qL⟩
   ·refine ⟨⟨by simp only; omega, by simp [r2]⟩, fun j hj => ?_, fun j hj => ?_⟩
    ·by_cases hjk : j = k3
     ·subst hjk; rw [okI, hA, hany, hnp]; rfl
     ·exact r3 j (by simp only at hj; omega)
    ·simp only at hj ⊢
     by_cases hjk : j < k3
     ·rw [zz2, List.getElem?_append_left (by omega), ← zz2]; exact r4 j hjk
     ·have : j = k3 := by omega
      subst this;rw [zz2, List.getElem?_append_right (by omega), r2, Nat.sub_self]; rfl
   ·simp only; omega
 ·have hall : zTm c l = true := by
   rw [zTm, List.all_eq_true];exact fun j hj => r3 j (by have := List.mem_range.1 hj; omega)
  rw [hall]
  repeat' (first | apply zC | apply zA | apply zB | refine zF qS qR ?_ ?_ | refine zI qR ?_ | refine zK qR ?_ | exact zz0 | exact rfl | exact zAc.bool rfl | fail)
  all_goals skip
end Go.Sx
