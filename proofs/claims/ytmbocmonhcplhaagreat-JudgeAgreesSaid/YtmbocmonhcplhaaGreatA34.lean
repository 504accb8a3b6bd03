/- Part of the proof that the laws of the judge return true for every input: A31, A32, A33, A34. -/
import Derived.Test.YtmbocmonhcplhaaGreatA29
import Derived.Test.YtmbocmonhcplhaaGreatJ25
import Derived.Test.YtmbocmonhcplhaaGreatS4
import Derived.Test.YtmbocmonhcplhaaGreatJ59
import Derived.Test.YtmbocmonhcplhaaGreatA3
import Derived.Test.YtmbocmonhcplhaaGreatJ70
set_option linter.all false
namespace Go.Sx
open Go.Proofs Go.RowKit
def zK8 (p : Programme) (day : Int) : List Ach → Nat → List Int
 | [], _ => []
 | a :: r, k => if zA9 p day a then zK8 p day r (k + 1) else (k : Int) :: zK8 p day r (k + 1)
noncomputable def gD (p : Programme) (s : Scale) (y : List Ach) (at' : List Int) (day : Int) (m : Nat) : Option (List Int × List Int) :=
 if (tgF p day (zAz y (zCu m)) && (lvF p.Need s y m (m + 1) ([], false)).2) = true then some (zAz at' (zCu m), (lvF p.Need s y m (m + 1) ([], false)).1) else none
noncomputable def zCa (p : Programme) (s : Scale) (l : List Ach) (day : Int) : Option (List Int × List Int) × Int :=
 if zHf 4 p ≠ 0 then (none, zHf 4 p) else if zBh s = false then (none, 10) else if 10 < (zA7 p day l).length then (none, 2) else
  match zZ5 (gD p s (zA7 p day l) (zK8 p day l 0) day) (zA7 p day l).length with
  | some u => (some u, 0)
  | none => (none, 31)
theorem zMi (p : Programme) (day : Int) : ∀ (r : List Ach) (k : Nat) (x : Int), x ∈ zK8 p day r k → (k : Int) ≤ x ∧ x < (k : Int) + (r.length : Int)
 | [], _, _, h => by cases h
 | a :: r, k, x, h => by
  have hl : ((a :: r).length : Int) = (r.length : Int) + 1 := by simp
  rw [zK8] at h;rw [hl];split at h
  ·have := zMi p day r (k + 1) x h; omega
  ·rcases List.mem_cons.1 h with rfl | h
   ·omega
   ·have := zMi p day r (k + 1) x h; omega
theorem zPu (p : Programme) (day : Int) : ∀ (r : List Ach) (k : Nat), (zK8 p day r k).length = (zA7 p day r).length
 | [], _ => rfl
 | a :: r, k => by
  rw [zK8, zA7, List.filter_cons];have := zPu p day r (k + 1);rw [zA7] at this;cases zA9 p day a
  ·simp [this]
  ·simp [this]
theorem zMh (p : Programme) (day : Int) (l : List Ach) : ∀ (r : List Ach) (k : Nat), l.drop k = r → zAz l (zK8 p day r k) = zA7 p day r
 | [], _, _ => rfl
 | a :: r, k, h => by
  have hk : k < l.length := by
   rcases Nat.lt_or_ge k l.length with h1 | h1
   ·exact h1
   ·rw [List.drop_eq_nil_of_le h1] at h; cases h
  rw [zAv _ _ hk] at h;obtain ⟨h1, h2⟩ := List.cons.inj h;have := zMh p day l r (k + 1) h2;rw [zK8, zA7, List.filter_cons];rw [zA7] at this;cases zA9 p day a
  ·simp only [Bool.not_false, if_true, Bool.false_eq_true, if_false]
   rw [← this, zAz, List.map_cons, Int.toNat_natCast, h1];rfl
  ·simp only [Bool.not_true, Bool.false_eq_true, if_false, if_true]
   exact this
theorem zZ1 (n : Need) (s : Scale) (l : List Ach) (m : Nat) : ∀ (k : Nat) (b : List Int × Bool), (lvF n s l m k b).2 = true ↔ b.2 = true ∨ ∃ sub, sub < k ∧ zBo sub m = 0 ∧ zPh s l 4 n sub = true
 | 0, b => by simp [lvF]
 | k + 1, b => by
  rw [lvF, zZ1 n s l m k]
  have hs : (lvS n s l m k b).2 = true ↔ b.2 = true ∨ (zBo k m = 0 ∧ zPh s l 4 n k = true) := by
   unfold lvS;by_cases hc : zBo k m ≠ 0 ∨ zPh s l 4 n k = false
   ·rw [if_pos hc]
    constructor
    ·exact .inl
    ·rintro (h | ⟨h1, h2⟩)
     ·exact h
     ·rcases hc with hc | hc
      ·exact absurd h1 hc
      ·rw [h2] at hc; cases hc
   ·rw [if_neg hc]
    have h2 : zBo k m = 0 ∧ zPh s l 4 n k = true := by
     simp only [not_or, ne_eq, Decidable.not_not, Bool.not_eq_false] at hc;exact hc
    split
    ·simp [h2]
    ·rename_i hn
     simp only [not_or, Bool.not_eq_false] at hn;simp [hn.1]
  rw [hs, or_assoc];refine or_congr_right ⟨?_, ?_⟩
  ·rintro (⟨h1, h2⟩ | ⟨sub, h1, h2, h3⟩)
   ·exact ⟨k, Nat.lt_succ_self k, h1, h2⟩
   ·exact ⟨sub, by omega, h2, h3⟩
  ·rintro ⟨sub, h1, h2, h3⟩
   rcases Nat.lt_or_ge sub k with h | h
   ·exact .inr ⟨sub, h, h2, h3⟩
   ·obtain rfl : sub = k := by omega
    exact .inl ⟨h2, h3⟩
theorem zWf {p : Programme} {s : Scale} {y : List Ach} {at' : List Int} {day : Int} {m : Nat} (hm : m < 1024) : (gD p s y at' day m).isSome = true ↔ yFu 4 p s y day m := by
 unfold gD yFu
 have h := zZ1 p.Need s y m (m + 1) ([], false)
 simp only [Bool.false_eq_true, false_or] at h
 have h2 : (∃ sub, sub < m + 1 ∧ zBo sub m = 0 ∧ zPh s y 4 p.Need sub = true) ↔ ∃ sub, sub ≤ m ∧ sub &&& m = sub ∧ zPh s y 4 p.Need sub = true :=
  ⟨fun ⟨sub, a, b, c⟩ => ⟨sub, by omega, (zKb (by omega)).1 b, c⟩, fun ⟨sub, a, b, c⟩ => ⟨sub, by omega, (zKb (by omega)).2 b, c⟩⟩
 rw [← h2, ← h]
 split
 ·rename_i hc
  rw [zz3] at hc;simp [hc]
 ·rename_i hc
  rw [zz3] at hc
  constructor
  ·intro h; cases h
  ·intro h; exact absurd h hc
theorem zVf (l : List Ach) (at' js : List Int) (h : ∀ k ∈ js, 0 ≤ k ∧ k < (at'.length : Int)) : zAz l (zAz at' js) = zAz (zAz l at') js := by
 unfold zAz
 rw [List.map_map]
 refine List.map_congr_left fun k hk => ?_
 have := h k hk
 have hk2 : k.toNat < at'.length := by omega
 simp only [Function.comp, zz2, List.getElem?_map, List.getElem?_eq_getElem hk2, Option.map_some, Option.getD_some]
theorem zP0 {m k : Nat} (hm : m < 2 ^ k) : ∀ x ∈ zCu m, 0 ≤ x ∧ x < (k : Int) := fun x hx => by
 unfold zCu at hx
 obtain ⟨j, hj, rfl⟩ := List.mem_map.1 hx
 have := zFp hm (List.mem_filter.1 hj).2
 omega
theorem zTk {p : Programme} {s : Scale} {l : List Ach} {day : Int} (hp : POk 4 p) :
  zGq 4 p s l day = decide ((zCa p s l day).2 = 0) ∧ (((zCa p s l day).1 = none ∧ (zCa p s l day).2 ≠ 0) ∨ ∃ tk lf, zCa p s l day = (some (tk, lf), 0) ∧ (tk.length ≤ 10 ∧ ∀ k ∈ tk, 0 ≤ k ∧ k < (l.length : Int)) ∧ pw pair (zAz l tk) = true ∧ zGq 4 p s (zAz l tk) day = true) := by
 unfold zCa
 by_cases h1 : zHf 4 p ≠ 0
 ·rw [if_pos h1]
  refine ⟨?_, .inl ⟨rfl, h1⟩⟩;rw [decide_eq_false h1, zGq, decide_eq_false h1]; rfl
 rw [if_neg h1]
 have h1 : zHf 4 p = 0 := Decidable.not_not.1 h1
 by_cases h2 : zBh s = false
 ·rw [if_pos h2]
  refine ⟨?_, .inl ⟨rfl, by decide⟩⟩;rw [zGq, h2]; simp
 rw [if_neg h2]
 have h2 : zBh s = true := by simpa using h2
 have hd := yCm (l := l) (day := day) hp h1 h2
 by_cases h3 : 10 < (zA7 p day l).length
 ·rw [if_pos h3]
  refine ⟨?_, .inl ⟨rfl, by decide⟩⟩;cases hx : zGq 4 p s l day
  ·rfl
  ·have := (hd.1 hx).1; omega
 rw [if_neg h3]
 have h3 : (zA7 p day l).length ≤ 10 := by omega
 have hM : 2 ^ (zA7 p day l).length ≤ 1024 := Nat.pow_le_pow_right (n := 2) (by omega) h3
 obtain ⟨q1, q2⟩ := zZr h3
 have hmem : ∀ x, x ∈ zNl (List.range (2 ^ (zA7 p day l).length)) ↔ x < 2 ^ (zA7 p day l).length := fun x => by rw [(zQx q1).mem_iff, List.mem_range]
 cases hf : zZ5 (gD p s (zA7 p day l) (zK8 p day l 0) day) (zA7 p day l).length with
 | none =>
  show zGq 4 p s l day = decide ((31 : Int) = 0) ∧ (((none : Option (List Int × List Int)) = none ∧ (31 : Int) ≠ 0) ∨ _);refine ⟨?_, .inl ⟨rfl, by decide⟩⟩;cases hx : zGq 4 p s l day
  ·rfl
  ·obtain ⟨_, m, hm, hfnd⟩ := hd.1 hx
   have hg := (zWf (at' := zK8 p day l 0) (show m < 1024 by omega)).2 hfnd;have := List.findSome?_eq_none_iff.1 hf m ((hmem m).2 hm);rw [this] at hg; cases hg
 | some u =>
  show zGq 4 p s l day = decide ((0 : Int) = 0) ∧ (((some u : Option (List Int × List Int)) = none ∧ (0 : Int) ≠ 0) ∨ ∃ tk lf, ((some u : Option (List Int × List Int)), (0 : Int)) = (some (tk, lf), 0) ∧ _);obtain ⟨m, hm, hg⟩ := List.exists_of_findSome?_eq_some hf;have hm2 := (hmem m).1 hm;have hfnd := (zWf (p := p) (s := s) (y := zA7 p day l) (at' := zK8 p day l 0) (day := day) (show m < 1024 by omega)).1 (by rw [hg]; rfl)
  have hu : u.1 = zAz (zK8 p day l 0) (zCu m) := by
   unfold gD at hg;split at hg
   ·cases hg; rfl
   ·cases hg
  have hil := zPu p day l 0;have hjs : ∀ k ∈ zCu m, 0 ≤ k ∧ k < ((zK8 p day l 0).length : Int) := by rw [hil]; exact zP0 hm2
  have hpk : zAz l u.1 = zAz (zA7 p day l) (zCu m) := by rw [hu, zVf l _ _ hjs, zMh p day l l 0 rfl]
  have ht := zWm hp h1 h2 h3 zKo hm2 hfnd;rw [← hpk] at ht;refine ⟨?_, .inr ⟨u.1, u.2, rfl, ⟨?_, fun k hk => ?_⟩, ht.1, ht.2⟩⟩
  ·rw [hd.2 ⟨h3, m, hm2, hfnd⟩]; rfl
  ·rw [hu, zH6]; exact zMo m
  ·rw [hu] at hk
   obtain ⟨j, hj, rfl⟩ := List.mem_map.1 hk;have h5 := hjs j hj;have h6 := zMi p day l 0 _ (zAk (l := zK8 p day l 0) (i := j.toNat) (by omega));omega
end Go.Sx
namespace Go.Sx
theorem yAp {P : Program} {F : List Nat} {w0 : Base} {fin : Exit → Act → World → Prop} {k : List It} {s : St} {g : Operand} {ps : Array Nat} {ac bd : Code} (ks : List Nat) (X : LR → Hp → List Nat → Prop)
  (hY : ∀ (h0 : Hp) (bl : List Nat) (r : LR), r.ps = ps → r.as = ac → r.bd = bd → r.tm.size = s.n → (∀ h e, Le h0 h → (∀ (i b : Nat), bl[i]? = some b → e.bs (1000 + i) = b) → ∀ t, rep h (lkp (yDi s ks) t) e (r.tm.getD t undef)) → bl.length = ks.length + 1 → X r h0 bl)
  (hn : (∀ (h0 : Hp) (bl : List Nat) (r : LR), r.ps = ps → r.as = ac → r.bd = bd → r.tm.size = s.n → (∀ h e, Le h0 h → (∀ (i b : Nat), bl[i]? = some b → e.bs (1000 + i) = b) → ∀ t, rep h (lkp (yDi s ks) t) e (r.tm.getD t undef)) → bl.length = ks.length + 1 → X r h0 bl) → Run P F w0 fin (.code (.rangeFunc g ps ac bd) :: k) s) : Run P F w0 fin (.code (.rangeFunc g ps ac bd) :: k) s := hn hY
open Go.Proofs Go.RowKit
attribute [local irreducible] Run zAi zAy OpT zAc SLe OLe
set_option maxHeartbeats 2000000
set_option maxRecDepth 8000
set_option maxHeartbeats 40000000
@[go_sem] def useC : Option (List Int × List Int) → List SD
 | none => [.nils, .nils]
 | some u => [ints u.1, ints u.2]
theorem K19 : FnOK Tryz.prog 19 (fun ds d => ∃ (p : Programme) (s : Scale) (l : List Ach) (day : Int), (POk 4 p ∧ l.length ≤ 1000) ∧ ds = [zEs p, zDm s, zAo 8 zBp l, eInt day] ∧ d = .tup [.agg (useC (zCa p s l day).1), eInt (zCa p s l day).2]) := by
 refine zOp Tryz.call19 Tryz.func19 rfl Tryz.ntmps19 ?_
 rintro ds v ⟨p, s, l, day, ⟨hp, hl⟩, rfl, rfl⟩
 refine ⟨by simp, fun w0 => ?_⟩
 obtain ⟨E, hE⟩ : ∃ E, (if (zHf 4 p != 0) = true then zHf 4 p else if zBh s = true then 0 else 10) = E := ⟨_, rfl⟩
 have K58v : FnOK Tryz.prog 58 (fun ds v => ∃ _ : Unit, ds = [zEs p, zDm s] ∧ v = eInt E) := (K58 4 (by omega)).weaken fun ds v ⟨_, e1, e2⟩ => ⟨p, s, hp, e1, by rw [e2, hE]⟩
 by_cases hE0 : E = 0
 ·subst hE0
  have hck : zHf 4 p = 0 := by
   by_cases h : zHf 4 p = 0
   ·exact h
   ·rw [if_pos (by simpa using h)] at hE
    exact absurd hE h
  have hs : zBh s = true := by
   cases h : zBh s
   ·rw [hck, h] at hE
    simp at hE
   ·rfl
  have hdl : 10 < (zA7 p day l).length → zCa p s l day = (none, 2) := fun h => by
   unfold zCa;rw [if_neg (by simp [hck]), if_neg (by rw [hs]; simp), if_pos h]
  have hdn : ¬ 10 < (zA7 p day l).length → zZ5 (gD p s (zA7 p day l) (zK8 p day l 0) day) (zA7 p day l).length = none → zCa p s l day = (none, 31) := fun h hf => by
   unfold zCa;rw [if_neg (by simp [hck]), if_neg (by rw [hs]; simp), if_neg h, hf]
  have hds : ∀ u, ¬ 10 < (zA7 p day l).length → zZ5 (gD p s (zA7 p day l) (zK8 p day l 0) day) (zA7 p day l).length = some u → zCa p s l day = (some u, 0) := fun u h hf => by
   unfold zCa;rw [if_neg (by simp [hck]), if_neg (by rw [hs]; simp), if_neg h, hf]
  have f0 : ((0 : Int) != 0) = false := rfl
  repeat' (first | apply zC | apply zA | apply zB | refine zF (by simp only [go_sem, f0]; rfl) qR ?_ ?_ | refine zN4 rfl zOw ?_ | refine zM K58v (by simp only [go_sem, f0]; first | done | rfl) ?_ ⟨(), rfl, rfl⟩ (by simp only [go_sem, f0]; rfl) ?_ | exact zz0 | exact rfl | fail)
  (refine zE qS ?_ ?_ <;> intro hb <;> have hc := hb <;> (try simp only [bF] at hc) <;> (try (exfalso; simp at hc; done)))
  repeat' (first | apply zC | apply zG | apply zD | apply zA | apply zB | refine zF qS qR ?_ ?_ | exact zz0 | exact rfl | fail)
  refine zC9 5 0 3 1 (fun i => eInt (([] : List Int).getD i default)) rfl rfl (by simp only [List.set]; rfl) rfl ?_;refine zN [2, 4, 5, 7, 8, 9, 11, 28, 29] (fun x : Nat × List Int => [(30, .int .i64 x.1)]) (fun x : Nat × List Int => [(6, .acc 3 1 x.2.length (fun i => eInt (x.2.getD i default)))]) (fun x : Nat × List Int => (x.1 ≤ l.length ∧ x.2.length ≤ x.1) ∧ zK8 p day l 0 = x.2 ++ zK8 p day (l.drop x.1) x.1) (fun x : Nat × List Int => l.length - x.1) (0, []) (fun x => qS) ?_ qL qL ?_
  ·exact ⟨⟨Nat.zero_le _, Nat.le_refl _⟩, rfl⟩
  rintro ⟨k, acc⟩ ⟨⟨g1, g2⟩, g3⟩;simp only at g1 g2 g3
  repeat' (first | apply zC | apply zA | apply zB | refine zF qS qR ?_ ?_ | exact zz0 | exact rfl | fail)
  (refine zE qS ?_ ?_ <;> intro hb <;> have hc := hb <;> (try simp only [bF] at hc) <;> (try (exfalso; simp at hc; done)))
  ·have hk : k < l.length := by omega
   rw [zAv _ _ hk, zK8] at g3
   repeat' (first | apply zC | apply zG | apply zD | apply zA | apply zB | refine zF qS qR ?_ ?_ | refine zM K59 qD ?_ ⟨p, _, day, rfl, rfl⟩ qS ?_ | exact zz0 | exact rfl | exact qP | fail)
   (refine zE qS ?_ ?_ <;> intro hb <;> have hc := hb <;> (try simp only [bF] at hc) <;> (try (exfalso; simp at hc; done)))
   ·have ho : zA9 p day (l.getD k default) = false := by simpa using hb
    rw [ho, if_neg (by simp)] at g3
    repeat' (first | apply zL | apply zA | apply zB | refine zF qS qR ?_ ?_ | exact zz0 | exact rfl | exact qP | fail)
    refine zR (o' := .acc 3 1 (acc ++ [(k : Int)]).length fun i => eInt ((acc ++ [(k : Int)]).getD i default)) 6 qR (zA4 eInt acc _ rfl) ?_;refine zS (k + 1, acc ++ [(k : Int)]) ?_ ?_ ⟨rfl, qL, qL⟩
    ·exact ⟨⟨by simp only; omega, by simp; omega⟩, by rw [g3]; simp⟩
    ·simp only; omega
   ·have ho : zA9 p day (l.getD k default) = true := by simpa using hb
    rw [ho, if_pos rfl] at g3
    repeat' (first | apply zG | apply zL | apply zA | apply zB | refine zF qS qR ?_ ?_ | exact zz0 | exact rfl | fail)
    refine zS (k + 1, acc) ?_ ?_ ⟨rfl, qL, qL⟩
    ·exact ⟨⟨by simp only; omega, by simp only; omega⟩, g3⟩
    ·simp only; omega
  have hkd : l.drop k = [] := List.drop_eq_nil_of_le (by omega);rw [hkd, zK8, List.append_nil] at g3;have hil := zPu p day l 0;have hmm := zMi p day l 0;have hpk := zMh p day l l 0 rfl;rw [g3] at hil hmm hpk hdn hds;have hfo : ∀ a ∈ zA7 p day l, zA9 p day a = false := zKo;generalize zA7 p day l = y at hil hpk hdl hdn hds hfo
  repeat' (first | apply zC | apply zA | apply zB | refine zF qS qR ?_ ?_ | refine zK qR ?_ | exact zz0 | exact rfl | fail)
  (refine zE qS ?_ ?_ <;> intro hb <;> have hc := hb <;> (try simp only [bF] at hc) <;> (try (exfalso; simp at hc; done)))
  ·have hly : 10 < y.length := by omega
   rw [hdl hly]
   repeat' (first | apply zC | apply zA | apply zB | refine zF qS qR ?_ ?_ | exact zz0 | exact rfl | fail)
   refine zQz qR qS ?_;exact zAc.le qZ (SLe.refl _)
  have hly : ¬ 10 < y.length := by omega
  have hK60 : FnOK Tryz.prog 60 (fun ds d => ∃ _ : Unit, ds = [zAo 8 zBp l, ints acc] ∧ d = zAo 8 zBp y) := K60.weaken fun ds d ⟨_, e1, e2⟩ => ⟨l, acc, ⟨by omega, fun x hx => by have := hmm x hx; omega⟩, e1, by rw [e2, hpk]⟩;have hq := QOk.of hp hck;have hM : 2 ^ y.length ≤ 1024 := Nat.pow_le_pow_right (n := 2) (by omega) (show y.length ≤ 10 by omega)
  repeat' (first | refine zO 6 qS ?_ | refine zO 5 qS ?_ | refine zO 0 qS ?_ | refine zO 1 qS ?_ | refine zO 2 qS ?_ | refine zO 7 qS ?_ | apply zC | apply zG | apply zA | apply zB | refine zF (by simp only [go_sem, f0]; rfl) qR ?_ ?_ | refine zM hK60 (by simp only [go_sem, f0]; first | done | rfl) ?_ ⟨(), rfl, rfl⟩ (by simp only [go_sem, f0]; rfl) ?_ | refine zM K61 (by simp only [go_sem, f0]; first | done | rfl) ?_ ⟨p.Need, s, y, ⟨hq, by omega⟩, rfl, rfl⟩ (by simp only [go_sem, f0]; rfl) ?_ | exact zz0 | exact rfl | fail)
  (refine zE qS ?_ ?_ <;> intro hb <;> have hc := hb <;> (try simp only [bF] at hc) <;> (try (exfalso; simp at hc; done)))
  repeat' (first | refine zO 8 qS ?_ | apply zC | apply zG | apply zD | apply zA | apply zB | refine zF qS qR ?_ ?_ | apply zUw | refine zM K62 qD ?_ ⟨_, rfl, rfl⟩ qS ?_ | exact zz0 | exact rfl | fail)
  refine zAr [4, 5, 7, 8, 9, 11, 14, 15, 66] qS ?_;refine yAp [3, 4] (fun r h1 bl => YD r bl h1 (gD p s y acc day) (2 ^ y.length)) (fun h1 bl r hps has hbd htm hsl hbl1 => ?Y) (fun hY => ?rest)
  case rest =>
   cases hf : zZ5 (gD p s y acc day) y.length with
   | none =>
    rw [hdn hly hf];refine zEl [3, 4] (gf := 121) (os := [oU0, oEr]) (osu' := [oU0, oEr]) (pe := none) rfl qS qR qR qR qR (fun r K => by rfl) (fun h1 bl r hps has hbd htm hbl1 hle hfx hsl => ?hit) (fun r K => by simp only [go_sem]; rfl) (fun r K => by rfl) (fun r K => ?hk)
    case hk =>
     refine zUn (s' := ?_) qS ?_;simp only [zY3];change Run _ _ ⟨w0, none, [{ target := .collected K, args := #[] }]⟩ _ _ _
     repeat' (first | apply zC | apply zL | apply zA | apply zB | refine zF qS qR ?_ ?_ | exact zz0 | exact rfl | fail)
     refine zJ9 9 K qR qR qS ?_;exact zAc.le qZ (SLe.refl _)
    case hit =>
     refine (K121 r h1 bl (by simpa using hbl1) (gD p s y acc day) y.length (by omega) (hY h1 bl r hps has hbd htm hsl hbl1)).weaken ?_;rintro ds os d os' ⟨rfl, rfl, rfl, rfl⟩;exact ⟨(), rfl, rfl, rfl, by rw [hf]; rfl⟩
   | some u =>
    rw [hds u hly hf];refine zEl [3, 4] (gf := 121) (os := [oU0, oEr]) (osu' := [oU u, oEr]) (pe := some .ret) rfl qS qR qR qR qR (fun r K => by rfl) (fun h1 bl r hps has hbd htm hbl1 hle hfx hsl => ?hit2) (fun r K => by simp only [go_sem]; rfl) (fun r K => by rfl) (fun r K => ?hk2)
    case hk2 =>
     refine zUn (s' := ?_) qS ?_;simp only [zY3];change Run _ _ ⟨w0, none, [{ target := .collected K, args := #[] }]⟩ _ _ _;refine zJ9 9 K qR qR qS ?_;exact zAc.le qZ (SLe.refl _)
    case hit2 =>
     refine (K121 r h1 bl (by simpa using hbl1) (gD p s y acc day) y.length (by omega) (hY h1 bl r hps has hbd htm hsl hbl1)).weaken ?_;rintro ds os d os' ⟨rfl, rfl, rfl, rfl⟩;exact ⟨(), rfl, rfl, rfl, by rw [hf]; rfl⟩
  case Y =>
   obtain ⟨c0, c1, c2, rfl⟩ : ∃ b0 b1 b2, bl = [b0, b1, b2] := by
    match bl, hbl1 with
    | [b0, b1, b2], _ => exact ⟨b0, b1, b2, rfl⟩
   refine zNo r [(4, .fp (zEy p)), (5, .fp (scC s)), (7, .fp [.int .i64 day]), (8, .loc 1000 0), (9, .loc 1001 0), (11, .fp [ints acc]), (14, .fp [zAo 8 zBp y]), (15, .fp [.list 1 (2 ^ y.length) fun i => .bool (zPh s y 4 p.Need i)]), (66, .fn 121 [.fp [.int .i64 (y.length : Nat)]])] 93 r.l rfl htm (by rw [hps]; simp) (fun h e hl hb t => hsl h e hl hb t) ?_;clear hsl hdl hdn hds hmm hfo hK60 K58v hpk;rintro ds os v os' ⟨m, hm, rfl, rfl, rfl, rfl⟩;have hjs2 : ∀ k ∈ zCu m, 0 ≤ k ∧ k < (acc.length : Int) := by rw [hil]; exact zP0 hm
   have hml := zMo m;have hjs := zP0 hm;have hm2 : m < 1024 := by omega
   have hpl : (zAz y (zCu m)).length ≤ 1000 := by rw [zH6]; omega
   cases htg : tgF p day (zAz y (zCu m))
   ·have hg : gD p s y acc day m = none := by unfold gD; rw [htg]; rfl
    rw [hg];refine ⟨[oU0, oEr], [oU0, oEr], none, ?_, rfl, rfl, rfl, rfl, rfl, by rw [hps]; rfl, fun F w0 han2 => ?_, ?_, fun F w0 han2 => ?_⟩;rotate_left
    ·rw [has, hps]
     change Run _ F _ _ _ ⟨93, 0, upd _ 67 (eInt (m : Nat)), _⟩
     repeat' (first | apply zA | apply zB | refine zF qS qR ?_ ?_ | exact zz0 | exact rfl | fail)
     exact zJi
    ·rfl
    ·rw [hbd]
     repeat' (first | apply zC | apply zD | apply zA | apply zP | apply zB | refine zF (by simp only [go_sem, zC4, htg]; rfl) qR ?_ ?_ | refine zU (by simp only [go_sem, zC4, htg]; rfl) qR ?_ ?_ | refine zQ qK qK ?_ | refine zM K63 (by simp only [go_sem, zC4, htg]; first | done | rfl) ?_ ⟨m, hm2, rfl, rfl⟩ (by simp only [go_sem, zC4, htg]; rfl) ?_ | refine zX K60 (by simp only [go_sem, zC4, htg]; first | done | rfl) ?_ ⟨y, zCu m, ⟨by omega, hjs⟩, rfl, rfl⟩ (by simp only [go_sem, zC4, htg]; rfl) ?_ | refine zX K64 (by simp only [go_sem, zC4, htg]; first | done | rfl) ?_ ⟨p, zAz y (zCu m), day, hpl, rfl, rfl⟩ (by simp only [go_sem, zC4, htg]; rfl) ?_ | exact zz0 | exact rfl | fail)
     (refine zE qS ?_ ?_ <;> intro hb <;> have hc := hb <;> (try simp only [bF] at hc) <;> (try (exfalso; simp at hc; done)))
     repeat' (first | refine zK qR ?_ | fail)
     refine zE9 ?_;show zC2 _ (zB6 1000 [oU0, oEr, zEu r .busy none])
     (show zC2 _ _; simp only [go_sem]; repeat' (first | exact SLe.any1 | exact trivial | exact zz0 | exact SLe.refl _ | exact OLe.refl _ | exact ⟨_, rfl, OLe.refl _⟩ | refine ⟨_, rfl, ?_⟩ | refine OLe.var ?_ | (show zAh _ _; refine ⟨?_, ?_⟩) | (show zAh [] []; exact zz0) | (refine SLe.int ?_; rw [w64]; omega) | refine SLe.int ?_ | refine SLe.bool ?_ | apply And.intro))
   ·cases hlv : (lvF p.Need s y m (m + 1) ([], false)).2
    ·have hg : gD p s y acc day m = none := by unfold gD; rw [htg, hlv]; rfl
     rw [hg];refine ⟨[oU0, oEr], [oU0, oEr], none, ?_, rfl, rfl, rfl, rfl, rfl, by rw [hps]; rfl, fun F w0 han2 => ?_, ?_, fun F w0 han2 => ?_⟩;rotate_left
     ·rw [has, hps]
      change Run _ F _ _ _ ⟨93, 0, upd _ 67 (eInt (m : Nat)), _⟩
      repeat' (first | apply zA | apply zB | refine zF qS qR ?_ ?_ | exact zz0 | exact rfl | fail)
      exact zJi
     ·rfl
     ·rw [hbd]
      repeat' (first | apply zC | apply zD | apply zA | apply zP | apply zB | refine zF (by simp only [go_sem, zC4, htg]; rfl) qR ?_ ?_ | refine zU (by simp only [go_sem, zC4, htg]; rfl) qR ?_ ?_ | refine zQ qK qK ?_ | refine zM K63 (by simp only [go_sem, zC4, htg]; first | done | rfl) ?_ ⟨m, hm2, rfl, rfl⟩ (by simp only [go_sem, zC4, htg]; rfl) ?_ | refine zX K60 (by simp only [go_sem, zC4, htg]; first | done | rfl) ?_ ⟨y, zCu m, ⟨by omega, hjs⟩, rfl, rfl⟩ (by simp only [go_sem, zC4, htg]; rfl) ?_ | refine zX K64 (by simp only [go_sem, zC4, htg]; first | done | rfl) ?_ ⟨p, zAz y (zCu m), day, hpl, rfl, rfl⟩ (by simp only [go_sem, zC4, htg]; rfl) ?_ | exact zz0 | exact rfl | fail)
      (refine zE qS ?_ ?_ <;> intro hb <;> have hc := hb <;> (try simp only [bF] at hc) <;> (try (exfalso; simp at hc; done)))
      repeat' (first | apply zC | apply zG | apply zA | apply zB | refine zF (by simp only [go_sem, zC4, hlv]; rfl) qR ?_ ?_ | refine zM K65 (by simp only [go_sem, zC4, hlv]; first | done | rfl) ?_ ⟨p, s, y, m, ⟨hp, hck, by omega, hm⟩, rfl, rfl⟩ (by simp only [go_sem, zC4, hlv]; rfl) ?_ | exact zz0 | exact rfl | fail)
      (refine zE qS ?_ ?_ <;> intro hb <;> have hc := hb <;> (try simp only [bF] at hc) <;> (try (exfalso; simp at hc; done)))
      repeat' (first | apply zG | apply zL | fail)
      refine zE9 ?_;show zC2 _ (zB6 1000 [oU0, oEr, zEu r .busy none])
      (show zC2 _ _; simp only [go_sem]; repeat' (first | exact SLe.any1 | exact trivial | exact zz0 | exact SLe.refl _ | exact OLe.refl _ | exact ⟨_, rfl, OLe.refl _⟩ | refine ⟨_, rfl, ?_⟩ | refine OLe.var ?_ | (show zAh _ _; refine ⟨?_, ?_⟩) | (show zAh [] []; exact zz0) | (refine SLe.int ?_; rw [w64]; omega) | refine SLe.int ?_ | refine SLe.bool ?_ | apply And.intro))
    ·have hg : gD p s y acc day m = some (zAz acc (zCu m), (lvF p.Need s y m (m + 1) ([], false)).1) := by unfold gD; rw [htg, hlv]; rfl
     rw [hg];refine ⟨[oU0, oEr], [oU (zAz acc (zCu m), (lvF p.Need s y m (m + 1) ([], false)).1), oEr], some .ret, ?_, rfl, rfl, rfl, rfl, rfl, by rw [hps]; rfl, fun F w0 han2 => ?_, ?_, fun F w0 han2 => ?_⟩;rotate_left
     ·rw [has, hps]
      change Run _ F _ _ _ ⟨93, 0, upd _ 67 (eInt (m : Nat)), _⟩
      repeat' (first | apply zA | apply zB | refine zF qS qR ?_ ?_ | exact zz0 | exact rfl | fail)
      exact zJi
     ·rfl
     ·rw [hbd]
      repeat' (first | apply zC | apply zD | apply zA | apply zP | apply zB | refine zF (by simp only [go_sem, zC4, htg]; rfl) qR ?_ ?_ | refine zU (by simp only [go_sem, zC4, htg]; rfl) qR ?_ ?_ | refine zQ qK qK ?_ | refine zM K63 (by simp only [go_sem, zC4, htg]; first | done | rfl) ?_ ⟨m, hm2, rfl, rfl⟩ (by simp only [go_sem, zC4, htg]; rfl) ?_ | refine zX K60 (by simp only [go_sem, zC4, htg]; first | done | rfl) ?_ ⟨y, zCu m, ⟨by omega, hjs⟩, rfl, rfl⟩ (by simp only [go_sem, zC4, htg]; rfl) ?_ | refine zX K64 (by simp only [go_sem, zC4, htg]; first | done | rfl) ?_ ⟨p, zAz y (zCu m), day, hpl, rfl, rfl⟩ (by simp only [go_sem, zC4, htg]; rfl) ?_ | exact zz0 | exact rfl | fail)
      (refine zE qS ?_ ?_ <;> intro hb <;> have hc := hb <;> (try simp only [bF] at hc) <;> (try (exfalso; simp at hc; done)))
      repeat' (first | apply zC | apply zG | apply zA | apply zB | refine zF (by simp only [go_sem, zC4, hlv]; rfl) qR ?_ ?_ | refine zM K65 (by simp only [go_sem, zC4, hlv]; first | done | rfl) ?_ ⟨p, s, y, m, ⟨hp, hck, by omega, hm⟩, rfl, rfl⟩ (by simp only [go_sem, zC4, hlv]; rfl) ?_ | exact zz0 | exact rfl | fail)
      (refine zE qS ?_ ?_ <;> intro hb <;> have hc := hb <;> (try simp only [bF] at hc) <;> (try (exfalso; simp at hc; done)))
      repeat' (first | apply zC | apply zA | apply zB | refine zF qS qR ?_ ?_ | refine zM K66 qD ?_ ⟨acc, zCu m, ⟨by omega, hjs2⟩, rfl, rfl⟩ qS ?_ | exact zz0 | exact rfl | fail)
      refine zMd ?_;show zC2 _ (zB6 1000 [oU (zAz acc (zCu m), (lvF p.Need s y m (m + 1) ([], false)).1), oEr, zEu r .busy none])
      (show zC2 _ _; simp only [go_sem]; repeat' (first | exact SLe.any1 | exact trivial | exact zz0 | exact SLe.refl _ | exact OLe.refl _ | exact ⟨_, rfl, OLe.refl _⟩ | refine ⟨_, rfl, ?_⟩ | refine OLe.var ?_ | (show zAh _ _; refine ⟨?_, ?_⟩) | (show zAh [] []; exact zz0) | (refine SLe.int ?_; rw [w64]; omega) | refine SLe.int ?_ | refine SLe.bool ?_ | apply And.intro))
 ·have hd : zCa p s l day = (none, E) := by
   unfold zCa;by_cases h : zHf 4 p = 0
   ·rw [if_neg (by simp [h])]
    have hs : zBh s = false := by
     cases hh : zBh s
     ·rfl
     ·rw [h, hh] at hE
      simp at hE;exact absurd hE.symm hE0
    rw [if_pos hs];rw [h, hs] at hE;simp at hE;rw [hE]
   ·rw [if_pos h]
    rw [if_pos (by simpa using h)] at hE;rw [hE]
  rw [hd];have f0 : (E != 0) = true := by simpa using hE0
  repeat' (first | apply zC | apply zA | apply zB | refine zF (by simp only [go_sem, f0]; rfl) qR ?_ ?_ | refine zN4 rfl zOw ?_ | refine zM K58v (by simp only [go_sem, f0]; first | done | rfl) ?_ ⟨(), rfl, rfl⟩ (by simp only [go_sem, f0]; rfl) ?_ | exact zz0 | exact rfl | fail)
  (refine zE qS ?_ ?_ <;> intro hb <;> have hc := hb <;> (try simp only [bF] at hc) <;> (try (exfalso; simp at hc; done)))
  repeat' (first | apply zC | apply zA | apply zB | refine zF qS qR ?_ ?_ | exact zz0 | exact rfl | fail)
  refine zQz qR qS ?_;exact zAc.le qZ (SLe.refl _)
end Go.Sx
namespace Go.Sx
open Go.Proofs
theorem WOk.up {d : Nat} {n : Need} (h : WOk d n) : WOk (d + 1) n := ⟨(NOk.up h.1).1, by rw [(NOk.up h.1).2]; exact h.2⟩
theorem POk.up {d : Nat} {p : Programme} (h : POk d p) : POk (d + 1) p := ⟨h.need.up, h.name, h.excl⟩
theorem yHe : FnOK Tryz.prog 14 (fun ds v => ∃ (p : Programme) (s : Scale) (l : List Ach) (day : Int), POk 4 p ∧ ds = [zEs p, zDm s, zAo 8 zBp l, eInt day] ∧ v = .bool (zGq 4 p s l day)) := K14 4 (by omega) (by decide)
theorem yGn {p : Programme} {s : Scale} {l : List Ach} {day : Int} {R : Option (List Int × List Int) × Int} (h : zCa p s l day = R) (hp : POk 4 p) :
  ∃ L, L = l ∧ zGq 4 p s l day = decide (R.2 = 0) ∧ ((R.1 = none ∧ R.2 ≠ 0) ∨ ∃ tk lf, R = (some (tk, lf), 0) ∧ (tk.length ≤ 10 ∧ ∀ k ∈ tk, 0 ≤ k ∧ k < (L.length : Int)) ∧ pw pair (zAz L tk) = true ∧ zGq 4 p s (zAz L tk) day = true) := by
 subst h; exact ⟨l, rfl, zTk hp⟩
theorem bff : (!(false == false)) = false := rfl
theorem btt : (!(true == true)) = false := rfl
open Go.Proofs Go.RowKit
attribute [local irreducible] Run zAi zAy OpT zAc SLe OLe
set_option maxHeartbeats 2000000
set_option maxRecDepth 8000
set_option maxHeartbeats 400000000
set_option maxRecDepth 10000
theorem K5 (PA PB PC : DArg → Programme) (LA LB : DArg → List Ach) (DY : DArg → Int) (gA : ∀ a, POk 4 (PA a)) (gB : ∀ a, POk 4 (PB a)) (gC : ∀ a, POk 4 (PC a)) (hA : ∀ a, (LA a).length ≤ 1000) (hB : ∀ a, (LB a).length ≤ 1000)
  (K12 : FnOK Tryz.prog 12 (fun ds d => ∃ a : DArg, ds = [zY0 a] ∧ d = .tup [.agg (zEy (PA a) ++ zEy (PB a) ++ zEy (PC a)), .agg [zAo 8 zBp (LA a), zAo 8 zBp (LB a)], .int .i64 (DY a)])) :
  FnOK Tryz.prog 5 (fun ds d => ∃ a : DArg, ds = [zY0 a] ∧ d = .bool true) := by
 refine zAa Tryz.call5 Tryz.func5 rfl Tryz.ntmps5 ?_
 rintro ds d ⟨a, rfl, rfl⟩
 refine ⟨by simp, fun w0 => ?_⟩
 have g1 := gA a
 have g2 := gB a
 have g3 := gC a
 have g4 := hA a
 have g5 := hB a
 repeat' (first | apply zC | apply zD | apply zA | apply zB | refine zF qS qR ?_ ?_ | refine zM K7 qD ?_ ⟨rfl, rfl⟩ qS ?_ | refine zM K12 qD ?_ ⟨a, rfl, rfl⟩ qS ?_ | exact zz0 | exact rfl | fail)
 clear hA hB gA gB gC
 generalize PA a = P1 at g1 ⊢
 generalize PB a = P2 at g2 ⊢
 generalize PC a = P3 at g3 ⊢
 generalize LA a = L1 at g4 ⊢
 generalize LB a = L2 at g5 ⊢
 generalize DY a = day
 refine zN [3, 4, 5, 6, 24] (fun x : Nat × Unit => [(25, .int .i64 x.1)]) (fun x : Nat × Unit => []) (fun x : Nat × Unit => x.1 ≤ 3) (fun x : Nat × Unit => 3 - x.1) (0, ()) (fun x => qS) ?_ qL qL ?_
 ·exact Nat.zero_le _
 rintro ⟨i, _⟩ hi
 simp only at hi
 repeat' (first | apply zC | apply zA | apply zB | refine zF qS qR ?_ ?_ | exact zz0 | exact rfl | fail)
 (refine zE qS ?_ ?_ <;> intro hb <;> have hc := hb <;> (try simp only [bF] at hc) <;> (try (exfalso; simp at hc; done)))
 ·obtain ⟨i', hi'⟩ : ∃ i', i' = i := ⟨_, rfl⟩
  rcases (show i = 0 ∨ i = 1 ∨ i = 2 by omega) with rfl | rfl | rfl
  all_goals
   repeat' (first | apply zC | apply zG | apply zD | apply zA | apply zB | refine zF qS qR ?_ ?_ | exact zz0 | exact rfl | exact qP | fail)
   refine zN [3, 4, 5, 6, 8, 24, 25, 28] (fun x : Nat × Unit => [(29, .int .i64 x.1)]) (fun x : Nat × Unit => []) (fun x : Nat × Unit => x.1 ≤ 2) (fun x : Nat × Unit => 2 - x.1) (0, ()) (fun x => qS) ?_ qL qL ?_
   ·exact Nat.zero_le _
   rintro ⟨j, _⟩ hj;simp only at hj
   repeat' (first | apply zC | apply zA | apply zB | refine zF qS qR ?_ ?_ | exact zz0 | exact rfl | fail)
   (refine zE qS ?_ ?_ <;> intro hb <;> have hc := hb <;> (try simp only [bF] at hc) <;> (try (exfalso; simp at hc; done)))
   ·obtain ⟨j', hj'⟩ : ∃ j', j' = j := ⟨_, rfl⟩
    rcases (show j = 0 ∨ j = 1 by omega) with rfl | rfl
    all_goals
     repeat' (first | apply zC | apply zG | apply zD | apply zA | apply zB | refine zF qS qR ?_ ?_ | refine zM K13 qD ?_ ⟨_, rfl, rfl⟩ qS ?_ | refine zM K19 qD ?_ ⟨_, _, _, _, ⟨(by assumption), (by first | exact g4 | exact g5)⟩, rfl, rfl⟩ qS ?_ | exact zz0 | exact rfl | exact qP | fail)
     generalize hR : zCa _ _ _ _ = R;obtain ⟨L, hL, hlw, hcs⟩ := yGn hR (by assumption);subst hL;clear hR;obtain ⟨u, e⟩ := R
     rcases hcs with ⟨hu, he⟩ | ⟨tk, lf, hE, ⟨ht1, ht2⟩, ht3, ht4⟩
     ·simp only at hu he hlw
      subst hu;have he1 : (e == 0) = false := by simpa using he
      have hne : (e != 0) = true := by simpa using he
      rw [decide_eq_false he] at hlw
      repeat' (first | apply zC | apply zA | apply zB | refine zF (by simp only [go_sem, hlw, he1, bff]; rfl) qR ?_ ?_ | refine zM yHe (by simp only [go_sem, hlw, he1, bff]; first | done | rfl) ?_ ⟨_, _, _, _, (by assumption), rfl, rfl⟩ (by simp only [go_sem, hlw, he1, bff]; rfl) ?_ | exact zz0 | exact rfl | fail)
      (refine zE qS ?_ ?_ <;> intro hb <;> have hc := hb <;> (try simp only [bF] at hc) <;> (try (exfalso; simp at hc; done)))
      repeat' (first | apply zC | apply zG | apply zA | apply zB | refine zF (by simp only [go_sem, hne]; rfl) qR ?_ ?_ | exact zz0 | exact rfl | fail)
      (refine zE qS ?_ ?_ <;> intro hb <;> have hc := hb <;> (try simp only [bF] at hc) <;> (try (exfalso; simp at hc; done)))
      repeat' (first | apply zA | apply zB | refine zF qS qR ?_ ?_ | refine zK qR ?_ | exact zz0 | exact rfl | fail)
      refine zS (j' + 1, ()) ?_ ?_ ⟨rfl, by simp only [go_sem]; repeat' (first | exact trivial | exact zz0 | exact SLe.refl _ | exact OLe.refl _ | exact ⟨_, rfl, OLe.refl _⟩ | refine ⟨_, rfl, ?_⟩ | refine OLe.var ?_ | (show zAh _ _; refine ⟨?_, ?_⟩) | (show zAh [] []; exact zz0) | (refine SLe.int ?_; rw [w64]; omega) | refine SLe.int ?_ | refine SLe.bool ?_ | apply And.intro | (simp only [hj']; rfl)), by simp only [go_sem]; repeat' (first | exact trivial | exact zz0 | exact SLe.refl _ | exact OLe.refl _ | exact ⟨_, rfl, OLe.refl _⟩ | refine ⟨_, rfl, ?_⟩ | refine OLe.var ?_ | (show zAh _ _; refine ⟨?_, ?_⟩) | (show zAh [] []; exact zz0) | (refine SLe.int ?_; rw [w64]; omega) | refine SLe.int ?_ | refine SLe.bool ?_ | apply And.intro | (simp only [hj']; rfl))⟩
      ·simp only; omega
      ·simp only; omega
     ·simp only [Prod.mk.injEq] at hE
      obtain ⟨rfl, rfl⟩ := hE;simp only [decide_true] at hlw;have f0 : ((0 : Int) != 0) = false := rfl
      repeat' (first | apply zC | apply zA | apply zB | refine zF (by simp only [go_sem, hlw, btt]; rfl) qR ?_ ?_ | refine zM yHe (by simp only [go_sem, hlw, btt]; first | done | rfl) ?_ ⟨_, _, _, _, (by assumption), rfl, rfl⟩ (by simp only [go_sem, hlw, btt]; rfl) ?_ | exact zz0 | exact rfl | fail)
      (refine zE qS ?_ ?_ <;> intro hb <;> have hc := hb <;> (try simp only [bF] at hc) <;> (try (exfalso; simp at hc; done)))
      repeat' (first | apply zC | apply zG | apply zA | apply zB | refine zF (by simp only [go_sem, f0]; rfl) qR ?_ ?_ | exact zz0 | exact rfl | fail)
      (refine zE qS ?_ ?_ <;> intro hb <;> have hc := hb <;> (try simp only [bF] at hc) <;> (try (exfalso; simp at hc; done)))
      repeat' (first | apply zC | apply zG | apply zD | apply zA | apply zB | refine zF qS qR ?_ ?_ | exact zz0 | exact rfl | fail)
      refine yF 14 65 8 (fun i => zBp (([] : List Ach).getD i default)) rfl rfl rfl ?_;refine zN [3, 4, 5, 6, 8, 10, 11, 12, 13, 14, 24, 25, 28, 29, 52, 53] (fun x : Nat => [(54, .int .i64 x)]) (fun x : Nat => [(6, .acc 65 8 (zAz L (tk.take x)).length (fun i => zBp ((zAz L (tk.take x)).getD i default)))]) (fun x : Nat => x ≤ tk.length) (fun x : Nat => tk.length - x) 0 (fun x => qS) ?_ qL qL ?_
      ·exact Nat.zero_le _
      rintro k hk
      repeat' (first | apply zC | apply zA | apply zB | refine zF qS qR ?_ ?_ | exact zz0 | exact rfl | fail)
      (refine zE qS ?_ ?_ <;> intro hb <;> have hc := hb <;> (try simp only [bF] at hc) <;> (try (exfalso; simp at hc; done)))
      ·have hk2 : k < tk.length := by assumption
       have hm := ht2 _ (zAk hk2);have hps := zKh L tk k hk2;obtain ⟨q, hq⟩ : ∃ q : Nat, tk.getD k default = (q : Int) := ⟨(tk.getD k default).toNat, by omega⟩;rw [hq] at hm hps;rw [Int.toNat_natCast] at hps;have f1 : decide (((q : Nat) : Int) < 0) = false := decide_eq_false (by omega);have f2 : decide (((L.length : Nat) : Int) ≤ ((q : Nat) : Int)) = false := decide_eq_false (by omega);have hql : q < L.length := by omega
       have hle : (zAz L (tk.take k)).length ≤ 10 := by rw [zH6, List.length_take]; omega
       repeat' (first | apply zC | apply zG | apply zD | apply zA | apply zB | refine zF (by simp only [go_sem, hq, f1, f2, Int.toNat_natCast]; rfl) qR ?_ ?_ | exact rfl | exact qP | fail)
       (refine zE qS ?_ ?_ <;> intro hb <;> have hc := hb <;> (try simp only [bF] at hc) <;> (try (exfalso; simp at hc; done)))
       repeat' (first | apply zG | apply zL | apply zA | apply zB | refine zF (by simp only [go_sem, hq, Int.toNat_natCast]; rfl) qR ?_ ?_ | exact zz0 | exact rfl | exact qP | fail)
       refine zR (o' := .acc 65 8 (zAz L (tk.take (k + 1))).length fun i => zBp ((zAz L (tk.take (k + 1))).getD i default)) 6 qR (by rw [hps]; exact zA4 zBp (zAz L (tk.take k)) (L.getD q default) rfl) ?_;refine zS (k + 1) ?_ ?_ ⟨rfl, qL, qL⟩
       ·show k + 1 ≤ tk.length
        omega
       ·show tk.length - (k + 1) < tk.length - k
        omega
      ·have hk2 : k = tk.length := by omega
       subst hk2;rw [List.take_length]
       repeat' (first | refine zO 6 qS ?_ | apply zC | apply zA | apply zB | refine zF (by simp only [go_sem, ht3, ht4]; rfl) qR ?_ ?_ | refine zM K16 (by simp only [go_sem, ht3, ht4]; first | done | rfl) ?_ ⟨zAz L tk, rfl, rfl⟩ (by simp only [go_sem, ht3, ht4]; rfl) ?_ | refine zV 77 qR (by simp only [go_sem, ht3, ht4]; rfl) yHe (by simp only [go_sem, ht3, ht4]; first | done | rfl) (fun hg => ?_) (fun _ => ⟨_, _, _, _, (by assumption), rfl, rfl⟩) (by simp only [go_sem, ht3, ht4]; rfl) ?_ | refine zK qR ?_ | exact zz0 | exact rfl | exact qP | fail)
       (refine zE qS ?_ ?_ <;> intro hb <;> have hc := hb <;> (try simp only [bF] at hc) <;> (try (exfalso; simp at hc; done)))
       repeat' (first | apply zG | apply zL | apply zA | apply zB | refine zF qS qR ?_ ?_ | exact zz0 | exact rfl | fail)
       refine zS (j' + 1, ()) ?_ ?_ ⟨rfl, by simp only [go_sem]; repeat' (first | exact trivial | exact zz0 | exact SLe.refl _ | exact OLe.refl _ | exact ⟨_, rfl, OLe.refl _⟩ | refine ⟨_, rfl, ?_⟩ | refine OLe.var ?_ | (show zAh _ _; refine ⟨?_, ?_⟩) | (show zAh [] []; exact zz0) | (refine SLe.int ?_; rw [w64]; omega) | refine SLe.int ?_ | refine SLe.bool ?_ | apply And.intro | (simp only [hj']; rfl)), by simp only [go_sem]; repeat' (first | exact trivial | exact zz0 | exact SLe.refl _ | exact OLe.refl _ | exact ⟨_, rfl, OLe.refl _⟩ | refine ⟨_, rfl, ?_⟩ | refine OLe.var ?_ | (show zAh _ _; refine ⟨?_, ?_⟩) | (show zAh [] []; exact zz0) | (refine SLe.int ?_; rw [w64]; omega) | refine SLe.int ?_ | refine SLe.bool ?_ | apply And.intro | (simp only [hj']; rfl))⟩
       ·simp only; omega
       ·simp only; omega
   ·repeat' (first | apply zL | apply zA | apply zB | refine zF qS qR ?_ ?_ | refine zK qR ?_ | exact zz0 | exact rfl | fail)
    refine zS (i' + 1, ()) ?_ ?_ ⟨rfl, by simp only [go_sem]; repeat' (first | exact trivial | exact zz0 | exact SLe.refl _ | exact OLe.refl _ | exact ⟨_, rfl, OLe.refl _⟩ | refine ⟨_, rfl, ?_⟩ | refine OLe.var ?_ | (show zAh _ _; refine ⟨?_, ?_⟩) | (show zAh [] []; exact zz0) | (refine SLe.int ?_; rw [w64]; omega) | refine SLe.int ?_ | refine SLe.bool ?_ | apply And.intro | (simp only [hi']; rfl)), by simp only [go_sem]; repeat' (first | exact trivial | exact zz0 | exact SLe.refl _ | exact OLe.refl _ | exact ⟨_, rfl, OLe.refl _⟩ | refine ⟨_, rfl, ?_⟩ | refine OLe.var ?_ | (show zAh _ _; refine ⟨?_, ?_⟩) | (show zAh [] []; exact zz0) | (refine SLe.int ?_; rw [w64]; omega) | refine SLe.int ?_ | refine SLe.bool ?_ | apply And.intro | (simp only [hi']; rfl))⟩
    ·simp only; omega
    ·simp only; omega
 ·repeat' (first | apply zC | apply zA | apply zB | refine zF qS qR ?_ ?_ | refine zI qR ?_ | refine zK qR ?_ | exact zz0 | exact rfl | exact zAc.bool rfl | fail)
end Go.Sx
namespace Go.Sx
open Go.Proofs
theorem yBw {p : Programme} (h : PGk p) (q : Q3) : POk 4 (yGi p q) := ⟨yBy h.need q, h.name, h.excl⟩
theorem K5f : FnOK Tryz.prog 5 (fun ds d => ∃ a : DArg, ds = [zY0 a] ∧ d = .bool true) := by
 obtain ⟨G34, g34, K34⟩ := K34g
 obtain ⟨G39, g39, K39⟩ := K39g
 obtain ⟨G37, g37, K37⟩ := K37g
 exact K5 (fun a => G34 a.Programme) (fun a => G39 a.Programme) (fun a => yGi (G34 a.Programme) a.N) (fun a => G37 a.Has) (fun a => zOb (G37 a.Has) a.O) (fun a => (IntKind.i64.wrap a.Day).tmod 800)
  (fun a => (g34 _ trivial).pok.up) (fun a => (g39 _ trivial).pok.up) (fun a => yBw (g34 _ trivial) a.N) (fun a => by have := (g37 a.Has trivial).1; omega) (fun a => by
   unfold zOb;rw [List.length_set];have := (g37 a.Has trivial).1;omega)
  (K12 G34 G39 G37 g34 g37 K34 K39 K37)
end Go.Sx
