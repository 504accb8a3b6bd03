/- Part of the proof that the laws of the judge return true for every input: A7, A19, A21, A20, A24, A13, A14, A15. -/
import Derived.Test.YtmbocmonhcplhaaGreatA8
import Derived.Test.YtmbocmonhcplhaaGreatA3
import Derived.Test.YtmbocmonhcplhaaGreatJ90
import Derived.Test.YtmbocmonhcplhaaGreatJ31
import Derived.Test.YtmbocmonhcplhaaGreatA22
set_option linter.all false
namespace Go.Sx
open Go.Proofs Go.RowKit
attribute [local irreducible] Run zAi zAy OpT zAc SLe OLe
set_option maxHeartbeats 2000000
set_option maxRecDepth 8000
set_option maxHeartbeats 8000000
def zZe (p : Programme) (a b : Ach) : Bool := !pair a b || (p.Exclude.any fun y => zE8 (a.Course, b.Course) y) || (p.Exclude.any fun y => zE8 (b.Course, a.Course) y)
def zZn (p : Programme) (day : Int) (l : List Ach) : List Ach → List Ach → Int → Bool
 | [], _, own => decide (p.Total ≤ credits l 0) && decide (p.Own ≤ own)
 | a :: r, t, own => if zA9 p day a then false else if t.any (fun b => zZe p a b) then false else zZn p day l r (t ++ [a]) (if (a.Course.School == p.School && a.Bundle == 0) = true then wr (own + a.Credits) else own)
def tgF (p : Programme) (day : Int) (l : List Ach) : Bool := zZn p day l l [] 0
theorem zSo {α : Type} [Inhabited α] (l : List α) {k j : Nat} (h : j < k) (hk : k ≤ l.length) : (l.take k).getD j default = l.getD j default := by
 simp [zz2, List.getElem?_take, h]
theorem K64 : FnOK Tryz.prog 64 (fun ds d => ∃ (p : Programme) (l : List Ach) (day : Int), l.length ≤ 1000 ∧ ds = [zEs p, zAo 8 zBp l, eInt day] ∧ d = .bool (tgF p day l)) := by
 refine zAa Tryz.call64 Tryz.func64 rfl Tryz.ntmps64 ?_
 rintro ds d ⟨p, l, day, hl, rfl, rfl⟩
 refine ⟨by simp, fun w0 => ?_⟩
 repeat' (first | apply zC | apply zD | apply zA | apply zB | refine zF qS qR ?_ ?_ | exact zz0 | exact rfl | fail)
 refine zN [1, 2, 3, 12, 13] (fun x : Nat × Int => [(14, .int .i64 x.1), (7, .int .i64 x.2)]) (fun x : Nat × Int => []) (fun x : Nat × Int => x.1 ≤ l.length ∧ tgF p day l = zZn p day l (l.drop x.1) (l.take x.1) x.2) (fun x : Nat × Int => l.length - x.1) (0, 0) (fun x => qS) ?_ qL qL ?_
 ·exact ⟨Nat.zero_le _, rfl⟩
 rintro ⟨k, o⟩ ⟨h1, h2⟩
 simp only at h1 h2
 repeat' (first | apply zC | apply zA | apply zB | refine zF qS qR ?_ ?_ | exact zz0 | exact rfl | fail)
 (refine zE qS ?_ ?_ <;> intro hb <;> have hc := hb <;> (try simp only [bF] at hc) <;> (try (exfalso; simp at hc; done)))
 ·have hk : k < l.length := by omega
  have htk : l.take (k + 1) = l.take k ++ [l.getD k default] := by rw [List.take_add_one, zz2, List.getElem?_eq_getElem hk]; rfl
  rw [zAv _ _ hk, zZn, ← htk] at h2
  repeat' (first | apply zC | apply zG | apply zD | apply zA | apply zB | refine zF qS qR ?_ ?_ | refine zM K59 qD ?_ ⟨p, _, day, rfl, rfl⟩ qS ?_ | exact zz0 | exact rfl | exact qP | fail)
  (refine zE qS ?_ ?_ <;> intro hb <;> have hc := hb <;> (try simp only [bF] at hc) <;> (try (exfalso; simp at hc; done)))
  ·rw [if_pos hb] at h2
   repeat' (first | apply zC | apply zA | apply zB | refine zF qS qR ?_ ?_ | refine zI qR ?_ | exact zz0 | exact rfl | refine zAc.bool ?_ | fail)
   rw [h2]
  rw [if_neg (by rw [hb]; simp)] at h2
  repeat' (first | apply zC | apply zG | apply zD | apply zA | apply zB | refine zF qS qR ?_ ?_ | exact rfl | exact qP | fail)
  refine zN [1, 2, 3, 12, 13, 14, 7, 9, 8, 25, 26] (fun j : Nat × Unit => [(27, .int .i64 j.1)]) (fun j : Nat × Unit => []) (fun j : Nat × Unit => j.1 ≤ k ∧ ((l.take k).any fun b => zZe p (l.getD k default) b) = ((l.take k).drop j.1).any fun b => zZe p (l.getD k default) b) (fun j : Nat × Unit => k - j.1) (0, ()) (fun x => qS) ?_ qL qL ?_
  ·exact ⟨Nat.zero_le _, rfl⟩
  rintro ⟨j, _⟩ ⟨h3, h4⟩;simp only at h3 h4
  repeat' (first | apply zC | apply zA | apply zB | refine zF qS qR ?_ ?_ | exact zz0 | exact rfl | fail)
  (refine zE qS ?_ ?_ <;> intro hb <;> have hc := hb <;> (try simp only [bF] at hc) <;> (try (exfalso; simp at hc; done)))
  ·have hj : j < k := by omega
   rw [zAv _ _ (by rw [List.length_take]; omega), List.any_cons, zSo l hj h1] at h4
   repeat' (first | apply zC | apply zG | apply zD | apply zA | apply zB | refine zF qS qR ?_ ?_ | refine zM K56 qD ?_ ⟨_, _, rfl, rfl⟩ qS ?_ | refine zV 35 qR qS K99 qD (fun hg => ?_) (fun _ => ⟨p.Exclude, ((l.getD k default).Course, (l.getD j default).Course), rfl, rfl⟩) qS ?_ | refine zV 45 qR qS K99 qD (fun hg => ?_) (fun _ => ⟨p.Exclude, ((l.getD j default).Course, (l.getD k default).Course), rfl, rfl⟩) qS ?_ | exact zz0 | exact rfl | exact qP | fail)
   (refine zE qS ?_ ?_ <;> intro hb <;> have hc := hb <;> (try simp only [bF] at hc) <;> (try (exfalso; simp at hc; done)))
   ·have hbd : zZe p (l.getD k default) (l.getD j default) = true := by
     rw [← hb]; unfold zZe;cases pair (l.getD k default) (l.getD j default) <;> cases p.Exclude.any (fun y => zE8 ((l.getD k default).Course, (l.getD j default).Course) y) <;> rfl
    rw [h4, hbd, Bool.true_or, if_pos rfl] at h2
    repeat' (first | apply zC | apply zA | apply zB | refine zF qS qR ?_ ?_ | refine zI qR ?_ | exact zz0 | exact rfl | refine zAc.bool ?_ | fail)
    rw [h2]
   ·have hbd : zZe p (l.getD k default) (l.getD j default) = false := by
     rw [← hb]; unfold zZe;cases pair (l.getD k default) (l.getD j default) <;> cases p.Exclude.any (fun y => zE8 ((l.getD k default).Course, (l.getD j default).Course) y) <;> rfl
    rw [hbd, Bool.false_or] at h4
    repeat' (first | apply zG | apply zL | apply zA | apply zB | refine zF qS qR ?_ ?_ | refine zS (j+1,()) ?_ ?_ ⟨rfl, qL, qL⟩ | exact zz0 | exact rfl | omega)
    exact ⟨by simp only; omega, h4⟩
  ·have hj : (l.take k).drop j = [] := List.drop_eq_nil_of_le (by rw [List.length_take]; omega)
   rw [h4, hj, List.any_nil, if_neg (by simp)] at h2
   repeat' (first | apply zC | apply zA | apply zB | refine zF qS qR ?_ ?_ | refine zK qR ?_ | exact rfl | exact qP | fail)
   (refine zE qS ?_ ?_ <;> intro hb <;> have hc := hb <;> (try simp only [bF] at hc) <;> (try (exfalso; simp at hc; done)))
   ·have hb2 : ((l.getD k default).Course.School == p.School && (l.getD k default).Bundle == 0) = true := hb
    rw [if_pos hb2] at h2
    repeat' (first | apply zL | apply zA | apply zB | refine zF qS qR ?_ ?_ | refine zS (k+1,wr (o+(l.getD k default).Credits)) ?_ ?_ ⟨rfl, qL, qL⟩ | exact zz0 | exact rfl | omega)
    exact ⟨by simp only; omega, h2⟩
   ·have hb2 : ((l.getD k default).Course.School == p.School && (l.getD k default).Bundle == 0) = false := hb
    rw [if_neg (by rw [hb2]; simp)] at h2
    repeat' (first | apply zG | apply zL | apply zA | apply zB | refine zF qS qR ?_ ?_ | refine zS (k+1,o) ?_ ?_ ⟨rfl, qL, qL⟩ | exact zz0 | exact rfl | omega)
    exact ⟨by simp only; omega, h2⟩
 ·have hk : l.drop k = [] := List.drop_eq_nil_of_le (by omega)
  rw [hk, zZn] at h2
  repeat' (first | apply zC | apply zP | refine zU qS qR ?_ ?_ | refine zQ qK qK ?_ | refine zX K105 qD ?_ ⟨l, rfl, rfl⟩ qS ?_ | refine zI qR ?_ | refine zK qR ?_ | exact zz0 | refine zAc.bool ?_ | exact qP | fail)
  exact h2.symm
end Go.Sx
namespace Go.Sx
open Go.Proofs Go.RowKit
def zHv {α : Type} : (Nat → Bool) → List α → List α
 | _, [] => []
 | g, a :: r => if g 0 then a :: zHv (fun j => g (j + 1)) r else zHv (fun j => g (j + 1)) r
theorem zJ8 {α : Type} : ∀ (l : List α) (g g' : Nat → Bool), (∀ j, j < l.length → g j = g' j) → zHv g l = zHv g' l
 | [], _, _, _ => rfl
 | a :: r, g, g', h => by
  rw [zHv, zHv, h 0 (by simp), zJ8 r _ _ fun j hj => h (j + 1) (by simpa using hj)]
theorem zQy {α : Type} : ∀ (l : List α), zHv (fun _ => true) l = l
 | [] => rfl
 | a :: r => by rw [zHv, if_pos rfl, zQy r]
theorem zUm {α : Type} (h : Nat → α) (G : Nat → Bool) : ∀ js : List Nat, zHv (fun i => G (js.getD i 0)) (js.map h) = (js.filter G).map h
 | [] => rfl
 | j :: r => by
  rw [List.map_cons, zHv];have e : (fun i => G ((j :: r).getD (i + 1) 0)) = fun i => G (r.getD i 0) := rfl;rw [e, zUm h G r, show (j :: r).getD 0 0 = j from rfl];cases hG : G j <;> simp [hG]
theorem zJ7 {α : Type} [Inhabited α] : ∀ (l : List α) (g : Nat → Bool), zHv g l = ((List.range l.length).filter g).map fun j => l.getD j default
 | [], _ => rfl
 | a :: r, g => by
  rw [zHv, zJ7 r, List.length_cons, List.range_succ_eq_map, List.filter_cons]
  have e : ((List.map Nat.succ (List.range r.length)).filter g).map (fun j => (a :: r).getD j default) = ((List.range r.length).filter fun j => g (j + 1)).map fun j => r.getD j default := by
   rw [List.filter_map, List.map_map];rfl
  split
  ·rw [List.map_cons, e]; rfl
  ·rw [e]
def ldF (n : Need) (s : Scale) (x : Load) (a : Ach) : Load := ⟨IntKind.i64.wrap (x.many + 1), IntKind.i64.wrap (x.credits + a.Credits), x.fine && zQb n s a⟩
theorem zNs (n : Need) (s : Scale) (g : Nat → Bool) : ∀ (l : List Ach) (k : Nat) (x : Load), zGv n s g l k x = (zHv (fun j => g (k + j)) l).foldl (ldF n s) x
 | [], _, _ => rfl
 | a :: r, k, x => by
  rw [zGv, zNs n s g r (k + 1), zHv];have e : (fun j => g (k + (j + 1))) = fun j => g (k + 1 + j) := funext fun j => by rw [show k + (j + 1) = k + 1 + j by omega]
  rw [e, Nat.add_zero];cases g k <;> rfl
theorem zLe (n : Need) (s : Scale) (l : List Ach) (g : Nat → Bool) : zD2 n s l g = (zHv g l).foldl (ldF n s) ⟨0, 0, true⟩ := by
 rw [zD2, zNs]
 simp only [Nat.zero_add]
def zRl (m : Nat) : List Nat := (List.range 10).filter fun k => m.testBit k
theorem zYh {m j : Nat} (h : m < 1024) : j ∈ zRl m ↔ m.testBit j = true := by
 rw [zRl, List.mem_filter, List.mem_range]
 refine ⟨fun h => h.2, fun hj => ⟨?_, hj⟩⟩
 rcases Nat.lt_or_ge j 10 with h1 | h1
 ·exact h1
 ·rw [zQq h h1] at hj; cases hj
theorem zRk (m : Nat) : (zRl m).length ≤ 10 := by
 have := List.length_filter_le (fun k => m.testBit k) (List.range 10)
 rwa [List.length_range] at this
theorem zMj {α : Type} [Inhabited α] (l : List α) (m : Nat) : zAz l (zCu m) = (zRl m).map fun j => l.getD j default := by
 unfold zAz zCu zRl
 rw [List.map_map]
 rfl
theorem zF7 {g : Nat → Bool} {k : Nat} (hk : k ≤ 10) (h : ∀ j, g j = true → j < k) : (List.range 10).filter g = (List.range k).filter g := by
 have e : 10 = k + (10 - k) := by omega
 rw [e, List.range_add, List.filter_append]
 have : ((List.range (10 - k)).map fun x => k + x).filter g = [] := by
  rw [List.filter_eq_nil_iff];intro x hx hg;obtain ⟨y, _, rfl⟩ := List.mem_map.1 hx;have := h _ hg; omega
 rw [this, List.append_nil]
theorem zQ8 {α : Type} [Inhabited α] (l : List α) {m : Nat} (hl : l.length ≤ 10) (hm : m < 2 ^ l.length) : zAz l (zCu m) = zHv m.testBit l := by
 rw [zMj, zJ7, zRl, zF7 hl fun j hj => zFp hm hj]
def atT (m : Nat) (g : Nat → Bool) : Nat → Bool := fun k => decide (k < (zRl m).length) && g ((zRl m).getD k 0)
theorem yAq (n : Need) (s : Scale) (y : List Ach) {m : Nat} (hy : y.length ≤ 10) (hm : m < 2 ^ y.length) {g : Nat → Bool} (hg : ∀ j, g j = true → m.testBit j = true) : zD2 n s (zAz y (zCu m)) (atT m g) = zD2 n s y g := by
 rw [zLe, zLe, zMj]
 have e : zHv (atT m g) ((zRl m).map fun j => y.getD j default) = zHv (fun i => g ((zRl m).getD i 0)) ((zRl m).map fun j => y.getD j default) := zJ8 _ _ _ fun j hj => by
  rw [List.length_map] at hj;rw [atT, decide_eq_true hj, Bool.true_and]
 rw [e, zUm, zJ7, zRl, List.filter_filter]
 have e2 : (fun a => g a && m.testBit a) = g := funext fun j => by
  cases hj : g j
  ·rfl
  ·rw [hg j hj]; rfl
 rw [e2, zF7 hy fun j hj => zFp hm (hg j hj)]
theorem zWz {m : Nat} (hm : m < 1024) {g : Nat → Bool} (hg : ∀ j, g j = true → m.testBit j = true) : (∃ j, g j = true) → ∃ j, atT m g j = true := fun ⟨j, hj⟩ => by
 obtain ⟨k, hk, e⟩ := List.mem_iff_getElem.1 ((zYh hm).2 (hg j hj))
 refine ⟨k, ?_⟩
 rw [atT, decide_eq_true hk, zz2, List.getElem?_eq_getElem hk, e]
 exact hj
theorem yCy {m : Nat} {a g : Nat → Bool} (h : ∀ j, a j = true → g j = true) : ∀ j, atT m a j = true → atT m g j = true := fun j hj => by
 rw [atT, zz3] at hj ⊢
 exact ⟨hj.1, h _ hj.2⟩
theorem zZf (m : Nat) (a g : Nat → Bool) : atT m (fun j => g j && !a j) = fun j => atT m g j && !atT m a j := funext fun j => by
 simp only [atT]
 cases decide (j < (zRl m).length) <;> simp
theorem zZ4 {m : Nat} (hm : m < 1024) {sem sem' : Need → (Nat → Bool) → Prop} {q : Bool} : ∀ (L : List Need) (B B' : Nat → (Nat → Bool) → Prop), (∀ c ∈ L, ∀ g, (∀ j, g j = true → m.testBit j = true) → sem c g → sem' c (atT m g)) → (∀ i g, (∀ j, g j = true → m.testBit j = true) → B i g → B' i (atT m g)) → ∀ i g, (∀ j, g j = true → m.testBit j = true) → zFq sem q L B i g → zFq sem' q L B' i (atT m g)
 | [], _, _, _, h, i, g, hg, hk => h i g hg hk
 | c :: r, B, B', hs, h, i, g, hg, hk => by
  refine zZ4 hm r (zIp sem q c B) (zIp sem' q c B') (fun x hx => hs x (List.mem_cons_of_mem _ hx)) (fun i g hg hst => ?_) i g hg hk
  rcases hst with ⟨h1, h2⟩ | ⟨i', a, h1, h2, h3, h4, h5⟩
  ·exact .inl ⟨h1, h i g hg h2⟩
  ·have ha : ∀ j, a j = true → m.testBit j = true := fun j hj => hg j (h3 j hj)
   refine .inr ⟨i', atT m a, h1, zWz hm ha h2, yCy h3, hs c List.mem_cons_self a ha h4, ?_⟩;rw [← zZf];exact h i' _ (fun j hj => hg j (by rw [zz3] at hj; exact hj.1)) h5
theorem yGa (s : Scale) (y : List Ach) {m : Nat} (hy : y.length ≤ 10) (hm : m < 2 ^ y.length) : ∀ (d : Nat) (n : Need) (g : Nat → Bool), (∀ j, g j = true → m.testBit j = true) → zQl s y d n g → zQl s (zAz y (zCu m)) d n (atT m g) := by
 have hM : 2 ^ y.length ≤ 1024 := Nat.pow_le_pow_right (n := 2) (by omega) hy
 have leaf : ∀ (n : Need) (g : Nat → Bool), (∀ j, g j = true → m.testBit j = true) → yB7 n s y g → yB7 n s (zAz y (zCu m)) (atT m g) := fun n g hg h => ⟨zWz (by omega) hg h.1, by rw [yAq n s y hy hm hg]; exact h.2⟩
 intro d
 induction d with
 | zero => exact fun n g hg h => leaf n g hg h
 | succ d ih =>
  intro n g hg h
  rcases h with ⟨h1, h2⟩ | ⟨h1, h2, i, h3, h4⟩
  ·exact .inl ⟨h1, leaf n g hg h2⟩
  ·exact .inr ⟨h1, zWz (by omega) hg h2, i, h3, zZ4 (by omega) n.L B0 B0 (fun c _ g hg h => ih c g hg h) (fun i g _ hB => ⟨hB.1, fun j => by rw [atT, hB.2, Bool.and_false]⟩) i g hg h4⟩
end Go.Sx
namespace Go.Sx
open Go.Proofs Go.RowKit
theorem zO2 (a b : Ach) (x y : Int) : zKt a b x y = zKt b a y x := by
 unfold zKt
 rw [Bool.eq_iff_iff]
 simp only [zz3, Bool.or_eq_true, beq_iff_eq, bne_iff_ne, ne_eq, decide_eq_true_eq, Bool.not_eq_true', beq_eq_false_iff_ne]
 constructor
 ·rintro ⟨h1, h2⟩
  refine ⟨h1.symm, ?_⟩;by_cases hb : a.Bundle = b.Bundle
  ·rcases h2 with (h2 | h2) | h2
   ·exact absurd hb h2
   ·exact .inl (.inr (by omega))
   ·exact .inr fun h => h2 h.symm
  ·exact .inl (.inl fun h => hb h.symm)
 ·rintro ⟨h1, h2⟩
  refine ⟨h1.symm, ?_⟩;by_cases hb : a.Bundle = b.Bundle
  ·rcases h2 with (h2 | h2) | h2
   ·exact absurd hb.symm h2
   ·exact .inl (.inr (by omega))
   ·exact .inr fun h => h2 h.symm
  ·exact .inl (.inl hb)
theorem zYc (a b : Ach) : pair a b = pair b a := by
 unfold pair
 rw [zN1 a.Course b.Course]
 congr 2
 rw [Bool.eq_iff_iff]
 simp only [List.any_eq_true]
 constructor
 ·rintro ⟨x, h1, y, h2, h3⟩
  exact ⟨y, h2, x, h1, by rw [zO2]; exact h3⟩
 ·rintro ⟨x, h1, y, h2, h3⟩
  exact ⟨y, h2, x, h1, by rw [zO2]; exact h3⟩
def okX (p : Programme) : List Ach → List Ach → Bool
 | [], _ => true
 | a :: r, t => !(t.any fun x => excl p x.Course a.Course) && okX p r (t ++ [a])
def okP : List Ach → List Ach → Bool
 | [], _ => true
 | a :: r, t => !(t.any fun b => !pair a b) && okP r (t ++ [a])
def zZw (p : Programme) : List Ach → Int → Int
 | [], o => o
 | a :: r, o => zZw p r (if (a.Course.School == p.School && a.Bundle == 0) = true then wr (o + a.Credits) else o)
def whL (p : Programme) (u : List Ach) : Bool := pw pair u && okX p u [] && decide (p.Total ≤ credits u 0) && decide (p.Own ≤ zZw p u 0)
theorem zIl (p : Programme) (set : Nat) : ∀ (l : List Ach) (k : Nat) (t : List Ach) (c o : Int), zEi p set l k t c o = if okX p (zHv (fun j => set.testBit (k + j)) l) t = true then some (t ++ zHv (fun j => set.testBit (k + j)) l, credits (zHv (fun j => set.testBit (k + j)) l) c, zZw p (zHv (fun j => set.testBit (k + j)) l) o) else none
 | [], k, t, c, o => by simp [zEi, zHv, okX, credits, zZw]
 | a :: r, k, t, c, o => by
  have e : (fun j => set.testBit (k + (j + 1))) = fun j => set.testBit (k + 1 + j) := funext fun j => by rw [show k + (j + 1) = k + 1 + j by omega]
  rw [zEi, zHv, e, Nat.add_zero];cases set.testBit k
  ·simp only [Bool.false_eq_true, if_false]
   exact zIl p set r (k + 1) t c o
  ·simp only [if_true, okX, credits, zZw]
   cases t.any fun x => excl p x.Course a.Course
   ·simp only [Bool.false_eq_true, if_false, Bool.not_false, Bool.true_and]
    rw [zIl p set r (k + 1), List.append_assoc];rfl
   ·simp
theorem zNr (p : Programme) (l : List Ach) (set : Nat) : zDf p l set = whL p (zHv set.testBit l) := by
 rw [zDf, zIl, whL]
 simp only [Nat.zero_add, List.nil_append]
 cases okX p (zHv set.testBit l) []
 ·simp
 ·simp
theorem zVc {α : Type} (q : α → α → Bool) (a : α) : ∀ t : List α, pw q (t ++ [a]) = (pw q t && t.all fun b => q b a)
 | [] => by simp [pw]
 | x :: r => by
  simp only [List.cons_append, pw, List.all_append, List.all_cons, List.all_nil, Bool.and_true, zVc q a r];cases q x a <;> cases r.all (q x) <;> cases pw q r <;> simp
theorem yD7 : ∀ (r t : List Ach), pw pair (t ++ r) = (pw pair t && okP r t)
 | [], t => by simp [okP]
 | a :: r, t => by
  have e : t ++ a :: r = (t ++ [a]) ++ r := by simp
  have e2 : (t.all fun b => pair b a) = !(t.any fun b => !pair a b) := by
   rw [List.not_any_eq_all_not]
   congr 1
   funext b
   rw [Bool.not_not, zYc]
  rw [e, yD7 r (t ++ [a]), zVc, okP, e2, Bool.and_assoc]
theorem yCx (p : Programme) (a : Ach) (t : List Ach) : (t.any fun b => zZe p a b) = ((t.any fun b => !pair a b) || t.any fun b => excl p b.Course a.Course) := by
 induction t with
 | nil => rfl
 | cons x r ih =>
  rw [List.any_cons, List.any_cons, List.any_cons, ih, zZe, Bool.or_assoc (!pair a x), zM5];cases pair a x <;> cases excl p x.Course a.Course <;> simp
theorem zT4 (p : Programme) (day : Int) (U : List Ach) : ∀ (r t : List Ach) (o : Int), (∀ a ∈ r, zA9 p day a = false) → zZn p day U r t o = (okP r t && okX p r t && decide (p.Total ≤ credits U 0) && decide (p.Own ≤ zZw p r o))
 | [], t, o, _ => by rw [zZn, okP, okX, zZw, Bool.true_and, Bool.true_and]
 | a :: r, t, o, h => by
  rw [zZn, h a List.mem_cons_self, yCx, okP, okX, zZw, zT4 p day U r _ _ fun x hx => h x (List.mem_cons_of_mem _ hx)];cases (t.any fun b => !pair a b) <;> cases (t.any fun b => excl p b.Course a.Course) <;> simp
theorem zZo (p : Programme) (day : Int) (u : List Ach) (h : ∀ a ∈ u, zA9 p day a = false) : tgF p day u = whL p u := by
 have := yD7 u []
 rw [List.nil_append] at this
 rw [tgF, zT4 p day u u [] 0 h, whL, this]
 simp [pw]
end Go.Sx
namespace Go.Sx
open Go.Proofs Go.RowKit
theorem zVj {n : Need} (h : zFs n = 0) (hk : zBm n = false) : n.Kind = 3 ∨ n.Kind = 4 ∧ 1 ≤ n.N := by
 have h1 : ¬ n.Kind = 1 := fun hc => by simp [zBm, hc] at hk
 have h2 : ¬ n.Kind = 2 := fun hc => by simp [zBm, hc] at hk
 rw [zFs, if_neg h1, if_neg h2] at h
 split at h
 ·rename_i h3; exact .inl h3
 split at h
 ·rename_i h4
  split at h
  ·cases h
  ·split at h
   ·cases h
   ·rename_i hc
    simp only [Bool.not_eq_true', Bool.and_eq_false_iff, decide_eq_false_iff_not, not_or, Decidable.not_not] at hc;exact .inr ⟨h4, hc.1⟩
 ·cases h
theorem yE3 : ∀ (d k : Nat) (n : Need), NOk d n → (∀ x ∈ zAd d k n, zFs x.1 = 0) → MOk d n → VOk d n
 | 0, k, n, hn, h, hm => by
  have h1 := h _ (zCp 0 k n);show zBm n = true;cases hl : zBm n
  ·have := zLo h1 (fun hc => by rcases hc with hc | hc <;> simp [zBm, hc] at hl)
   rw [hn.2] at this;exact absurd this (Nat.lt_irrefl 0)
  ·rfl
 | d + 1, k, n, hn, h, hm => by
  have h1 := h _ (zCp (d + 1) k n)
  refine ⟨zVk h1, by have := hm.1; omega, fun hl => ⟨zLo h1 (fun hc => by rcases hc with hc | hc <;> simp [zBm, hc] at hl), zVj h1 hl⟩, fun c hc => yE3 d (k + 1) c (hn.2 c hc) (fun y hy => h y (by
   rw [zAd];exact List.mem_cons_of_mem _ (List.mem_flatMap.2 ⟨c, hc, hy⟩))) (hm.2.2 c hc)⟩
theorem zWx {d : Nat} {p : Programme} (hp : POk d p) (h : zHf d p = 0) : VOk d p.Need := yE3 d 1 _ hp.need.1 (zNc (zL2 h)) (zSc hp h)
abbrev zPh (s : Scale) (l : List Ach) (d : Nat) (n : Need) : Nat → Bool := (zEj s l (fun _ _ => true) (fun _ _ => false) d n 0).1
theorem zPg (s : Scale) (l : List Ach) (hl : l.length ≤ 10) (d : Nat) (n : Need) (hn : VOk d n) (z : Nat) (hz : z < 2 ^ l.length) : aft s l d n S0 z = true ↔ zPh s l d n z = true := by
 have hM : 2 ^ l.length ≤ 1024 := Nat.pow_le_pow_right (n := 2) (by omega) hl
 have hS : ∀ y, S0 y = true → y < 2 ^ l.length := fun y hy => by
  have : y = 0 := by simpa [S0] using hy
  rw [this]; exact Nat.two_pow_pos _
 have hR := zNj s l hl d n S0 S0 ⟨fun _ _ => rfl, hS⟩
 rw [hR.1 z hz, zX8 s l hl d n S0 z hn hS, zJh s l d n 0 z hn (by omega)]
 constructor
 ·rintro ⟨y, g, h1, h2, h3, h4, h5, h6⟩
  have hy : y = 0 := by simpa [S0] using h2
  have : z.testBit = g := funext fun j => by rw [h6, hy, Nat.zero_testBit, Bool.false_or]
  rw [this]; exact h4
 ·intro h
  exact ⟨0, z.testBit, Nat.two_pow_pos _, rfl, fun j hj => zFp hz hj, h, fun j _ => Nat.zero_testBit j, fun j => by rw [Nat.zero_testBit, Bool.false_or]⟩
theorem zMb {α : Type} : ∀ (l : List α) (g : Nat → Bool) (x : α), x ∈ zHv g l → x ∈ l
 | [], _, _, h => h
 | a :: r, g, x, h => by
  rw [zHv] at h;split at h
  ·rcases List.mem_cons.1 h with rfl | h
   ·exact List.mem_cons_self
   ·exact List.mem_cons_of_mem _ (zMb r _ x h)
  ·exact List.mem_cons_of_mem _ (zMb r _ x h)
def zA7 (p : Programme) (day : Int) (l : List Ach) : List Ach := l.filter fun a => !zA9 p day a
theorem zKo {p : Programme} {day : Int} {l : List Ach} : ∀ a ∈ zA7 p day l, zA9 p day a = false := fun a ha => by
 have := (List.mem_filter.1 ha).2
 simpa using this
def yFu (d : Nat) (p : Programme) (s : Scale) (y : List Ach) (day : Int) (m : Nat) : Prop := tgF p day (zAz y (zCu m)) = true ∧ ∃ sub, sub ≤ m ∧ sub &&& m = sub ∧ zPh s y d p.Need sub = true
theorem zQp {p : Programme} {day : Int} {y : List Ach} (hy : y.length ≤ 10) (ho : ∀ a ∈ y, zA9 p day a = false) {m : Nat} (hm : m < 2 ^ y.length) : tgF p day (zAz y (zCu m)) = zDf p y m := by
 rw [zQ8 y hy hm, zZo p day _ (fun a ha => ho a (zMb y _ a ha)), zNr]
theorem yCm {d : Nat} {p : Programme} {s : Scale} {l : List Ach} {day : Int} (hp : POk d p) (hck : zHf d p = 0) (hs : zBh s = true) : zGq d p s l day = true ↔ (zA7 p day l).length ≤ 10 ∧ ∃ m, m < 2 ^ (zA7 p day l).length ∧ yFu d p s (zA7 p day l) day m := by
 have hV := zWx hp hck
 have ho := zKo (p := p) (day := day) (l := l)
 unfold zGq
 show (decide (zHf d p = 0) && zBh s && (decide ((zA7 p day l).length ≤ 10) && (List.range (2 ^ (zA7 p day l).length)).any fun set => zDf p (zA7 p day l) set && (List.range 1024).any fun part => aft s (zA7 p day l) d p.Need S0 part && (part &&& set == part))) = true ↔ _
 generalize zA7 p day l = y at ho ⊢
 rw [decide_eq_true hck, hs, Bool.true_and, Bool.true_and, zz3, decide_eq_true_eq, List.any_eq_true]
 refine and_congr_right fun hy => ?_
 have hM : 2 ^ y.length ≤ 1024 := Nat.pow_le_pow_right (n := 2) (by omega) hy
 constructor
 ·rintro ⟨m, hm, h⟩
  rw [List.mem_range] at hm;rw [zz3, List.any_eq_true] at h;obtain ⟨hw, part, _, h2⟩ := h;rw [zz3, beq_iff_eq] at h2;have hle : part ≤ m := by have : part &&& m ≤ m := Nat.and_le_right; omega
  exact ⟨m, hm, by rw [zQp hy ho hm]; exact hw, part, hle, h2.2, (zPg s y hy d p.Need hV part (by omega)).1 h2.1⟩
 ·rintro ⟨m, hm, h1, sub, h2, h3, h4⟩
  refine ⟨m, List.mem_range.2 hm, ?_⟩;rw [zz3, List.any_eq_true];refine ⟨by rw [← zQp hy ho hm]; exact h1, sub, List.mem_range.2 (by omega), ?_⟩;rw [zz3, beq_iff_eq];exact ⟨(zPg s y hy d p.Need hV sub (by omega)).2 h4, h3⟩
theorem zWm {d : Nat} {p : Programme} {s : Scale} {y : List Ach} {day : Int} (hp : POk d p) (hck : zHf d p = 0) (hs : zBh s = true) (hy : y.length ≤ 10) (ho : ∀ a ∈ y, zA9 p day a = false) {m : Nat} (hm : m < 2 ^ y.length) (h : yFu d p s y day m) :
  pw pair (zAz y (zCu m)) = true ∧ zGq d p s (zAz y (zCu m)) day = true := by
 obtain ⟨h1, sub, h2, h3, h4⟩ := h
 have hV := zWx hp hck
 have hM : 2 ^ y.length ≤ 1024 := Nat.pow_le_pow_right (n := 2) (by omega) hy
 have ho' : ∀ a ∈ zAz y (zCu m), zA9 p day a = false := fun a ha => by
  rw [zQ8 y hy hm] at ha;exact ho a (zMb y _ a ha)
 have hT := yGa s y hy hm d p.Need sub.testBit (fun j hj => by
  rw [← h3, Nat.testBit_and, zz3] at hj;exact hj.2) ((zJh s y d p.Need 0 sub hV (by omega)).1 h4)
 have hlen : (zAz y (zCu m)).length = (zRl m).length := by rw [zMj, List.length_map]
 have hl10 : (zAz y (zCu m)).length ≤ 10 := by rw [hlen]; exact zRk m
 have hb : ∀ j, atT m sub.testBit j = true → j < (zAz y (zCu m)).length := fun j hj => by
  rw [atT, zz3, decide_eq_true_eq] at hj;rw [hlen]; exact hj.1
 generalize atT m sub.testBit = g at hT hb
 generalize zAz y (zCu m) = u at *
 have hu : (u.filter fun a => !zA9 p day a) = u := List.filter_eq_self.2 fun a ha => by rw [ho' a ha]; rfl
 have htg := h1
 rw [zZo p day u ho'] at h1
 have hM2 : 2 ^ u.length ≤ 1024 := Nat.pow_le_pow_right (n := 2) (by omega) hl10
 have hpos := Nat.two_pow_pos u.length
 obtain ⟨z, hz, rfl⟩ := bitsOf u.length g hb
 have hvz := (zJh s u d p.Need 0 z hV (by omega)).2 hT
 refine ⟨by rw [whL] at h1; simp only [zz3] at h1; exact h1.1.1.1, ?_⟩
 unfold zGq
 rw [decide_eq_true hck, hs, Bool.true_and, Bool.true_and]
 show (decide ((u.filter fun a => !zA9 p day a).length ≤ 10) && (List.range (2 ^ (u.filter fun a => !zA9 p day a).length)).any fun set => zDf p (u.filter fun a => !zA9 p day a) set && (List.range 1024).any fun part => aft s (u.filter fun a => !zA9 p day a) d p.Need S0 part && (part &&& set == part)) = true
 rw [hu, decide_eq_true hl10, Bool.true_and, List.any_eq_true]
 refine ⟨2 ^ u.length - 1, List.mem_range.2 (by omega), ?_⟩
 rw [zz3, List.any_eq_true]
 refine ⟨?_, z, List.mem_range.2 (by omega), ?_⟩
 ·have e : zHv (2 ^ u.length - 1).testBit u = u := by
   rw [zJ8 u _ (fun _ => true) fun j hj => by rw [Nat.testBit_two_pow_sub_one, decide_eq_true hj], zQy]
  rw [zNr, e]; exact h1
 ·rw [zz3, beq_iff_eq]
  refine ⟨(zPg s u hl10 d p.Need hV z hz).2 hvz, zHg fun j hj => ?_⟩;rw [Nat.testBit_two_pow_sub_one, decide_eq_true (zFp hz hj)]
end Go.Sx
namespace Go.Sx
open Go.Proofs Go.RowKit
attribute [local irreducible] Run zAi zAy OpT zAc SLe OLe
set_option maxHeartbeats 2000000
set_option maxRecDepth 8000
set_option maxHeartbeats 20000000
theorem zV7 {vis : Need → Nat → (Nat → Bool) × Nat} {q : Bool} {fo : Nat → Nat → Bool} {b : Nat} : ∀ (r : List Need) (be : Nat → Int) (nx : Nat), (∀ c ∈ r, ∀ nx, (vis c nx).2 ≤ nx + b) → (zDy vis q fo r be nx).2 ≤ nx + r.length * b
 | [], _, nx, _ => by simp [zDy]
 | c :: r, be, nx, h => by
  have h1 := h c List.mem_cons_self nx;have h2 := zV7 (q := q) (fo := fo) r (fun set => zEr (vis c nx).1 be set (set + 1) set (if (q && !fo nx (vis c nx).2) = true then be set else -1)) (vis c nx).2 (fun x hx => h x (List.mem_cons_of_mem _ hx));simp only [zDy, List.length_cons];rw [Nat.add_mul];omega
theorem zZm (s : Scale) (l : List Ach) (al fo : Nat → Nat → Bool) : ∀ (d : Nat) (n : Need) (nx : Nat), MOk d n → (zEj s l al fo d n nx).2 ≤ nx + 8 ^ d
 | 0, _, nx, _ => Nat.le_refl _
 | d + 1, n, nx, h => by
  simp only [zEj];have hp : 0 < 8 ^ (d + 1) := Nat.pow_pos (by omega);split
  ·simp only; omega
  ·have h1 := zV7 (vis := zEj s l al fo d) (q := n.Kind == 4) (fo := fo) (b := 8 ^ d) n.L (fun z => if z = 0 then 0 else -1) nx fun c hc nx => zZm s l al fo d c nx (h.2.2 c hc)
   have h2 : n.L.length * 8 ^ d ≤ 8 * 8 ^ d := Nat.mul_le_mul_right _ h.1;have h3 : 8 ^ (d + 1) = 8 * 8 ^ d := by rw [Nat.pow_succ, Nat.mul_comm]
   simp only;omega
structure QOk (n : Need) : Prop where
 w : WOk 4 n
 c : zSb (zAd 4 1 n) = 0
 v : VOk 4 n
 m : MOk 4 n
theorem QOk.of {p : Programme} (hp : POk 4 p) (h : zHf 4 p = 0) : QOk p.Need := ⟨hp.need, zL2 h, zWx hp h, zSc hp h⟩
theorem QOk.lt {n : Need} (h : QOk n) (s : Scale) (l : List Ach) (al fo : Nat → Nat → Bool) : (zEj s l al fo 4 n 0).2 < 1000000 := by
 have := zZm s l al fo 4 n 0 h.m
 omega
abbrev zSr (s : Scale) (l : List Ach) (v : Option (List Int)) (n : Need) : Nat → Bool := (zEj s l (alV v) (foV v) 4 n 0).1
theorem A120 : zKz Tryz.prog 120 (fun ds T es m g => ∃ (n : Need) (s : Scale) (l : List Ach) (v : Option (List Int)), (QOk n ∧ l.length ≤ 10 ∧ vOk v) ∧ ds = [zAb n, zDm s, zAo 8 zBp l, .fn (faN v) (caV v), .fn (ffN v) (caV v)] ∧ T = 4 ∧ es = 1 ∧ m = 2 ^ l.length ∧ g = fun i => .bool (zSr s l v n i)) := by
 refine zE3 Tryz.call120 Tryz.func120 rfl Tryz.ntmps120 ?_
 rintro ds T es m g ⟨n, s, l, v, ⟨h1, h2, h3⟩, rfl, rfl, rfl, rfl, rfl⟩
 refine ⟨by simp, fun w0 => ?_⟩
 have hK : FnM Tryz.prog 159 (fun ds os r os' => ds = [zAb n, .fp [zAo 8 zBp l], .fp [.fn (faN v) (caV v)], .loc 1000 0, .fp (scC s), .loc 1001 0, .fp [.fn (ffN v) (caV v)]] ∧ os = [.var [eInt 0], zTt v s l] ∧ r = .acc 1 ∧ os' = [(1000, .var [eInt ((zEj s l (alV v) (foV v) 4 n 0).2 : Nat)]), (1001, zTt v s l), (1, aB (2 ^ l.length) (zSr s l v n))]) := ⟨(K159 4).call, fun ds os r os' ⟨e1, e2, e3, e4⟩ => (K159 4).ok ds os r os' ⟨n, s, l, 0, v, ⟨h1.v, h2, h1.lt s l _ _, h3⟩, e1, e2, e3, e4⟩⟩
 generalize (zEj s l (alV v) (foV v) 4 n 0).2 = nx at hK
 generalize zSr s l v n = V at hK ⊢
 repeat' (first | refine zO 1 qS ?_ | refine zO 2 qS ?_ | refine zO 3 qS ?_ | refine zO 4 qS ?_ | apply zC | apply zA | apply zB | refine zF qS qR ?_ ?_ | refine zD0 [5, 6] hK qF qR qD (by first | (simp only [go_sem]; done) | rfl) qF ?_ ⟨rfl, rfl, rfl, rfl⟩ qS ?_ | exact zz0 | exact rfl | fail)
 refine zCw qR qR qR ?_ ?_
 ·exact rfl
 ·intro i _; rfl
theorem K61 : FnOK Tryz.prog 61 (fun ds d => ∃ (n : Need) (s : Scale) (l : List Ach), (QOk n ∧ l.length ≤ 10) ∧ ds = [zAb n, zDm s, zAo 8 zBp l] ∧ d = .tup [.list 1 (2 ^ l.length) fun i => .bool (zPh s l 4 n i), .int .i64 0]) := by
 have K96x := K96 4 (by omega)
 refine zAa Tryz.call61 Tryz.func61 rfl Tryz.ntmps61 ?_
 rintro ds d ⟨n, s, l, ⟨h1, h2⟩, rfl, rfl⟩
 refine ⟨by simp, fun w0 => ?_⟩
 have hc1 : (zSb (zAd 4 1 n) != 0) = false := by rw [h1.c]; rfl
 have hl1 : decide ((10 : Int) < ((l.length : Nat) : Int)) = false := decide_eq_false (by omega)
 repeat' (first | apply zC | apply zA | apply zB | refine zF (by simp only [go_sem, hc1]; rfl) qR ?_ ?_ | refine zM K96x (by simp only [go_sem, hc1]; first | done | rfl) ?_ ⟨n, h1.w, rfl, rfl⟩ (by simp only [go_sem, hc1]; rfl) ?_ | exact zz0 | exact rfl | fail)
 (refine zE qS ?_ ?_ <;> intro hb <;> have hc := hb <;> (try simp only [bF] at hc) <;> (try (exfalso; simp at hc; done)))
 repeat' (first | apply zC | apply zG | apply zA | apply zB | refine zF (by simp only [go_sem, hl1]; rfl) qR ?_ ?_ | exact zz0 | exact rfl | fail)
 (refine zE qS ?_ ?_ <;> intro hb <;> have hc := hb <;> (try simp only [bF] at hc) <;> (try (exfalso; simp at hc; done)))
 repeat' (first | refine zO 2 qS ?_ | apply zC | apply zG | apply zA | apply zB | refine zF qS qR ?_ ?_ | refine zHq A120 qD ?_ ⟨n, s, l, none, ⟨h1, h2, trivial⟩, rfl, rfl, rfl, rfl, rfl⟩ qS ?_ | refine yA qR qS ?_ | exact zz0 | exact rfl | exact zAc.pure rfl | fail)
end Go.Sx
namespace Go.Sx
open Go.Proofs Go.RowKit
structure yFg (k nx0 nx : Nat) (m : Int) (be : Nat → Int) (be' : Int → Nat → Int) : Prop where
 b1 : ∀ z, be z ≤ m
 b2 : ∀ x z, be' x z ≤ m
 A : ∀ z (x : Int), z.testBit k = false → 0 ≤ be z → ¬((nx0 : Int) ≤ x ∧ x < (nx : Int)) → be z ≤ be' x z
 B : ∀ z, z.testBit k = true → 0 ≤ be z → ∃ x : Nat, nx0 ≤ x ∧ x < nx ∧ be z ≤ be' (x : Int) z
def zSk (ow : Nat → Bool) (be : Nat → Int) (skip : Bool) (z : Nat) : Int := zEr ow be z (z + 1) z (if skip = true then be z else -1)
theorem rel_step {k nx0 nx nx1 : Nat} {m : Int} {be : Nat → Int} {be' : Int → Nat → Int} {ow : Nat → Bool} {ow' : Int → Nat → Bool} {skip : Bool} {skip' : Int → Bool} (hk : k < 64) (h01 : nx0 ≤ nx) (h12 : nx ≤ nx1) (hm : 0 ≤ m ∧ m < 900000) (R : yFg k nx0 nx m be be')
  (hE0 : ∀ set (x : Int), set.testBit k = false → ow set = true → ¬((nx : Int) ≤ x ∧ x < (nx1 : Int)) → ow' x set = true)
  (hE1 : ∀ set, set.testBit k = true → ow set = true → ∃ x : Nat, nx ≤ x ∧ x < nx1 ∧ ow' (x : Int) set = true)
  (hsk : ∀ x : Int, ¬((nx : Int) ≤ x ∧ x < (nx1 : Int)) → skip = true → skip' x = true) :
  yFg k nx0 nx1 (m + 1) (zSk ow be skip) (fun x => zSk (ow' x) (be' x) (skip' x)) := by
 have bd : ∀ (o : Nat → Bool) (b : Nat → Int) (q : Bool), (∀ z, b z ≤ m) → ∀ z, zSk o b q z ≤ m + 1 := fun o b q hb z =>
  zR5 ⟨hm.1, by omega⟩ hb _ _ _ (Nat.and_self z) (by split <;> (have := hb z; omega))
 have ini : ∀ (z : Nat) (x : Int), skip = true → ¬((nx : Int) ≤ x ∧ x < (nx1 : Int)) → be' x z ≤ zSk (ow' x) (be' x) (skip' x) z := fun z x h1 h2 => by
  have := zGp (ow' x) (be' x) z (z + 1) z (if skip' x = true then be' x z else -1);rw [if_pos (hsk x h2 h1)] at this;unfold zSk;rw [if_pos (hsk x h2 h1)];exact this
 have put : ∀ (z a : Nat) (x : Int), a &&& z = a → 0 < a → a ≤ z → ow' x a = true → 0 ≤ be (zBo z a) → be (zBo z a) ≤ be' x (zBo z a) → IntKind.i64.wrap (be (zBo z a) + 1) ≤ zSk (ow' x) (be' x) (skip' x) z := fun z a x ha h0 hle h1 h2 h3 => by
  have h4 := zM6 (ow := ow' x) (be := be' x) (z + 1) z (if skip' x = true then be' x z else -1) (Nat.and_self z) (Nat.lt_succ_self z) a ha h0 hle h1 (by omega);have h5 := zTv h2 h3 (by have := R.b2 x (zBo z a); omega);exact Int.le_trans h5 h4
 refine ⟨bd ow be skip R.b1, fun x => bd (ow' x) (be' x) (skip' x) (R.b2 x), fun z x hz hp hx => ?_, fun z hz hp => ?_⟩
 ·rcases zE5 (ow := ow) (be := be) (z + 1) z (if skip = true then be z else -1) (Nat.and_self z) with h | ⟨a, a1, a2, a3, a4, a5, a6⟩
  ·unfold zSk at hp
   unfold zSk;rw [h] at hp ⊢;by_cases hs : skip = true
   ·rw [if_pos hs] at hp ⊢
    exact Int.le_trans (R.A z x hz hp (by omega)) (ini z x hs (by omega))
   ·rw [if_neg hs] at hp; omega
  ·unfold zSk
   rw [a6];have hr : (zBo z a).testBit k = false := by rw [zH0 hk, hz]; rfl
   exact put z a x a1 a2 a3 (hE0 a x (zRa a1 hz) a4 (by omega)) a5 (R.A _ x hr a5 (by omega))
 ·rcases zE5 (ow := ow) (be := be) (z + 1) z (if skip = true then be z else -1) (Nat.and_self z) with h | ⟨a, a1, a2, a3, a4, a5, a6⟩
  ·unfold zSk at hp
   unfold zSk;rw [h] at hp ⊢;by_cases hs : skip = true
   ·rw [if_pos hs] at hp ⊢
    obtain ⟨x, x1, x2, x3⟩ := R.B z hz hp;exact ⟨x, x1, by omega, Int.le_trans x3 (ini z x hs (by omega))⟩
   ·rw [if_neg hs] at hp; omega
  ·cases hak : a.testBit k
   ·have hr : (zBo z a).testBit k = true := by rw [zH0 hk, hz, hak]; rfl
    obtain ⟨x, x1, x2, x3⟩ := R.B _ hr a5;refine ⟨x, x1, by omega, ?_⟩;unfold zSk;rw [a6];exact put z a x a1 a2 a3 (hE0 a x hak a4 (by omega)) a5 x3
   ·have hr : (zBo z a).testBit k = false := by rw [zH0 hk, hz, hak]; rfl
    obtain ⟨x, x1, x2, x3⟩ := hE1 a hak a4;refine ⟨x, by omega, x2, ?_⟩;unfold zSk;rw [a6];exact put z a x a1 a2 a3 x3 a5 (R.A _ x hr a5 (by omega))
end Go.Sx
namespace Go.Sx
open Go.Proofs Go.RowKit
theorem zRt {k nx0 : Nat} {V : Need → Nat → (Nat → Bool) × Nat} {V' : Int → Need → Nat → (Nat → Bool) × Nat} {q : Bool} {fo : Nat → Nat → Bool} {fo' : Int → Nat → Nat → Bool} {P : Need → Prop} (hk : k < 64)
  (hS : ∀ c nx x, (V' x c nx).2 = (V c nx).2) (hG : ∀ c nx, nx ≤ (V c nx).2)
  (hE0 : ∀ c nx set (x : Int), P c → set.testBit k = false → (V c nx).1 set = true → ¬((nx : Int) ≤ x ∧ x < ((V c nx).2 : Int)) → (V' x c nx).1 set = true)
  (hE1 : ∀ c nx set, P c → set.testBit k = true → (V c nx).1 set = true → ∃ x : Nat, nx ≤ x ∧ x < (V c nx).2 ∧ (V' (x : Int) c nx).1 set = true)
  (hfo : ∀ (x : Int) (a b : Nat), ¬((a : Int) ≤ x ∧ x < (b : Int)) → fo' x a b = fo a b) :
  ∀ (r : List Need) (be : Nat → Int) (be' : Int → Nat → Int) (nx : Nat) (m : Int), (∀ c ∈ r, P c) → yFg k nx0 nx m be be' → nx0 ≤ nx → 0 ≤ m → m + (r.length : Int) < 900000 →
   yFg k nx0 (zDy V q fo r be nx).2 (m + (r.length : Int)) (zDy V q fo r be nx).1 (fun x => (zDy (V' x) q (fo' x) r (be' x) nx).1)
 | [], be, be', nx, m, _, R, _, _, _ => by simpa [zDy] using R
 | c :: r, be, be', nx, m, hP, R, h0, hm, hlt => by
  have hl : ((c :: r).length : Int) = (r.length : Int) + 1 := by simp
  rw [hl] at hlt
  have R1 := rel_step (nx1 := (V c nx).2) (ow := (V c nx).1) (ow' := fun x => (V' x c nx).1) (skip := q && !fo nx (V c nx).2) (skip' := fun x => q && !fo' x nx (V c nx).2) hk h0 (hG c nx) ⟨hm, by omega⟩ R
   (fun set x => hE0 c nx set x (hP c List.mem_cons_self)) (fun set => hE1 c nx set (hP c List.mem_cons_self)) (fun x hx h => by rw [hfo x _ _ hx]; exact h)
  have R2 := zRt (q := q) (fo := fo) (fo' := fo') hk hS hG hE0 hE1 hfo r _ _ (V c nx).2 (m + 1) (fun y hy => hP y (List.mem_cons_of_mem _ hy)) R1 (Nat.le_trans h0 (hG c nx)) (by omega) (by omega)
  have e : (fun x => (zDy (V' x) q (fo' x) (c :: r) (be' x) nx).1) = fun x => (zDy (V' x) q (fo' x) r (zSk (V' x c nx).1 (be' x) (q && !fo' x nx (V c nx).2)) (V c nx).2).1 := by
   funext x
   simp only [zDy, hS];rfl
  rw [e, hl, show m + ((r.length : Int) + 1) = m + 1 + (r.length : Int) by omega];exact R2
def NV : Nat → Need → Prop
 | 0, _ => True
 | d + 1, n => 0 ≤ n.N ∧ n.L.length ≤ 1000 ∧ ∀ c ∈ n.L, NV d c
theorem zT3 (s : Scale) (l : List Ach) (dec : List Int) (hk : dec.length < 64) : ∀ (d : Nat) (n : Need) (nx set : Nat), NV d n → (zSn s l dec d n nx).1 set = true →
  (set.testBit dec.length = false → ∀ x : Int, ¬((nx : Int) ≤ x ∧ x < ((zSn s l dec d n nx).2 : Int)) → (zSn s l (dec ++ [x]) d n nx).1 set = true) ∧
  (set.testBit dec.length = true → ∃ x : Nat, nx ≤ x ∧ x < (zSn s l dec d n nx).2 ∧ (zSn s l (dec ++ [(x : Int)]) d n nx).1 set = true) := by
 have leaf : ∀ (n : Need) (nx set : Nat), (decide (0 < set) && (alD dec nx set && zTu n (zD2 n s l set.testBit))) = true →
   (set.testBit dec.length = false → ∀ x : Int, ¬((nx : Int) ≤ x ∧ x < ((nx + 1 : Nat) : Int)) → (decide (0 < set) && (alD (dec ++ [x]) nx set && zTu n (zD2 n s l set.testBit))) = true) ∧
   (set.testBit dec.length = true → ∃ x : Nat, nx ≤ x ∧ x < nx + 1 ∧ (decide (0 < set) && (alD (dec ++ [(x : Int)]) nx set && zTu n (zD2 n s l set.testBit))) = true) := fun n nx set h => by
  simp only [zz3] at h;refine ⟨fun hb x hx => ?_, fun hb => ⟨nx, Nat.le_refl _, Nat.lt_succ_self _, ?_⟩⟩
  ·have hne : (x == (nx : Int)) = false := by rw [beq_eq_false_iff_ne]; omega
   rw [zSi, hb, hne, h.1, h.2.1, h.2.2]; rfl
  ·rw [zSi, hb, beq_self_eq_true, h.1, h.2.1, h.2.2]; rfl
 intro d
 induction d with
 | zero => exact fun n nx set _ h => leaf n nx set h
 | succ d ih =>
  intro n nx set hn h;by_cases hlf : zBm n = true
  ·simp only [zSn, zEj, if_pos hlf] at h ⊢
   exact leaf n nx set h
  ·have hle : 0 ≤ (if n.Kind = 3 then (n.L.length : Int) else n.N) := by
    have := hn.1;split <;> omega
   have R0 : yFg dec.length nx nx 0 (fun z => if z = 0 then 0 else -1) (fun _ z => if z = 0 then 0 else -1) :=
    ⟨fun z => by split <;> omega, fun x z => by split <;> omega, fun z x _ _ _ => Int.le_refl _, fun z hz hp => by
     split at hp
     ·rename_i h0; subst h0; simp at hz
     ·omega⟩
   have R := zRt (q := n.Kind == 4) (fo := foD dec) (fo' := fun x => foD (dec ++ [x])) (V := zSn s l dec d) (V' := fun x => zSn s l (dec ++ [x]) d) (P := NV d) hk (fun c nx x => zT0 s l _ _ _ _ d c nx) (fun c nx => zT2 s l _ _ d c nx)
    (fun c nx set x hc hb hv hx => (ih c nx set hc hv).1 hb x hx) (fun c nx set hc hb hv => (ih c nx set hc hv).2 hb)
    (fun x a b hx => by
     rw [zYu]
     have : (decide ((a : Int) ≤ x) && decide (x < (b : Int))) = false := by
      rw [Bool.and_eq_false_iff, decide_eq_false_iff_not, decide_eq_false_iff_not];by_cases h1 : (a : Int) ≤ x
      ·exact .inr fun h2 => hx ⟨h1, h2⟩
      ·exact .inl h1
     rw [this, Bool.or_false]) n.L _ _ nx 0 hn.2.2 R0 (Nat.le_refl _) (Int.le_refl _) (by have := hn.2.1; omega)
   simp only [zSn, zEj, if_neg hlf, zz3, decide_eq_true_eq] at h ⊢;refine ⟨fun hb x hx => ⟨h.1, ?_⟩, fun hb => ?_⟩
   ·exact Int.le_trans h.2 (R.A set x hb (Int.le_trans hle h.2) hx)
   ·obtain ⟨x, x1, x2, x3⟩ := R.B set hb (Int.le_trans hle h.2)
    exact ⟨x, x1, x2, h.1, Int.le_trans h.2 x3⟩
end Go.Sx
namespace Go.Sx
open Go.Proofs Go.RowKit
theorem yC2 : alD [] = fun _ _ => true := by funext a b; rfl
theorem yCf : foD [] = fun _ _ => false := by funext a b; rfl
theorem yAs (s : Scale) (l : List Ach) : zSn s l [] = zEj s l (fun _ _ => true) (fun _ _ => false) := by
 show zEj s l (alD []) (foD []) = _
 rw [yC2, yCf]
theorem yCz {s : Scale} {l : List Ach} {dec : List Int} (hk : dec.length < 64) {d : Nat} {n : Need} {set : Nat} (hn : NV d n) (h : (zSn s l dec d n 0).1 set = true) (hb : set.testBit dec.length = false) : (zSn s l (dec ++ [-1]) d n 0).1 set = true :=
 (zT3 s l dec hk d n 0 set hn h).1 hb (-1) (by omega)
end Go.Sx
