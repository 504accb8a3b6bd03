/- Lemmas on the judge: J4, J12, J13, J14, J15. -/
import Derived.Test.YtmbocmonhcplhaaGreatJ3
import Derived.Test.YtmbocmonhcplhaaGreatS3
set_option linter.all false
set_option maxHeartbeats 2000000
set_option maxRecDepth 8000
namespace Go.Sx
open Go.Proofs Tryz Go.RowKit
attribute [local irreducible] Run zAg zAs zAc SLe OLe
def zN2 (n a b : Int) : Int := max (min a b) (min n (max a b))
theorem yJq : FnOK prog 100 (fun ds d => ∃ n a b, ds = [eInt n, eInt a, eInt b] /\ d = eInt (zN2 n a b)) := by
 refine zAb call100 func100 rfl ntmps100 ?_;rintro ds d ⟨n, a, b, rfl, rfl⟩;refine ⟨by simp, fun w0 => ?_⟩
 repeat' (first | refine wA ?_ | refine zE qR ?_ | exact qT | refine zAc.int ?_ | fail)
 simp only [zN2];omega
theorem zCy (n a b : Int) : zN2 n a b = n ↔ min a b <= n /\ n <= max a b := by
 simp only [zN2]; omega
def zA0 (s : Scale) : Bool := decide (-1000 <= min s.Worst s.Best /\ max s.Worst s.Best <= 1000 /\ s.Worst ≠ s.Best /\ min s.Worst s.Best <= s.Pass /\ s.Pass <= max s.Worst s.Best)
theorem K41 : FnOK prog 41 (fun ds d => ∃ s, ds = [zDz s] /\ d = eInt (if zA0 s then 0 else 10)) := by
 refine zAb call41 func41 rfl ntmps41 ?_;rintro ds d ⟨s, rfl, rfl⟩;refine ⟨by simp, fun w0 => ?_⟩
 repeat' (first | refine wA ?_ | exact qT | fail)
 refine zH [1, 9, 10] (fun k : Nat => [(11, .int .i64 k)]) (fun k => []) (fun k => k <= 2 /\ (1 <= k -> -1000 <= s.Worst /\ s.Worst <= 1000) /\ (2 <= k -> -1000 <= s.Best /\ s.Best <= 1000)) (fun k => 2 - k) 0 (fun x => qS) ?_ qL qL ?_
 ·exact ⟨zz7 _, fun h => absurd h (by omega), fun h => absurd h (by omega)⟩
 rintro k ⟨h1, h2, h3⟩;obtain rfl | rfl | rfl : k = 0 \/ k = 1 \/ k = 2 := by omega
 ·repeat' (first | refine wA ?_ | refine zC qS qR ?_ ?_ | refine zG yJq qD ?_ ⟨_, _, _, rfl, rfl⟩ qS ?_ | (refine zAa qS qC qC ?_ ?_ <;> intro hb hc <;> try (simp at hc; done)) | refine zE qR ?_ | refine zL 1 ?_ ?_ ⟨rfl, qL, qL⟩ | exact qT | omega | refine zAc.int ?_ | exact qP | fail)
  ·rw [ne_eq, zCy] at hc
   rw [if_neg]; simp only [zA0, zyf]; omega
  ·rw [zCy] at hc
   omega
 ·repeat' (first | refine wA ?_ | refine zC qS qR ?_ ?_ | refine zG yJq qD ?_ ⟨_, _, _, rfl, rfl⟩ qS ?_ | (refine zAa qS qC qC ?_ ?_ <;> intro hb hc <;> try (simp at hc; done)) | refine zE qR ?_ | refine zL 2 ?_ ?_ ⟨rfl, qL, qL⟩ | exact qT | omega | refine zAc.int ?_ | exact qP | fail)
  ·rw [ne_eq, zCy] at hc
   rw [if_neg]; simp only [zA0, zyf]; omega
  ·rw [zCy] at hc
   omega
 ·repeat' (first | refine wA ?_ | refine zC qS qR ?_ ?_ | refine zM qS qR ?_ ?_ | refine zJ qK qK ?_ | refine zBv 25 qR qS yJq qD (fun hg => ?_) (fun _ => ⟨_, _, _, rfl, rfl⟩) qS ?_ | (refine zAa qS qC qC ?_ ?_ <;> intro hb hc <;> try (simp at hc; done)) | refine zE qR ?_ | refine zF qR ?_ | exact qT | refine zAc.int ?_ | exact qP | fail)
  ·rw [ne_eq, zCy] at hc
   rw [if_neg]; simp only [zA0, zyf]; omega
  ·rw [zCy] at hc
   rw [if_pos]; simp only [zA0, zyf]; omega
def zW3 (s : Scale) (g : Int) : Bool := zA0 s && decide (min s.Worst s.Best <= g /\ g <= max s.Worst s.Best)
theorem K150 : FnOK prog 150 (fun ds d => ∃ s g, ds = [zDz s, eInt g] /\ d = .bool (zW3 s g)) := by
 refine zAb call150 func150 rfl ntmps150 ?_;rintro ds d ⟨s, g, rfl, rfl⟩;refine ⟨by simp, fun w0 => ?_⟩
 repeat' (first | refine wA ?_ | refine zC qS qR ?_ ?_ | refine zG K41 qD ?_ ⟨_, rfl, rfl⟩ qS ?_ | refine zN 8 qR qS yJq qD (fun hg => ?_) (fun _ => ⟨_, _, _, rfl, rfl⟩) qS ?_ | refine zE qR ?_ | exact qT | refine zAc.bool ?_ | exact qP | fail)
 simp only [zW3];cases h : zA0 s
 ·rfl
 ·rw [Bool.eq_iff_iff]; simp [zCy]
def reaches (s : Scale) (g m : Int) : Bool := zW3 s g && (if s.Best > s.Worst then decide (g ≥ m) else decide (g <= m))
theorem yI7 : FnOK prog 104 (fun ds d => ∃ s g m, ds = [zDz s, eInt g, eInt m] /\ d = .bool (reaches s g m)) := by
 refine zAb call104 func104 rfl ntmps104 ?_;rintro ds d ⟨s, g, m, rfl, rfl⟩;refine ⟨by simp, fun w0 => ?_⟩
 repeat' (first | refine wA ?_ | refine zC qS qR ?_ ?_ | refine zG K150 qD ?_ ⟨_, _, rfl, rfl⟩ qS ?_ | refine zE qR ?_ | exact qT | refine zAc.bool ?_ | exact qP | fail)
 simp only [reaches]
 congr 1
 by_cases h : s.Worst < s.Best
 ·rw [if_pos h]; rw [Bool.eq_iff_iff]; simp [h]; omega
 ·rw [if_neg h]; rw [Bool.eq_iff_iff]; simp [h]; omega
def yHy (n m : Int) : Int := (wr (n.tmod m + m)).tmod m
theorem K24 : FnOK prog 24 (fun ds d => ∃ n m, m ≠ 0 /\ ds = [eInt n, eInt m] /\ d = eInt (yHy n m)) := by
 refine zAb call24 func24 rfl ntmps24 ?_;rintro ds d ⟨n, m, hm, rfl, rfl⟩;refine ⟨by simp, fun w0 => ?_⟩
 repeat' (first | refine wA ?_ | refine zC qS qR ?_ ?_ | refine zE qR ?_ | exact qT | refine zAc.int ?_ | exact qP | fail)
theorem K94 : FnOK prog 94 (fun ds d => ∃ n a b, ds = [eInt n, eInt a, eInt b] /\ d = .bool (decide (a <= n) && decide (n <= b))) := by
 refine zAb call94 func94 rfl ntmps94 ?_;rintro ds d ⟨n, a, b, rfl, rfl⟩;refine ⟨by simp, fun w0 => ?_⟩
 repeat' (first | refine wA ?_ | refine zC qS qR ?_ ?_ | refine zE qR ?_ | exact qT | exact zAc.bool rfl | exact qP | fail)
theorem K168 : FnOK prog 168 (fun ds d => ∃ n, ds = [eInt n] /\ d = .bool false) := by
 refine zAb call168 func168 rfl ntmps168 ?_;rintro ds d ⟨n, rfl, rfl⟩;refine ⟨by simp, fun w0 => ?_⟩
 repeat' (first | refine wA ?_ | refine zE qR ?_ | exact qT | refine zAc.bool ?_ | fail)
 simp
def zLt (a b : Int) : Int := if a < b then -1 else if b < a then 1 else 0
theorem yJp : FnOK prog 125 (fun ds d => ∃ a b, ds = [eInt a, eInt b] /\ d = eInt (zLt a b)) := by
 refine zAb call125 func125 rfl ntmps125 ?_;rintro ds d ⟨a, b, rfl, rfl⟩;refine ⟨by simp, fun w0 => ?_⟩
 repeat' (first | refine wA ?_ | refine zG K168 qD ?_ ⟨_, rfl, rfl⟩ qS ?_ | (refine zAa qS qC qC ?_ ?_ <;> intro hb hc <;> try (simp at hc; done)) | refine zE qR ?_ | exact qT | refine zAc.int ?_ | fail)
 all_goals (simp only [zLt]; omega)
theorem K196 : FnOK prog 196 (fun ds d => ∃ n, ds = [eStr n] /\ d = .bool false) := by
 refine zAb call196 func196 rfl ntmps196 ?_;rintro ds d ⟨n, rfl, rfl⟩;refine ⟨by simp, fun w0 => ?_⟩
 repeat' (first | refine wA ?_ | refine zE qR ?_ | exact qT | refine zAc.bool ?_ | fail)
 simp
@[go_sem] theorem kkT103 : kkT prog 103 = some (some .i64) := by kernel_rfl
@[go_sem] theorem mzT103 : mzT prog 103 = some (.bool false) := by kernel_rfl
@[go_sem] theorem kkT148 : kkT prog 148 = some (none) := by kernel_rfl
@[go_sem] theorem mzT148 : mzT prog 148 = some (.bool false) := by kernel_rfl
@[go_sem] theorem kkT149 : kkT prog 149 = some (some .i64) := by kernel_rfl
@[go_sem] theorem mzT149 : mzT prog 149 = some (.int .i64 0) := by kernel_rfl
@[go_sem] theorem kkT208 : kkT prog 208 = some (some .i64) := by kernel_rfl
@[go_sem] theorem mzT208 : mzT prog 208 = some (.agg #[.nilFunc]) := by kernel_rfl
theorem yFf (n m : Int) (h : 0 < m) (h2 : m <= 1000000) : 0 <= yHy n m /\ yHy n m < m := by
 unfold yHy wr;have h1 := Int.tmod_lt_of_pos n h
 have h3 : -m < n.tmod m := by
  have := Int.lt_tmod_of_pos n h;omega
 rw [w64, show (n.tmod m + m + 9223372036854775808) % 18446744073709551616 - 9223372036854775808 = n.tmod m + m by omega];exact ⟨Int.tmod_nonneg _ (by omega), Int.tmod_lt_of_pos _ h⟩
def nxN (L : List Int) (at' : Nat) (m : Int) : Int := if L.length <= at' then 0 else yHy (L.getD at' default) m
def nxA (L : List Int) (at' : Nat) : Nat := if L.length <= at' then at' else at' + 1
def zD0 (L : List Int) (at' : Nat) : OB := .var [lngs L, eInt (at' : Int)]
attribute [go_sem] zD0
theorem K77 : FnM prog 77 (fun ds os d os' => ∃ (L : List Int) (k : Nat) (m : Int), (0 < m /\ m <= 1000000) /\ ds = [.loc 1000 0, eInt m] /\ os = [zD0 L k] /\ d = eInt (nxN L k m) /\ os' = [(1000, zD0 L (nxA L k))]) := by
 refine zA8 call77 func77 rfl ntmps77 ?_;rintro ds os d os' ⟨L, k, m, ⟨hm, hm2⟩, rfl, rfl, rfl, rfl⟩;refine ⟨by simp, fun F w0 => ?_⟩;refine runLng 1000 0 rfl rfl fun hl => ?_;by_cases hk : L.length <= k
 ·simp only [nxN, nxA, if_pos hk]
  repeat' (first | refine wA ?_ | refine zM qS qR ?_ ?_ | refine zJ qK qK ?_ | (refine zAa qS qC qC ?_ ?_ <;> intro hb hc <;> try (simp at hc; done)) | refine zV qR qS ?_ ?_ | exact qT | exact SLe.refl _ | omega | exact qN | fail)
 ·simp only [nxN, nxA, if_neg hk]
  have e1 : IntKind.i64.wrap ((k : Int) + 1) = ((k + 1 : Nat) : Int) := by rw [w64]; omega
  have e2 : IntKind.i64.wrap (((k + 1 : Nat) : Int) - 1) = ((k : Nat) : Int) := by rw [w64]; omega
  repeat' (first | refine wB ?_ | refine zC (by simp only [go_sem, e1, e2]; rfl) qR ?_ ?_ | refine zM (by simp only [go_sem, e1, e2]; rfl) qR ?_ ?_ | refine zJ qK qK ?_ | refine zP K24 (by simp only [go_sem, e1, e2]; first | done | rfl) ?_ ⟨_, _, (by omega), rfl, rfl⟩ (by simp only [go_sem, e1, e2]; rfl) ?_ | (refine zAa (by simp only [go_sem, e1, e2]; rfl) qC qC ?_ ?_ <;> intro hb hc <;> try (simp at hc; done)) | refine zV qR (by simp only [go_sem, e1, e2]; rfl) ?_ ?_ | exact qT | exact SLe.refl _ | omega | (show zEu _ _; simp only [go_sem, e1, e2]; exact qL) | exact qP | fail)
theorem K90 : FnM prog 90 (fun ds os d os' => ∃ (L : List Int) (k : Nat) (m : Int), (0 < m /\ m <= 1000000) /\ ds = [.loc 1000 0, eInt m] /\ os = [zD0 L k] /\ d = eInt (nxN L k m) /\ os' = [(1000, zD0 L (nxA L k))]) := by
 refine zA8 call90 func90 rfl ntmps90 ?_;rintro ds os d os' ⟨L, k, m, ⟨hm, hm2⟩, rfl, rfl, rfl, rfl⟩;refine ⟨by simp, fun F w0 => ?_⟩;refine runLng 1000 0 rfl rfl fun hl => ?_;by_cases hk : L.length <= k
 ·simp only [nxN, nxA, if_pos hk]
  repeat' (first | refine wA ?_ | refine zM qS qR ?_ ?_ | refine zJ qK qK ?_ | (refine zAa qS qC qC ?_ ?_ <;> intro hb hc <;> try (simp at hc; done)) | refine zV qR qS ?_ ?_ | exact qT | exact SLe.refl _ | omega | exact qN | fail)
 ·simp only [nxN, nxA, if_neg hk]
  have e1 : IntKind.i64.wrap ((k : Int) + 1) = ((k + 1 : Nat) : Int) := by rw [w64]; omega
  repeat' (first | refine wB ?_ | refine zC (by simp only [go_sem, e1]; rfl) qR ?_ ?_ | refine zM (by simp only [go_sem, e1]; rfl) qR ?_ ?_ | refine zJ qK qK ?_ | (refine zAa (by simp only [go_sem, e1]; rfl) qC qC ?_ ?_ <;> intro hb hc <;> try (simp at hc; done)) | refine zV qR (by simp only [go_sem, e1]; rfl) ?_ ?_ | exact qT | exact SLe.refl _ | omega | (show zEu _ _; simp only [go_sem, e1]; exact qL) | exact qP | fail)
attribute [local irreducible] zH9
theorem SLe.needs (l : List Need) : SLe (.list 5 l.length fun i => .agg [.int .i64 (l.getD i default).Kind, .int .i64 (l.getD i default).N, .int .i64 (l.getD i default).Min, zAj 2 zAv (l.getD i default).Set, .list 5 (l.getD i default).L.length fun j => zBe (zDh (l.getD i default).L) j]) (.list 5 l.length fun i => zBe (zDh l) i) :=
 SLe.list rfl fun i hi => by rw [zDl l i hi, zFt, zEp]
@[go_sem] theorem Need.Kind_mk (k n m : Int) (s : List Course) (l : List Need) : (Need.mk k n m s l).Kind = k := rfl
@[go_sem] theorem Need.N_mk (k n m : Int) (s : List Course) (l : List Need) : (Need.mk k n m s l).N = n := rfl
@[go_sem] theorem Need.Min_mk (k n m : Int) (s : List Course) (l : List Need) : (Need.mk k n m s l).Min = m := rfl
@[go_sem] theorem Need.Set_mk (k n m : Int) (s : List Course) (l : List Need) : (Need.mk k n m s l).Set = s := rfl
@[go_sem] theorem Need.L_mk (k n m : Int) (s : List Course) (l : List Need) : (Need.mk k n m s l).L = l := rfl
theorem SLe.pair1 (a c : Int) (b d : ByteArray) : SLe (.list 4 1 (zBe [.agg [.int .i64 a, .str b, .int .i64 c, .str d]])) (.list 4 [((⟨a, b⟩, ⟨c, d⟩) : Course × Course)].length fun i => .agg [.int .i64 ([((⟨a, b⟩, ⟨c, d⟩) : Course × Course)].getD i default).1.School, .str ([((⟨a, b⟩, ⟨c, d⟩) : Course × Course)].getD i default).1.Code, .int .i64 ([((⟨a, b⟩, ⟨c, d⟩) : Course × Course)].getD i default).2.School, .str ([((⟨a, b⟩, ⟨c, d⟩) : Course × Course)].getD i default).2.Code]) :=
 SLe.list rfl fun i hi => by
  have : i = 0 := by omega
  subst this; rfl
theorem SLe.take8 (l : List Ach) (n : Nat) : SLe (.list 8 (if (n : Int) < l.length then (n : Int) else l.length).toNat fun i => .agg [.int .i64 (l.getD i default).Course.School, .str (l.getD i default).Course.Code, .int .i64 (l.getD i default).Credits, .int .i64 (l.getD i default).Grade, .int .i64 (l.getD i default).Day, ints (l.getD i default).Sources, .int .i64 (l.getD i default).Bundle, ints (l.getD i default).Path]) (.list 8 (l.take n).length fun i => .agg [.int .i64 ((l.take n).getD i default).Course.School, .str ((l.take n).getD i default).Course.Code, .int .i64 ((l.take n).getD i default).Credits, .int .i64 ((l.take n).getD i default).Grade, .int .i64 ((l.take n).getD i default).Day, ints ((l.take n).getD i default).Sources, .int .i64 ((l.take n).getD i default).Bundle, ints ((l.take n).getD i default).Path]) := by
 refine SLe.list (by rw [zyl]; split <;> omega) fun i hi => ?_;have h : i < n := by revert hi; split <;> omega
 have e : (l.take n).getD i default = l.getD i default := by simp [zz2, List.getElem?_take, h]
 rw [e]
def zGz : List ByteArray := [⟨#[65, 49]⟩, ⟨#[66, 49]⟩, ⟨#[66, 50]⟩, ⟨#[67, 49]⟩, ⟨#[68, 49]⟩, ⟨#[69, 57]⟩]
theorem qE {p : Prop} (h : p := by
 simp only [go_sem];  repeat' (first | exact trivial | exact zz0 | exact SLe.refl _ | exact OLe.refl _ | exact ⟨_, rfl, OLe.refl _⟩ | refine ⟨_, rfl, ?_⟩ | refine OLe.var ?_ | (show zCr _ _; refine ⟨?_, ?_⟩) | (show zCr [] []; exact zz0) | (refine SLe.int ?_; rw [w64]; omega) | refine SLe.int ?_ | refine SLe.bool ?_ | apply And.intro | exact OLe.snoc1 _ _ | exact OLe.snoc2 _ _ | exact SLe.nil0 | exact SLe.nils | exact SLe.take8 _ _ | exact SLe.lit1 _ | exact SLe.needs _ | exact SLe.pair1 _ _ _ _ | exact SLe.refl _ | refine SLe.agg ?_ | refine SLe.tup ?_)) : p := h
theorem qEo {p : Prop} (h : p := by
 simp only [go_sem];  repeat' (first | exact trivial | exact zz0 | exact SLe.refl _ | exact OLe.refl _ | exact ⟨_, rfl, OLe.refl _⟩ | refine ⟨_, rfl, ?_⟩ | refine OLe.var ?_ | (show zCr _ _; refine ⟨?_, ?_⟩) | (show zCr [] []; exact zz0) | (refine SLe.int ?_; rw [w64]; omega) | refine SLe.int ?_ | refine SLe.bool ?_ | apply And.intro | refine ⟨_, rfl, OLe.snoc zAt _ _ ?_⟩ | refine OLe.snoc zAt _ _ ?_ | exact OLe.snoc1 _ _ | exact OLe.snoc2 _ _ | exact SLe.nil0 | exact SLe.nils | exact SLe.take8 _ _ | exact SLe.lit1 _ | exact SLe.needs _ | exact SLe.pair1 _ _ _ _ | exact SLe.refl _ | refine SLe.agg ?_ | refine SLe.tup ?_)) : p := h
theorem qEn {p : Prop} (h : p := by
 simp only [go_sem];  repeat' (first | exact trivial | exact zz0 | exact SLe.refl _ | exact OLe.refl _ | exact ⟨_, rfl, OLe.refl _⟩ | refine ⟨_, rfl, ?_⟩ | refine OLe.var ?_ | (show zCr _ _; refine ⟨?_, ?_⟩) | (show zCr [] []; exact zz0) | (refine SLe.int ?_; rw [w64]; omega) | refine SLe.int ?_ | refine SLe.bool ?_ | apply And.intro | refine ⟨_, rfl, OLe.snoc zAh _ _ ?_⟩ | refine OLe.snoc zAh _ _ ?_ | exact OLe.snoc1 _ _ | exact OLe.snoc2 _ _ | exact SLe.nil0 | exact SLe.nils | exact SLe.take8 _ _ | exact SLe.lit1 _ | exact SLe.needs _ | exact SLe.pair1 _ _ _ _ | exact SLe.refl _ | refine SLe.agg ?_ | refine SLe.tup ?_)) : p := h
theorem qEa {p : Prop} (h : p := by
 simp only [go_sem];  repeat' (first | exact trivial | exact zz0 | exact SLe.refl _ | exact OLe.refl _ | exact ⟨_, rfl, OLe.refl _⟩ | refine ⟨_, rfl, ?_⟩ | refine OLe.var ?_ | (show zCr _ _; refine ⟨?_, ?_⟩) | (show zCr [] []; exact zz0) | (refine SLe.int ?_; rw [w64]; omega) | refine SLe.int ?_ | refine SLe.bool ?_ | apply And.intro | refine ⟨_, rfl, OLe.snoc zCk _ _ ?_⟩ | refine OLe.snoc zCk _ _ ?_ | exact OLe.snoc1 _ _ | exact OLe.snoc2 _ _ | exact SLe.nil0 | exact SLe.nils | exact SLe.take8 _ _ | exact SLe.lit1 _ | exact SLe.needs _ | exact SLe.pair1 _ _ _ _ | exact SLe.refl _ | refine SLe.agg ?_ | refine SLe.tup ?_)) : p := h
theorem qEi {p : Prop} (h : p := by
 simp only [go_sem];  repeat' (first | exact trivial | exact zz0 | exact SLe.refl _ | exact OLe.refl _ | exact ⟨_, rfl, OLe.refl _⟩ | refine ⟨_, rfl, ?_⟩ | refine OLe.var ?_ | (show zCr _ _; refine ⟨?_, ?_⟩) | (show zCr [] []; exact zz0) | (refine SLe.int ?_; rw [w64]; omega) | refine SLe.int ?_ | refine SLe.bool ?_ | apply And.intro | refine OLe.ins zAv _ _ (by omega) ?_ | exact OLe.snoc1 _ _ | exact OLe.snoc2 _ _ | exact SLe.nil0 | exact SLe.nils | exact SLe.take8 _ _ | exact SLe.lit1 _ | exact SLe.needs _ | exact SLe.pair1 _ _ _ _ | exact SLe.refl _ | refine SLe.agg ?_ | refine SLe.tup ?_)) : p := h
theorem zB2 : zGz.length = 6 := rfl
theorem K75 : FnOK prog 75 (fun ds d => ds = [] /\ d = strs zGz) := by
 refine zAb call75 func75 rfl ntmps75 ?_;rintro ds d ⟨rfl, rfl⟩;refine ⟨by simp, fun w0 => ?_⟩
 repeat' (first | refine wA ?_ | refine zE qR ?_ | exact qT | exact zAc.pure rfl | fail)
theorem zA7 (L : List Int) (k : Nat) (m : Int) (h : 0 < m /\ m <= 1000000) : 0 <= nxN L k m /\ nxN L k m < m := by
 unfold nxN;split
 ·omega
 ·exact yFf _ _ h.1 h.2
theorem K92 : FnOK prog 92 (fun ds d => ∃ a b : Course, ds = [zAv a, zAv b] /\ d = .bool (decide (a.School < b.School) || (a.School == b.School && Op.bytesLess a.Code.toList b.Code.toList))) := by
 refine zAb call92 func92 rfl ntmps92 ?_;rintro ds d ⟨a, b, rfl, rfl⟩;refine ⟨by simp, fun w0 => ?_⟩
 repeat' (first | refine wA ?_ | refine zC qS qR ?_ ?_ | refine zE qR ?_ | exact qT | exact zAc.bool rfl | exact qP | fail)
def ofR (n : Int) : Scale := if n = 2 then ⟨5, 1, 3⟩ else if n = 3 then ⟨0, 20, 10⟩ else ⟨0, 100, 50⟩
theorem K13 : FnOK prog 13 (fun ds d => ∃ n, ds = [eInt n] /\ d = zDz (ofR n)) := by
 refine zAb call13 func13 rfl ntmps13 ?_;rintro ds d ⟨n, rfl, rfl⟩;refine ⟨by simp, fun w0 => ?_⟩
 repeat' (first | refine wA ?_ | (refine zAa qS qC qC ?_ ?_ <;> intro hb hc <;> try (simp at hc; done)) | refine zT qR qS ?_ | exact qT | fail)
 ·rw [ofR, if_pos hc]; (refine zAc.le qZ ?_; repeat' (first | exact zz0 | exact SLe.refl _ | refine SLe.agg ?_ | refine SLe.tup ?_ | refine And.intro ?_ ?_ | exact SLe.nils | refine SLe.int ?_ | refine SLe.bool ?_ | refine SLe.str ?_))
 ·rename_i h1; rw [ofR, if_neg h1, if_pos hc]; (refine zAc.le qZ ?_; repeat' (first | exact zz0 | exact SLe.refl _ | refine SLe.agg ?_ | refine SLe.tup ?_ | refine And.intro ?_ ?_ | exact SLe.nils | refine SLe.int ?_ | refine SLe.bool ?_ | refine SLe.str ?_))
 ·rename_i h1; rw [ofR, if_neg h1, if_neg hc]; (refine zAc.le qZ ?_; repeat' (first | exact zz0 | exact SLe.refl _ | refine SLe.agg ?_ | refine SLe.tup ?_ | refine And.intro ?_ ?_ | exact SLe.nils | refine SLe.int ?_ | refine SLe.bool ?_ | refine SLe.str ?_))
@[go_sem] def zAh (n : Need) : SD := .agg [.int .i64 n.Kind, .int .i64 n.N, .int .i64 n.Min, zAj 2 zAv n.Set, .list 5 n.L.length fun i => zBe (zDh n.L) i]
end Go.Sx
