/- Part of the proof that the laws of the judge return true for every input: J14. -/
import Derived.Test.YtmbocmonhcplhaaGreatJ13
import Derived.Test.YtmbocmonhcplhaaGreatS3
set_option linter.all false
namespace Go.Sx
open Go.Proofs Go.RowKit
attribute [local irreducible] Run zAi zAy zK3 zAc SLe OLe
set_option maxHeartbeats 2000000
set_option maxRecDepth 8000
theorem SLe.needs (l : List Need) : SLe (.list 5 l.length fun i => .agg [.int .i64 (l.getD i default).Kind, .int .i64 (l.getD i default).N, .int .i64 (l.getD i default).Min, zAo 2 zAe (l.getD i default).Set, .list 5 (l.getD i default).L.length fun j => zBc (zB9 (l.getD i default).L) j]) (.list 5 l.length fun i => zBc (zB9 l) i) :=
 SLe.list rfl fun i hi => by rw [zBs l i hi, zDz, zB5]
@[go_sem] theorem Need.Kind_mk (k n m : Int) (s : List Course) (l : List Need) : (Need.mk k n m s l).Kind = k := rfl
@[go_sem] theorem Need.N_mk (k n m : Int) (s : List Course) (l : List Need) : (Need.mk k n m s l).N = n := rfl
@[go_sem] theorem Need.Min_mk (k n m : Int) (s : List Course) (l : List Need) : (Need.mk k n m s l).Min = m := rfl
@[go_sem] theorem Need.Set_mk (k n m : Int) (s : List Course) (l : List Need) : (Need.mk k n m s l).Set = s := rfl
@[go_sem] theorem Need.L_mk (k n m : Int) (s : List Course) (l : List Need) : (Need.mk k n m s l).L = l := rfl
theorem SLe.pair1 (a c : Int) (b d : ByteArray) : SLe (.list 4 1 (zBc [.agg [.int .i64 a, .str b, .int .i64 c, .str d]])) (.list 4 [((⟨a, b⟩, ⟨c, d⟩) : Course × Course)].length fun i => .agg [.int .i64 ([((⟨a, b⟩, ⟨c, d⟩) : Course × Course)].getD i default).1.School, .str ([((⟨a, b⟩, ⟨c, d⟩) : Course × Course)].getD i default).1.Code, .int .i64 ([((⟨a, b⟩, ⟨c, d⟩) : Course × Course)].getD i default).2.School, .str ([((⟨a, b⟩, ⟨c, d⟩) : Course × Course)].getD i default).2.Code]) :=
 SLe.list rfl fun i hi => by
  have : i = 0 := by omega
  subst this; rfl
theorem SLe.take8 (l : List Ach) (n : Nat) : SLe (.list 8 (if (n : Int) < l.length then (n : Int) else l.length).toNat fun i => .agg [.int .i64 (l.getD i default).Course.School, .str (l.getD i default).Course.Code, .int .i64 (l.getD i default).Credits, .int .i64 (l.getD i default).Grade, .int .i64 (l.getD i default).Day, ints (l.getD i default).Sources, .int .i64 (l.getD i default).Bundle, ints (l.getD i default).Path]) (.list 8 (l.take n).length fun i => .agg [.int .i64 ((l.take n).getD i default).Course.School, .str ((l.take n).getD i default).Course.Code, .int .i64 ((l.take n).getD i default).Credits, .int .i64 ((l.take n).getD i default).Grade, .int .i64 ((l.take n).getD i default).Day, ints ((l.take n).getD i default).Sources, .int .i64 ((l.take n).getD i default).Bundle, ints ((l.take n).getD i default).Path]) := by
 refine SLe.list (by rw [List.length_take]; split <;> omega) fun i hi => ?_
 have h : i < n := by revert hi; split <;> omega
 have e : (l.take n).getD i default = l.getD i default := by simp [zz2, List.getElem?_take, h]
 rw [e]
def zOz : List ByteArray := [⟨#[65, 49]⟩, ⟨#[66, 49]⟩, ⟨#[66, 50]⟩, ⟨#[67, 49]⟩, ⟨#[68, 49]⟩, ⟨#[69, 57]⟩]
theorem qE {p : Prop} (h : p := by
 simp only [go_sem]; repeat' (first | exact trivial | exact zz0 | exact SLe.refl _ | exact OLe.refl _ | exact ⟨_, rfl, OLe.refl _⟩ | refine ⟨_, rfl, ?_⟩ | refine OLe.var ?_ | (show zAh _ _; refine ⟨?_, ?_⟩) | (show zAh [] []; exact zz0) | (refine SLe.int ?_; rw [w64]; omega) | refine SLe.int ?_ | refine SLe.bool ?_ | apply And.intro | exact OLe.snoc1 _ _ | exact OLe.snoc2 _ _ | exact SLe.nil0 | exact SLe.nils | exact SLe.take8 _ _ | exact SLe.lit1 _ | exact SLe.needs _ | exact SLe.pair1 _ _ _ _ | exact SLe.refl _ | refine SLe.agg ?_ | refine SLe.tup ?_)) : p := h
theorem zEh : zOz.length = 6 := rfl
theorem K75 : FnOK Tryz.prog 75 (fun ds d => ds = [] ∧ d = strs zOz) := by
 refine zAa Tryz.call75 Tryz.func75 rfl Tryz.ntmps75 ?_
 rintro ds d ⟨rfl, rfl⟩
 refine ⟨by simp, fun w0 => ?_⟩
 repeat' (first | apply zC | apply zA | apply zB | refine zF qS qR ?_ ?_ | refine zI qR ?_ | exact zz0 | exact rfl | exact zAc.pure rfl | fail)
theorem zDq (L : List Int) (k : Nat) (m : Int) (h : 0 < m ∧ m ≤ 1000000) : 0 ≤ nxN L k m ∧ nxN L k m < m := by
 unfold nxN
 split
 ·omega
 ·exact zCf _ _ h.1 h.2
theorem K92 : FnOK Tryz.prog 92 (fun ds d => ∃ a b : Course, ds = [zAe a, zAe b] ∧ d = .bool (decide (a.School < b.School) || (a.School == b.School && Op.bytesLess a.Code.toList b.Code.toList))) := by
 refine zAa Tryz.call92 Tryz.func92 rfl Tryz.ntmps92 ?_
 rintro ds d ⟨a, b, rfl, rfl⟩
 refine ⟨by simp, fun w0 => ?_⟩
 repeat' (first | apply zC | apply zA | apply zB | refine zF qS qR ?_ ?_ | refine zI qR ?_ | exact zz0 | exact rfl | exact zAc.bool rfl | exact qP | fail)
def ofR (n : Int) : Scale := if n = 2 then ⟨5, 1, 3⟩ else if n = 3 then ⟨0, 20, 10⟩ else ⟨0, 100, 50⟩
theorem K13 : FnOK Tryz.prog 13 (fun ds d => ∃ n, ds = [eInt n] ∧ d = zDm (ofR n)) := by
 refine zAa Tryz.call13 Tryz.func13 rfl Tryz.ntmps13 ?_
 rintro ds d ⟨n, rfl, rfl⟩
 refine ⟨by simp, fun w0 => ?_⟩
 repeat' (first | apply zC | apply zG | apply zD | apply zL | apply zA | apply zB | refine zF qS qR ?_ ?_ | (refine zE qS ?_ ?_ <;> intro hb <;> have hc := hb <;> (try simp only [bF] at hc) <;> (try (exfalso; simp at hc; done))) | refine yA qR qS ?_ | exact zz0 | exact rfl | fail)
 ·rw [ofR, if_pos hc]; (refine zAc.le qZ ?_; repeat' (first | exact zz0 | exact SLe.refl _ | refine SLe.agg ?_ | refine SLe.tup ?_ | refine And.intro ?_ ?_ | exact SLe.nils | refine SLe.int ?_ | refine SLe.bool ?_ | refine SLe.str ?_))
 ·rename_i h1; rw [ofR, if_neg h1, if_pos hc]; (refine zAc.le qZ ?_; repeat' (first | exact zz0 | exact SLe.refl _ | refine SLe.agg ?_ | refine SLe.tup ?_ | refine And.intro ?_ ?_ | exact SLe.nils | refine SLe.int ?_ | refine SLe.bool ?_ | refine SLe.str ?_))
 ·rename_i h1; rw [ofR, if_neg h1, if_neg hc]; (refine zAc.le qZ ?_; repeat' (first | exact zz0 | exact SLe.refl _ | refine SLe.agg ?_ | refine SLe.tup ?_ | refine And.intro ?_ ?_ | exact SLe.nils | refine SLe.int ?_ | refine SLe.bool ?_ | refine SLe.str ?_))
end Go.Sx
