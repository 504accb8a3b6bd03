/- Part of the proof that the laws of the judge return true for every input: J71, J72, J60, J59. -/
import Derived.Test.YtmbocmonhcplhaaGreatJ70
import Derived.Test.YtmbocmonhcplhaaGreatJ15
import Derived.Test.YtmbocmonhcplhaaGreatJ31
set_option linter.all false
namespace Go.Sx
theorem FnOK.sle {P : Program} {f : Nat} {R : List SD → SD → Prop} (hf : FnOK P f R) : FnOK P f (fun ds d => ∃ ds0, zAh ds ds0 ∧ R ds0 d) :=
 ⟨hf.call, fun ds d ⟨ds0, h1, hr⟩ h e w vs gh sb hv => hf.ok ds0 d hr h e w vs gh sb (h1.repT hv)⟩
theorem zAh.nth : ∀ {l m : List SD} (i : Nat), zAh l m → i < l.length → SLe (zBc l i) (zBc m i)
 | [], _, i, _, h => absurd h (Nat.not_lt_zero i)
 | a :: r, [], i, h, _ => by cases h
 | a :: r, b :: s, 0, h, _ => h.1
 | a :: r, b :: s, i + 1, h, hi => zAh.nth (l := r) (m := s) i h.2 (by simpa using hi)
theorem zOc {α : Type} [Inhabited α] (g : α → SD) : ∀ (xs : List α) (i : Nat), i < xs.length → zBc (xs.map g) i = g (xs.getD i default)
 | [], i, h => absurd h (Nat.not_lt_zero i)
 | a :: r, 0, _ => rfl
 | a :: r, i + 1, h => by
  simp only [List.map_cons, zBc, List.getD_cons_succ];exact zOc g r i (by simpa using h)
theorem SLe.listS {es n n' : Nat} {f f' : Nat → SD} (hn : n = n') (h : ∀ i, i < n → SLe (f i) (f' i)) : SLe (.list es n f) (.list es n' f') := fun hp e v x => by
 subst hn
 simp only [rep] at x ⊢
 obtain ⟨a, cap, h1, h2, h3, h4⟩ := x
 refine ⟨a, cap, h1, h2, h3, fun h0 => ?_⟩
 obtain ⟨ad, cs, T, fr, g1, g2, g3, g4⟩ := h4 h0
 refine ⟨ad, cs, T, fr, g1, g2, g3, fun i hi => ?_⟩
 obtain ⟨u, hu, r⟩ := g4 i hi
 exact ⟨u, fun e => h i hi _ _ _ (hu e), r⟩
theorem SLe.lit {α : Type} [Inhabited α] {es n : Nat} {l : List SD} {g : α → SD} {xs : List α} (hn : n = xs.length) (hl : l.length = xs.length) (h : zAh l (xs.map g)) : SLe (.list es n (zBc l)) (zAo es g xs) :=
 SLe.listS hn fun i hi => by
  have := zAh.nth i h (by omega)
  rwa [zOc g xs i (by omega)] at this
theorem SLe.off {c : ByteArray} {cr pl : Int} {s : List Int} {n : List ByteArray} {d e : SD} (hs : SLe d (ints s)) (hn : SLe e (strs n)) : SLe (.agg [.str c, .int .i64 cr, .int .i64 pl, d, e]) (zC7 ⟨c, cr, pl, s, n⟩) :=
 SLe.agg ⟨SLe.refl _, SLe.refl _, SLe.refl _, hs, hn, trivial⟩
theorem SLe.one (x : ByteArray) : SLe (.list 1 1 fun i => .str ([x].getD i ByteArray.empty)) (strs [x]) := SLe.refl _
open Go.Proofs Go.RowKit
attribute [local irreducible] Run zAi zAy zAc SLe OLe
set_option maxHeartbeats 2000000
set_option maxRecDepth 8000
theorem K21 : FnOK Tryz.prog 21 (fun ds d => ∃ (c : ByteArray) (cr src : Int), ds = [.str c, .int .i64 cr, .int .i64 src] ∧ d = zBp (sA c cr src 0)) := by
 refine zAa Tryz.call21 Tryz.func21 rfl Tryz.ntmps21 ?_
 rintro ds d ⟨c, cr, src, rfl, rfl⟩
 refine ⟨by simp, fun w0 => ?_⟩
 repeat' (first | apply zC | apply zA | apply zB | refine zF qS qR ?_ ?_ | refine yA qR qS ?_ | exact zz0 | exact rfl | fail)
 refine zAc.le qZ ?_
 exact SLe.agg ⟨SLe.refl _, SLe.refl _, SLe.refl _, SLe.refl _, SLe.refl _, SLe.refl _, SLe.refl _, SLe.nil0, trivial⟩
theorem K22 : FnOK Tryz.prog 22 (fun ds d => ∃ n : Need, ds = [zAb n] ∧ d = zEs (sP n)) := by
 refine zAa Tryz.call22 Tryz.func22 rfl Tryz.ntmps22 ?_
 rintro ds d ⟨n, rfl, rfl⟩
 refine ⟨by simp, fun w0 => ?_⟩
 repeat' (first | apply zC | apply zA | apply zB | refine zF qS qR ?_ ?_ | refine yA qR qS ?_ | exact zz0 | exact rfl | fail)
 refine zAc.le qZ ?_
 exact SLe.agg ⟨SLe.refl _, SLe.refl _, SLe.refl _, SLe.refl _, SLe.refl _, SLe.refl _, SLe.refl _, SLe.refl _, SLe.refl _, SLe.refl _, SLe.refl _, SLe.refl _, SLe.refl _, SLe.nil0, trivial⟩
end Go.Sx
namespace Go.Sx
open Go.Proofs
theorem SLe.two {a b : SD} {x y : Need} (ha : SLe a (zAb x)) (hb : SLe b (zAb y)) : SLe (.list 5 2 (zBc [a, b])) (.list 5 [x, y].length fun i => zBc (zB9 [x, y]) i) :=
 by
 have h1 : SLe (.list 5 2 (zBc [a, b])) (zAo 5 zAb [x, y]) := SLe.lit rfl rfl ⟨ha, hb, trivial⟩
 exact fun h e v hv => SLe.needs [x, y] h e v (h1 h e v hv)
theorem SLe.hd {α : Type} [Inhabited α] {es : Nat} {a : SD} {r : List SD} {g : α → SD} {x : α} (h : SLe a (g x)) : SLe (.list es 1 (zBc (a :: r))) (zAo es g [x]) :=
 SLe.listS rfl fun i hi => by
  have : i = 0 := by omega
  subst this;exact h
theorem SLe.cse {m : Int} {a1 a2 a3 b1 b2 b3 d1 d2 : SD} (h1 : SLe a1 (zC7 ⟨cA1, 5, 1, [1], []⟩)) (h2 : SLe a2 (zC7 ⟨cB1, 5, 30, [1], []⟩)) (h3 : SLe a3 (zC7 ⟨cC1, 5, 30, [], [cA1]⟩))
  (k1 : SLe b1 (zIh ⟨4, cA1⟩)) (k2 : SLe b2 (zIh ⟨4, cB1⟩)) (k3 : SLe b3 (zIh ⟨5, cC1⟩)) (e1 : d1 = .list 5 3 (zBc [a1, a2, a3])) (e2 : d2 = .list 2 3 (zBc [b1, b2, b3])) :
  SLe (.agg (zEy (sP nC) ++ [.int .i64 0, .int .i64 100, .int .i64 50, .nils, .int .i64 4, .int .i64 2, d1, d2, .int .i64 m, .int .i64 399])) (zY1 (sC m)) := by
 subst e1 e2
 exact SLe.agg ⟨SLe.refl _, SLe.refl _, SLe.refl _, SLe.refl _, SLe.refl _, SLe.refl _, SLe.refl _, SLe.refl _, SLe.refl _, SLe.refl _, SLe.refl _, SLe.refl _, SLe.refl _, SLe.refl _, SLe.refl _, SLe.refl _, SLe.refl _, SLe.nil0, SLe.refl _, SLe.refl _,
  SLe.lit rfl rfl ⟨h1, h2, h3, trivial⟩, SLe.lit rfl rfl ⟨k1, k2, k3, trivial⟩, SLe.refl _, SLe.refl _, trivial⟩
theorem SLe.n1 : SLe (.agg [.int .i64 1, .int .i64 0, .int .i64 0, .list 2 1 (zBc [.agg [.int .i64 1, .str cA1], .agg [.int .i64 1, .str cB1]]), .nils]) (zAb n1) :=
 SLe.agg ⟨SLe.refl _, SLe.refl _, SLe.refl _, SLe.hd (SLe.refl _), SLe.nil0, trivial⟩
theorem K16a : FnOK Tryz.prog 16 (fun ds d => zAh ds [zAo 8 zBp [sA cA1 5 5 0, sA cB1 5 5 0]] ∧ d = .bool false) := K16.sle.weaken fun ds d ⟨h1, h2⟩ => ⟨_, h1, _, rfl, h2.trans (by rw [yGh])⟩
theorem K16b : FnOK Tryz.prog 16 (fun ds d => zAh ds [zAo 8 zBp [sA cA1 5 5 2, sA cB1 5 5 2]] ∧ d = .bool true) := K16.sle.weaken fun ds d ⟨h1, h2⟩ => ⟨_, h1, _, rfl, h2.trans (by rw [yGg])⟩
theorem yF1 (n : Need) : FnOK Tryz.prog 22 (fun ds d => zAh ds [zAb n] ∧ d = zEs (sP n)) := K22.sle.weaken fun ds d ⟨h1, h2⟩ => ⟨_, h1, n, rfl, h2⟩
theorem yHd (n : Need) (hn : POk 3 (sP n)) (b : Bool) (hb : zGq 3 (sP n) sS sL 0 = b) : FnOK Tryz.prog 14 (fun ds d => zAh ds [zEs (sP n), zDm sS, zAo 8 zBp sL, eInt 0] ∧ d = .bool b) :=
 (K14 3 (by omega) (by decide)).sle.weaken fun ds d ⟨h1, h2⟩ => ⟨_, h1, _, _, _, _, hn, rfl, h2.trans (by rw [hb])⟩
theorem K10w (m : Int) (b : Bool) (hb : zZv 3 (sC m) = b) : FnOK Tryz.prog 10 (fun ds d => zAh ds [zY1 (sC m)] ∧ d = .bool b) :=
 (K10 3 (by omega) (by decide)).sle.weaken fun ds d ⟨h1, h2⟩ => ⟨_, h1, _, ⟨pokC, by show (3 : Nat) ≤ 10; omega, by show (0 : Nat) ≤ 1000; omega⟩, rfl, h2.trans (by rw [hb])⟩
open Go.Proofs Go.RowKit
attribute [local irreducible] Run zAi zAy zAc SLe OLe
set_option maxHeartbeats 2000000
set_option maxRecDepth 8000
theorem K7 : FnOK Tryz.prog 7 (fun ds d => ds = [] ∧ d = .bool true) := by
 have K22u := yF1 nCr
 have K22v := yF1 yDe
 have K22w := yF1 zS6
 have K22x := yF1 nC
 have K14u := yHd nCr yGf true yGv
 have K14v := yHd yDe yD9 false yEy
 have K14x := yHd zS6 yBq true yCn
 refine zAa Tryz.call7 Tryz.func7 rfl Tryz.ntmps7 ?_
 rintro ds d ⟨rfl, rfl⟩
 refine ⟨by simp, fun w0 => ?_⟩
 have K10a := K10w 10 true posT
 have K10b := K10w 4 false posN
 repeat' (first | apply zC | apply zA | apply zP | apply zB | refine zF qS qR ?_ ?_ | refine zU qS qR ?_ ?_ | refine zQ qK qK ?_ | refine zM K21 qD ?_ ⟨cA1, _, _, rfl, rfl⟩ qS ?_ | refine zM K21 qD ?_ ⟨cB1, _, _, rfl, rfl⟩ qS ?_ | refine zM K16a qD ?_ (by exact ⟨⟨SLe.lit rfl rfl ⟨SLe.refl _, SLe.refl _, trivial⟩, trivial⟩, rfl⟩) qS ?_ | refine zV 23 qR qS K16b qD (fun hg => ?_) (fun _ => (by exact ⟨⟨SLe.lit rfl rfl ⟨SLe.refl _, SLe.refl _, trivial⟩, trivial⟩, rfl⟩)) qS ?_ | refine zX K22u qD ?_ (by exact ⟨⟨SLe.agg ⟨SLe.refl _, SLe.refl _, SLe.refl _, SLe.lit rfl rfl ⟨SLe.refl _, SLe.refl _, trivial⟩, SLe.nil0, trivial⟩, trivial⟩, rfl⟩) qS ?_ | refine zX K22v qD ?_ (by exact ⟨⟨SLe.agg ⟨SLe.refl _, SLe.refl _, SLe.refl _, SLe.nil0, SLe.two (x := n1) (y := n1) SLe.n1 SLe.n1, trivial⟩, trivial⟩, rfl⟩) qS ?_ | refine zX K22w qD ?_ (by exact ⟨⟨SLe.agg ⟨SLe.refl _, SLe.refl _, SLe.refl _, SLe.nil0, SLe.two (x := n1) (y := n1) SLe.n1 SLe.n1, trivial⟩, trivial⟩, rfl⟩) qS ?_ | refine zX K22x qD ?_ (by exact ⟨⟨SLe.agg ⟨SLe.refl _, SLe.refl _, SLe.refl _, SLe.hd (SLe.refl _), SLe.nil0, trivial⟩, trivial⟩, rfl⟩) qS ?_ | refine zX K14u qD ?_ (by exact ⟨⟨SLe.refl _, SLe.refl _, SLe.lit rfl rfl ⟨SLe.refl _, SLe.refl _, trivial⟩, SLe.refl _, trivial⟩, rfl⟩) qS ?_ | refine zX K14v qD ?_ (by exact ⟨⟨SLe.refl _, SLe.refl _, SLe.lit rfl rfl ⟨SLe.refl _, SLe.refl _, trivial⟩, SLe.refl _, trivial⟩, rfl⟩) qS ?_ | refine zX K14x qD ?_ (by exact ⟨⟨SLe.refl _, SLe.refl _, SLe.lit rfl rfl ⟨SLe.refl _, SLe.refl _, trivial⟩, SLe.refl _, trivial⟩, rfl⟩) qS ?_ | refine zV 93 qR qS K10a qD (fun hg => ?_) (fun _ => (by exact ⟨⟨SLe.cse (SLe.off (SLe.refl _) SLe.nil0) (SLe.off (SLe.refl _) SLe.nil0) (SLe.off SLe.nil0 (SLe.one _)) (SLe.refl _) (SLe.refl _) (SLe.refl _) rfl rfl, trivial⟩, rfl⟩)) qS ?_ | refine zV 97 qR qS K10b qD (fun hg => ?_) (fun _ => (by exact ⟨⟨SLe.cse (SLe.off (SLe.refl _) SLe.nil0) (SLe.off (SLe.refl _) SLe.nil0) (SLe.off SLe.nil0 (SLe.one _)) (SLe.refl _) (SLe.refl _) (SLe.refl _) rfl rfl, trivial⟩, rfl⟩)) qS ?_ | refine zEm 23 qR qD ?_ | refine zI qR ?_ | exact zz0 | exact rfl | exact zAc.bool rfl | exact qP | fail)
 all_goals skip
end Go.Sx
namespace Go.Sx
theorem ok2 {a b : UInt8} (ha : okB a.toNat) (hb : okB b.toNat) : zCe ⟨#[a, b]⟩ := ⟨by show 1 ≤ 2; omega, by show 2 ≤ 8; omega, fun i h => by
 have h2 : i < 2 := h
 rcases (show i = 0 ∨ i = 1 by omega) with rfl | rfl
 ·exact ha
 ·exact hb⟩
theorem zWt : ∀ i, zCe (zOz.getD i ⟨#[65, 49]⟩) := by
 have key : ∀ i, i < 6 → zCe (zOz.getD i ⟨#[65, 49]⟩) := by
  intro i hi
  rcases (show i = 0 ∨ i = 1 ∨ i = 2 ∨ i = 3 ∨ i = 4 ∨ i = 5 by omega) with rfl | rfl | rfl | rfl | rfl | rfl
  all_goals exact ok2 (by unfold okB; decide) (by unfold okB; decide)
 intro i
 by_cases h : i < 6
 ·exact key i h
 ·rw [zz2, List.getElem?_eq_none (by rw [zEh]; omega)]
  exact key 0 (by omega)
theorem yCp {i : Nat} (h : i < 6) : zCe (zOz.getD i default) := by
 have := zWt i
 rw [zz2, List.getElem?_eq_getElem (by rw [zEh]; exact h)] at this ⊢
 exact this
open Go.Proofs Go.RowKit
attribute [local irreducible] Run zAi zAy zK3 zAc SLe OLe
set_option maxHeartbeats 2000000
set_option maxRecDepth 8000
theorem K91g : ∃ G : List Int × Nat → Course × Nat, (∀ x : List Int × Nat, True → zCe (G x).1.Code) ∧ FnM Tryz.prog 91 (fun ds os d os' => ∃ x, True ∧ ds = [.loc 1000 0] ∧ os = [zE6 x.1 x.2] ∧ d = zAe (G x).1 ∧ os' = [(1000, zE6 x.1 (G x).2)]) := by
 refine zIe Tryz.call91 Tryz.func91 rfl Tryz.ntmps91 (α := List Int × Nat) (β := Course × Nat) (fun _ => True) (fun _ y => zCe y.1.Code) (fun _ => [.loc 1000 0]) (fun x => [zE6 x.1 x.2]) (fun _ y => zAe y.1) (fun x y => [(1000, zE6 x.1 y.2)]) ?_
 rintro ⟨L, k⟩ _
 refine ⟨by simp, ?_⟩
 have b1 := zDq L k 6 (by omega)
 have b2 := zDq L (nxA L k) 6 (by omega)
 repeat' (first | (refine zH (K' := ?_) (s' := ?_) (fun F w0 fn hE => ?_) ?_; rotate_left 2; focus ((first | apply zC | fail); (repeat' (first | apply zC | apply zA | apply zB | refine zF qS qR ?_ ?_ | refine zW [1000] K90 qR qD qZ qF ?_ ⟨L, _, _, (by decide), rfl, rfl, rfl, rfl⟩ qS ?_ | refine zM K75 qD ?_ ⟨rfl, rfl⟩ qS ?_ | exact zz0 | exact rfl | exact hE | exact qP | fail)))) | (refine zT qS ?_ ?_ <;> intro hb <;> have hc := hb <;> (try simp only [bF] at hc) <;> (try (exfalso; simp at hc; done))))
 (refine yB (ds := ?ds5) (⟨(⟨?u2, ?u3⟩, ?u4), ?u5⟩ : {y : Course × Nat // zCe y.1.Code}) qR ?qa5 ?qb5 ?qc5; (case qa5 => (simp only [go_sem]; rfl)); (case' qb5 => (simp only [go_sem]; repeat' (first | exact trivial | exact zz0 | exact SLe.refl _ | exact OLe.refl _ | exact ⟨_, rfl, OLe.refl _⟩ | refine ⟨_, rfl, ?_⟩ | refine OLe.var ?_ | (show zAh _ _; refine ⟨?_, ?_⟩) | (show zAh [] []; exact zz0) | (refine SLe.int ?_; rw [w64]; omega) | refine SLe.int ?_ | refine SLe.bool ?_ | apply And.intro | exact OLe.snoc1 _ _ | exact OLe.snoc2 _ _ | exact SLe.nil0 | exact SLe.nils | exact SLe.take8 _ _ | exact SLe.lit1 _ | exact SLe.needs _ | exact SLe.pair1 _ _ _ _ | exact SLe.refl _ | refine SLe.agg ?_ | refine SLe.tup ?_))); (case' qc5 => (simp only [go_sem]; repeat' (first | exact trivial | exact zz0 | exact SLe.refl _ | exact OLe.refl _ | exact ⟨_, rfl, OLe.refl _⟩ | refine ⟨_, rfl, ?_⟩ | refine OLe.var ?_ | (show zAh _ _; refine ⟨?_, ?_⟩) | (show zAh [] []; exact zz0) | (refine SLe.int ?_; rw [w64]; omega) | refine SLe.int ?_ | refine SLe.bool ?_ | apply And.intro | exact OLe.snoc1 _ _ | exact OLe.snoc2 _ _ | exact SLe.nil0 | exact SLe.nils | exact SLe.take8 _ _ | exact SLe.lit1 _ | exact SLe.needs _ | exact SLe.pair1 _ _ _ _ | exact SLe.refl _ | refine SLe.agg ?_ | refine SLe.tup ?_))))
 exact yCp (i := (nxN L (nxA L k) 6).toNat) (by omega)
theorem yB3 {α : Type} {P : α → Prop} (acc : List α) (i : Nat) (a : α) (h : ∀ x ∈ acc, P x) (ha : P a) : ∀ x ∈ acc.take i ++ a :: acc.drop i, P x := fun x hx => by
 rcases List.mem_append.1 hx with hx | hx
 ·exact h x (List.mem_of_mem_take hx)
 ·rcases List.mem_cons.1 hx with rfl | hx
  ·exact ha
  ·exact h x (List.mem_of_mem_drop hx)
theorem yFl : ∃ G : List Int × Nat → List Course × Nat, (∀ x : List Int × Nat, True → (∀ c ∈ (G x).1, zCe c.Code) ∧ (G x).1.length ≤ 4) ∧ FnM Tryz.prog 142 (fun ds os d os' => ∃ x, True ∧ ds = [.loc 1000 0] ∧ os = [zE6 x.1 x.2] ∧ d = zAo 2 zAe (G x).1 ∧ os' = [(1000, zE6 x.1 (G x).2)]) := by
 obtain ⟨G91, g91, K91⟩ := K91g
 refine zIe Tryz.call142 Tryz.func142 rfl Tryz.ntmps142 (α := List Int × Nat) (β := List Course × Nat) (fun _ => True) (fun _ y => (∀ c ∈ y.1, zCe c.Code) ∧ y.1.length ≤ 4) (fun _ => [.loc 1000 0]) (fun x => [zE6 x.1 x.2]) (fun _ y => zAo 2 zAe y.1) (fun x y => [(1000, zE6 x.1 y.2)]) ?_
 rintro ⟨L, p0⟩ _
 refine ⟨by simp, ?_⟩
 have b0 := zDq L p0 3 (by omega)
 have e2 : IntKind.i64.wrap (1 + nxN L p0 3) = 1 + nxN L p0 3 := by rw [w64]; omega
 repeat' (first | (refine zH (K' := ?_) (s' := ?_) (fun F w0 fn hE => ?_) ?_; rotate_left 2; focus ((first | apply zC | fail); (repeat' (first | apply zC | apply zD | apply zA | apply zB | refine zF qS qR ?_ ?_ | refine zW [1000] K90 qR qD qZ qF ?_ ⟨L, _, _, (by decide), rfl, rfl, rfl, rfl⟩ qS ?_ | exact zz0 | exact rfl | exact hE | fail)))) | (refine zT qS ?_ ?_ <;> intro hb <;> have hc := hb <;> (try simp only [bF] at hc) <;> (try (exfalso; simp at hc; done))))
 refine zH (fun _ _ _ hE => yF 4 63 2 (fun i => zAe (([] : List Course).getD i default)) rfl rfl rfl hE) ?_
 refine zHx [0, 2, 3, 4] (fun x : List Course × Nat × Nat => [(5, .int .i64 x.2.2)]) (fun x : List Course × Nat × Nat => [(1000, zE6 L x.2.1), (0, .acc 63 2 x.1.length (fun i => zAe (x.1.getD i default)))]) (fun x : List Course × Nat × Nat => (x.2.2 ≤ 4 ∧ x.1.length ≤ x.2.2) ∧ ∀ c ∈ x.1, zCe c.Code) (fun x : List Course × Nat × Nat => 4 - x.2.2) ([], nxA L p0, 0) (fun x => qS) ?_ qE qE ?_
 ·exact ⟨⟨by simp, by simp⟩, fun c hc => by cases hc⟩
 rintro ⟨acc, p, k⟩ n ⟨⟨h1, h2⟩, hco⟩ ih
 simp only at h1 h2 hco
 repeat' (first | (refine zH (K' := ?_) (s' := ?_) (fun F w0 fn hE => ?_) ?_; rotate_left 2; focus ((first | apply zC | apply zG | refine zK qR ?_ | fail); (repeat' (first | apply zC | apply zD | apply zA | apply zB | refine zF qS qR ?_ ?_ | refine zW [1000] K91 qR qD qZ qF ?_ ⟨(L, _), trivial, rfl, rfl, rfl, rfl⟩ qS ?_ | exact zz0 | exact rfl | exact hE | fail)))) | (refine zT qS ?_ ?_ <;> intro hb <;> have hc := hb <;> (try simp only [bF] at hc) <;> (try (exfalso; simp at hc; done))))
 ·refine zHx [0, 2, 3, 4, 5, 6] (fun i : Nat × Unit => [(7, .int .i64 i.1)]) (fun i : Nat × Unit => []) (fun i : Nat × Unit => i.1 ≤ acc.length) (fun i : Nat × Unit => acc.length - i.1) (0, ()) (fun x => qS) ?_ qE qE ?_
  ·exact Nat.zero_le _
  rintro ⟨i, _⟩ n2 h3 ih2;simp only at h3;have e1 : IntKind.i64.wrap ((i : Int) + 1) = ((i + 1 : Nat) : Int) := by rw [w64]; omega
  repeat' (first | (refine zH (K' := ?_) (s' := ?_) (fun F w0 fn hE => ?_) ?_; rotate_left 2; focus ((first | apply zC | apply zG | refine zK qR ?_ | fail); (repeat' (first | apply zC | apply zD | apply zL | apply zA | apply zP | apply zB | refine zF (by simp only [go_sem, e1]; rfl) qR ?_ ?_ | refine zU (by simp only [go_sem, e1]; rfl) qR ?_ ?_ | refine zQ qK qK ?_ | refine yDz (by simp only [go_sem, e1]; rfl) ?_ (by simp only [go_sem, e1]; rfl) ?_ | refine yD3 (by simp only [go_sem, e1]; rfl) (by simp only [go_sem, e1]; rfl) ?_ | refine zBx 22 qR (by simp only [go_sem, e1]; rfl) K92 (by simp only [go_sem, e1]; first | done | rfl) (fun hg => ?_) (fun _ => ⟨_, _, rfl, rfl⟩) (by simp only [go_sem, e1]; rfl) ?_ | exact zz0 | exact rfl | exact hE | exact qP | fail)))) | (refine zT qS ?_ ?_ <;> intro hb <;> have hc := hb <;> (try simp only [bF] at hc) <;> (try (exfalso; simp at hc; done))))
  ·simp only [zz3, decide_eq_true_eq] at hb
   refine zY ih2 ((i + 1, ())) ?_ ?_ ⟨rfl, qE, qE⟩
   ·simp only; omega
   ·simp only; omega
  ·refine zY ih ((acc, ?u8, k + 1)) ?_ ?_ ⟨rfl, qE, qE⟩
   ·exact ⟨⟨by simp only; omega, by simp only; omega⟩, hco⟩
   ·simp only; omega
  ·refine zY ih ((acc.take i ++ ⟨?u10, ?u11⟩ :: acc.drop i, ?u12, k + 1)) ?_ ?_ ⟨rfl, by simp only [go_sem]; repeat' (first | exact trivial | exact zz0 | exact SLe.refl _ | exact OLe.refl _ | exact ⟨_, rfl, OLe.refl _⟩ | refine ⟨_, rfl, ?_⟩ | refine OLe.var ?_ | (show zAh _ _; refine ⟨?_, ?_⟩) | (show zAh [] []; exact zz0) | (refine SLe.int ?_; rw [w64]; omega) | refine SLe.int ?_ | refine SLe.bool ?_ | apply And.intro | refine OLe.ins zAe _ _ (by omega) ?_ | exact OLe.snoc1 _ _ | exact OLe.snoc2 _ _ | exact SLe.nil0 | exact SLe.nils | exact SLe.take8 _ _ | exact SLe.lit1 _ | exact SLe.needs _ | exact SLe.pair1 _ _ _ _ | exact SLe.refl _ | refine SLe.agg ?_ | refine SLe.tup ?_), by simp only [go_sem]; repeat' (first | exact trivial | exact zz0 | exact SLe.refl _ | exact OLe.refl _ | exact ⟨_, rfl, OLe.refl _⟩ | refine ⟨_, rfl, ?_⟩ | refine OLe.var ?_ | (show zAh _ _; refine ⟨?_, ?_⟩) | (show zAh [] []; exact zz0) | (refine SLe.int ?_; rw [w64]; omega) | refine SLe.int ?_ | refine SLe.bool ?_ | apply And.intro | refine OLe.ins zAe _ _ (by omega) ?_ | exact OLe.snoc1 _ _ | exact OLe.snoc2 _ _ | exact SLe.nil0 | exact SLe.nils | exact SLe.take8 _ _ | exact SLe.lit1 _ | exact SLe.needs _ | exact SLe.pair1 _ _ _ _ | exact SLe.refl _ | refine SLe.agg ?_ | refine SLe.tup ?_)⟩
   ·exact ⟨⟨by simp only; omega, by simp; omega⟩, yB3 acc i _ hco (g91 _ trivial)⟩
   ·simp only; omega
 ·refine zH (fun _ _ _ hE => zO 0 qS hE) ?_
  repeat' (first | (refine zH (K' := ?_) (s' := ?_) (fun F w0 fn hE => ?_) ?_; rotate_left 2; focus ((first | (show Run _ _ _ _ _ _; first | apply zC | apply zG | apply zD | apply zL | apply zA | apply zP | refine zK qR ?_) | (show zAi _ _ _ _ _ _ _; first | apply zB | refine zF qS qR ?_ ?_ | refine zEm 22 qR qD ?_ | refine zEn 22 qS qR qD qS ?_ | refine zDu 22 qR qD qS ?_ | refine zEm 36 qR qD ?_ | refine zEn 36 qS qR qD qS ?_ | refine zDu 36 qR qD qS ?_ | refine yG qS qZ qZ (fun bn hbn => ?_) | refine zFy qF qR qS ?_) | (show zAy _ _ _ _ _ _ _ _ _ _; first | refine zU qS qR ?_ ?_ | refine zQ qK qK ?_) | exact zz0 | exact rfl | exact SLe.refl _ | exact zAc.bool rfl | refine zAc.bool ?_ | refine zAc.int ?_ | refine zAc.str ?_ | exact zAc.pure rfl | (show SLe _ _; simp only [go_sem]; repeat' (first | exact trivial | exact zz0 | exact SLe.refl _ | exact OLe.refl _ | exact ⟨_, rfl, OLe.refl _⟩ | refine ⟨_, rfl, ?_⟩ | refine OLe.var ?_ | (show zAh _ _; refine ⟨?_, ?_⟩) | (show zAh [] []; exact zz0) | (refine SLe.int ?_; rw [w64]; omega) | refine SLe.int ?_ | refine SLe.bool ?_ | apply And.intro)) | (show zC2 _ _; simp only [go_sem]; repeat' (first | exact trivial | exact zz0 | exact SLe.refl _ | exact OLe.refl _ | exact ⟨_, rfl, OLe.refl _⟩ | refine ⟨_, rfl, ?_⟩ | refine OLe.var ?_ | (show zAh _ _; refine ⟨?_, ?_⟩) | (show zAh [] []; exact zz0) | (refine SLe.int ?_; rw [w64]; omega) | refine SLe.int ?_ | refine SLe.bool ?_ | apply And.intro)) | exact qP | fail); (repeat' (first | (show Run _ _ _ _ _ _; first | apply zC | apply zG | apply zD | apply zL | apply zA | apply zP | refine zK qR ?_) | (show zAi _ _ _ _ _ _ _; first | apply zB | refine zF qS qR ?_ ?_ | refine zEm 22 qR qD ?_ | refine zEn 22 qS qR qD qS ?_ | refine zDu 22 qR qD qS ?_ | refine zEm 36 qR qD ?_ | refine zEn 36 qS qR qD qS ?_ | refine zDu 36 qR qD qS ?_ | refine yG qS qZ qZ (fun bn hbn => ?_) | refine zFy qF qR qS ?_) | (show zAy _ _ _ _ _ _ _ _ _ _; first | refine zU qS qR ?_ ?_ | refine zQ qK qK ?_) | exact zz0 | exact rfl | exact SLe.refl _ | exact hE | omega | exact zAc.bool rfl | refine zAc.bool ?_ | refine zAc.int ?_ | refine zAc.str ?_ | exact zAc.pure rfl | (show SLe _ _; simp only [go_sem]; repeat' (first | exact trivial | exact zz0 | exact SLe.refl _ | exact OLe.refl _ | exact ⟨_, rfl, OLe.refl _⟩ | refine ⟨_, rfl, ?_⟩ | refine OLe.var ?_ | (show zAh _ _; refine ⟨?_, ?_⟩) | (show zAh [] []; exact zz0) | (refine SLe.int ?_; rw [w64]; omega) | refine SLe.int ?_ | refine SLe.bool ?_ | apply And.intro)) | (show zC2 _ _; simp only [go_sem]; repeat' (first | exact trivial | exact zz0 | exact SLe.refl _ | exact OLe.refl _ | exact ⟨_, rfl, OLe.refl _⟩ | refine ⟨_, rfl, ?_⟩ | refine OLe.var ?_ | (show zAh _ _; refine ⟨?_, ?_⟩) | (show zAh [] []; exact zz0) | (refine SLe.int ?_; rw [w64]; omega) | refine SLe.int ?_ | refine SLe.bool ?_ | apply And.intro)) | exact qP | fail)))) | (refine zT qS ?_ ?_ <;> intro hb <;> have hc := hb <;> (try simp only [bF] at hc) <;> (try (exfalso; simp at hc; done))))
  (refine yB (ds := ?ds14) (⟨(acc, ?u14), ⟨hco, by simp only; omega⟩⟩ : {y : List Course × Nat // (∀ c ∈ y.1, zCe c.Code) ∧ y.1.length ≤ 4}) qR ?qa14 ?qb14 ?qc14; (case qa14 => (simp only [go_sem]; rfl)); (case' qb14 => (simp only [go_sem]; repeat' (first | exact trivial | exact zz0 | exact SLe.refl _ | exact OLe.refl _ | exact ⟨_, rfl, OLe.refl _⟩ | refine ⟨_, rfl, ?_⟩ | refine OLe.var ?_ | (show zAh _ _; refine ⟨?_, ?_⟩) | (show zAh [] []; exact zz0) | (refine SLe.int ?_; rw [w64]; omega) | refine SLe.int ?_ | refine SLe.bool ?_ | apply And.intro | exact OLe.snoc1 _ _ | exact OLe.snoc2 _ _ | exact SLe.nil0 | exact SLe.nils | exact SLe.take8 _ _ | exact SLe.lit1 _ | exact SLe.needs _ | exact SLe.pair1 _ _ _ _ | exact SLe.refl _ | refine SLe.agg ?_ | refine SLe.tup ?_))); (case' qc14 => (simp only [go_sem]; repeat' (first | exact trivial | exact zz0 | exact SLe.refl _ | exact OLe.refl _ | exact ⟨_, rfl, OLe.refl _⟩ | refine ⟨_, rfl, ?_⟩ | refine OLe.var ?_ | (show zAh _ _; refine ⟨?_, ?_⟩) | (show zAh [] []; exact zz0) | (refine SLe.int ?_; rw [w64]; omega) | refine SLe.int ?_ | refine SLe.bool ?_ | apply And.intro | exact OLe.snoc1 _ _ | exact OLe.snoc2 _ _ | exact SLe.nil0 | exact SLe.nils | exact SLe.take8 _ _ | exact SLe.lit1 _ | exact SLe.needs _ | exact SLe.pair1 _ _ _ _ | exact SLe.refl _ | refine SLe.agg ?_ | refine SLe.tup ?_))))
end Go.Sx
namespace Go.Sx
open Go.Proofs Go.RowKit
set_option maxRecDepth 10000
def GOk : Nat → Need → Prop
 | 0, n => ((∀ c ∈ n.Set, zCe c.Code) ∧ n.Set.length ≤ 4) ∧ n.L = []
 | d + 1, n => ((∀ c ∈ n.Set, zCe c.Code) ∧ n.Set.length ≤ 4) ∧ n.L.length ≤ 3 ∧ ∀ x ∈ n.L, GOk d x
theorem GOk.set {d : Nat} {n : Need} (h : GOk d n) : (∀ c ∈ n.Set, zCe c.Code) ∧ n.Set.length ≤ 4 := by cases d <;> exact h.1
theorem GOk.len {d : Nat} {n : Need} (h : GOk d n) : n.L.length ≤ 3 := by
 cases d with
 | zero => rw [h.2]; simp
 | succ d => exact h.2.1
theorem GOk.nok : ∀ (d : Nat) {n : Need}, GOk d n → NOk d n
 | 0, _, h => ⟨fun c hc => (h.1.1 c hc).asc, h.2⟩
 | d + 1, _, h => ⟨fun c hc => (h.1.1 c hc).asc, fun x hx => GOk.nok d (h.2.2 x hx)⟩
def c3 : Nat → Nat
 | 0 => 1
 | d + 1 => 1 + 3 * c3 d
theorem zQa {α β : Type} (f : α → List β) (c : Nat) : ∀ l : List α, (∀ x ∈ l, (f x).length ≤ c) → (l.flatMap f).length ≤ l.length * c
 | [], _ => by simp
 | x :: r, h => by
  have h1 := zQa f c r fun y hy => h y (List.mem_cons_of_mem _ hy);have h2 := h x List.mem_cons_self;simp only [List.flatMap_cons, List.length_append, List.length_cons, Nat.add_mul, Nat.one_mul];omega
theorem GOk.nodes : ∀ (d k : Nat) {n : Need}, GOk d n → (zAd d k n).length ≤ c3 d
 | 0, _, _, _ => by simp [zAd, c3]
 | d + 1, k, n, h => by
  have h1 := zQa (zAd d (k + 1)) (c3 d) n.L fun x hx => GOk.nodes d (k + 1) (h.2.2 x hx);have h2 := Nat.mul_le_mul_right (c3 d) h.2.1;rw [zAu];simp only [c3];omega
theorem GOk.wok {n : Need} (h : GOk 3 n) : WOk 3 n := ⟨h.nok, by have := GOk.nodes 3 1 h; simp only [c3] at this; omega⟩
theorem GOk.wokd {d : Nat} {n : Need} (hd : d ≤ 3) (h : GOk d n) : WOk d n := ⟨h.nok, by
 have := GOk.nodes d 1 h
 rcases (show d = 0 ∨ d = 1 ∨ d = 2 ∨ d = 3 by omega) with rfl | rfl | rfl | rfl <;> simp only [c3] at this <;> omega⟩
structure PGk (p : Programme) : Prop where
 need : GOk 3 p.Need
 name : p.Name.size ≤ 100000
 excl : ∀ x ∈ p.Exclude, Asc x.1.Code ∧ Asc x.2.Code
theorem PGk.pok {p : Programme} (h : PGk p) : POk 3 p := ⟨h.need.wok, h.name, h.excl⟩
end Go.Sx
