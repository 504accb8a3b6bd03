/- Part of the proof that the laws of the judge return true for every input: J72, J73. -/
import Derived.Test.YtmbocmonhcplhaaGreatJ71
set_option linter.all false
namespace Go.Sx
open Go.Proofs
theorem SLe.two {a b : SD} {x y : Need} (ha : SLe a (eNeedU x)) (hb : SLe b (eNeedU y)) : SLe (.list 5 2 (nthSD [a, b])) (.list 5 [x, y].length fun i => nthSD (eNeeds [x, y]) i) :=
 by
 have h1 : SLe (.list 5 2 (nthSD [a, b])) (eList 5 eNeedU [x, y]) := SLe.lit rfl rfl ⟨ha, hb, trivial⟩
 exact fun h e v hv => SLe.needs [x, y] h e v (h1 h e v hv)
theorem SLe.hd {α : Type} [Inhabited α] {es : Nat} {a : SD} {r : List SD} {g : α → SD} {x : α} (h : SLe a (g x)) : SLe (.list es 1 (nthSD (a :: r))) (eList es g [x]) :=
 SLe.listS rfl fun i hi => by
  have : i = 0 := by omega
  subst this
  exact h
theorem SLe.cse {m : Int} {a1 a2 a3 b1 b2 b3 d1 d2 : SD} (h1 : SLe a1 (eOffer ⟨cA1, 5, 1, [1], []⟩)) (h2 : SLe a2 (eOffer ⟨cB1, 5, 30, [1], []⟩)) (h3 : SLe a3 (eOffer ⟨cC1, 5, 30, [], [cA1]⟩))
  (k1 : SLe b1 (eItem ⟨4, cA1⟩)) (k2 : SLe b2 (eItem ⟨4, cB1⟩)) (k3 : SLe b3 (eItem ⟨5, cC1⟩)) (e1 : d1 = .list 5 3 (nthSD [a1, a2, a3])) (e2 : d2 = .list 2 3 (nthSD [b1, b2, b3])) :
  SLe (.agg (pCells (sP nC) ++ [.int .i64 0, .int .i64 100, .int .i64 50, .nils, .int .i64 4, .int .i64 2, d1, d2, .int .i64 m, .int .i64 399])) (eCase (sC m)) := by
 subst e1 e2
 exact SLe.agg ⟨SLe.refl _, SLe.refl _, SLe.refl _, SLe.refl _, SLe.refl _, SLe.refl _, SLe.refl _, SLe.refl _, SLe.refl _, SLe.refl _, SLe.refl _, SLe.refl _, SLe.refl _, SLe.refl _, SLe.refl _, SLe.refl _, SLe.refl _, SLe.nil0, SLe.refl _, SLe.refl _,
  SLe.lit rfl rfl ⟨h1, h2, h3, trivial⟩, SLe.lit rfl rfl ⟨k1, k2, k3, trivial⟩, SLe.refl _, SLe.refl _, trivial⟩
theorem SLe.n1 : SLe (.agg [.int .i64 1, .int .i64 0, .int .i64 0, .list 2 1 (nthSD [.agg [.int .i64 1, .str cA1], .agg [.int .i64 1, .str cB1]]), .nils]) (eNeedU n1) :=
 SLe.agg ⟨SLe.refl _, SLe.refl _, SLe.refl _, SLe.hd (SLe.refl _), SLe.nil0, trivial⟩
theorem K16a : FnOK Tryz.prog 16 (fun ds d => SLeL ds [eList 8 eAch [sA cA1 5 5 0, sA cB1 5 5 0]] ∧ d = .bool false) := K16.sle.weaken fun ds d ⟨h1, h2⟩ => ⟨_, h1, _, rfl, h2.trans (by rw [onceF])⟩
theorem K16b : FnOK Tryz.prog 16 (fun ds d => SLeL ds [eList 8 eAch [sA cA1 5 5 2, sA cB1 5 5 2]] ∧ d = .bool true) := K16.sle.weaken fun ds d ⟨h1, h2⟩ => ⟨_, h1, _, rfl, h2.trans (by rw [onceT])⟩
theorem K22a (n : Need) : FnOK Tryz.prog 22 (fun ds d => SLeL ds [eNeedU n] ∧ d = eProg (sP n)) := K22.sle.weaken fun ds d ⟨h1, h2⟩ => ⟨_, h1, n, rfl, h2⟩
theorem K14w (n : Need) (hn : POk 3 (sP n)) (b : Bool) (hb : derF 3 (sP n) sS sL 0 = b) : FnOK Tryz.prog 14 (fun ds d => SLeL ds [eProg (sP n), eScale sS, eList 8 eAch sL, eInt 0] ∧ d = .bool b) :=
 (K14 3 (by omega) (by decide)).sle.weaken fun ds d ⟨h1, h2⟩ => ⟨_, h1, _, _, _, _, hn, rfl, h2.trans (by rw [hb])⟩
theorem K10w (m : Int) (b : Bool) (hb : posF 3 (sC m) = b) : FnOK Tryz.prog 10 (fun ds d => SLeL ds [eCase (sC m)] ∧ d = .bool b) :=
 (K10 3 (by omega) (by decide)).sle.weaken fun ds d ⟨h1, h2⟩ => ⟨_, h1, _, ⟨pokC, by show (3 : Nat) ≤ 10; omega, by show (0 : Nat) ≤ 1000; omega⟩, rfl, h2.trans (by rw [hb])⟩
open Go.Proofs Go.RowKit
attribute [local irreducible] Run RunL RunD SLe0 SLe OLe
set_option maxHeartbeats 2000000
set_option maxRecDepth 8000
theorem K7 : FnOK Tryz.prog 7 (fun ds d => ds = [] ∧ d = .bool true) := by
 have K22u := K22a nCr
 have K22v := K22a nAll
 have K22w := K22a nSome
 have K22x := K22a nC
 have K14u := K14w nCr pokCr true derCr
 have K14v := K14w nAll pokAll false derAll
 have K14x := K14w nSome pokSome true derSome
 refine fn_intro Tryz.call7 Tryz.func7 rfl Tryz.ntmps7 ?_
 rintro ds d ⟨rfl, rfl⟩
 refine ⟨by simp, fun w0 => ?_⟩
 have K10a := K10w 10 true posT
 have K10b := K10w 4 false posN
 repeat' (first | apply zC | apply zA | apply zO | apply zB | refine zF qS qR ?_ ?_ | refine zT qS qR ?_ ?_ | refine zP qK qK ?_ | refine zL K21 qD ?_ ⟨cA1, _, _, rfl, rfl⟩ qS ?_ | refine zL K21 qD ?_ ⟨cB1, _, _, rfl, rfl⟩ qS ?_ | refine zL K16a qD ?_ (by exact ⟨⟨SLe.lit rfl rfl ⟨SLe.refl _, SLe.refl _, trivial⟩, trivial⟩, rfl⟩) qS ?_ | refine zU 23 qR qS K16b qD (fun hg => ?_) (fun _ => (by exact ⟨⟨SLe.lit rfl rfl ⟨SLe.refl _, SLe.refl _, trivial⟩, trivial⟩, rfl⟩)) qS ?_ | refine zW K22u qD ?_ (by exact ⟨⟨SLe.agg ⟨SLe.refl _, SLe.refl _, SLe.refl _, SLe.lit rfl rfl ⟨SLe.refl _, SLe.refl _, trivial⟩, SLe.nil0, trivial⟩, trivial⟩, rfl⟩) qS ?_ | refine zW K22v qD ?_ (by exact ⟨⟨SLe.agg ⟨SLe.refl _, SLe.refl _, SLe.refl _, SLe.nil0, SLe.two (x := n1) (y := n1) SLe.n1 SLe.n1, trivial⟩, trivial⟩, rfl⟩) qS ?_ | refine zW K22w qD ?_ (by exact ⟨⟨SLe.agg ⟨SLe.refl _, SLe.refl _, SLe.refl _, SLe.nil0, SLe.two (x := n1) (y := n1) SLe.n1 SLe.n1, trivial⟩, trivial⟩, rfl⟩) qS ?_ | refine zW K22x qD ?_ (by exact ⟨⟨SLe.agg ⟨SLe.refl _, SLe.refl _, SLe.refl _, SLe.hd (SLe.refl _), SLe.nil0, trivial⟩, trivial⟩, rfl⟩) qS ?_ | refine zW K14u qD ?_ (by exact ⟨⟨SLe.refl _, SLe.refl _, SLe.lit rfl rfl ⟨SLe.refl _, SLe.refl _, trivial⟩, SLe.refl _, trivial⟩, rfl⟩) qS ?_ | refine zW K14v qD ?_ (by exact ⟨⟨SLe.refl _, SLe.refl _, SLe.lit rfl rfl ⟨SLe.refl _, SLe.refl _, trivial⟩, SLe.refl _, trivial⟩, rfl⟩) qS ?_ | refine zW K14x qD ?_ (by exact ⟨⟨SLe.refl _, SLe.refl _, SLe.lit rfl rfl ⟨SLe.refl _, SLe.refl _, trivial⟩, SLe.refl _, trivial⟩, rfl⟩) qS ?_ | refine zU 93 qR qS K10a qD (fun hg => ?_) (fun _ => (by exact ⟨⟨SLe.cse (SLe.off (SLe.refl _) SLe.nil0) (SLe.off (SLe.refl _) SLe.nil0) (SLe.off SLe.nil0 (SLe.one _)) (SLe.refl _) (SLe.refl _) (SLe.refl _) rfl rfl, trivial⟩, rfl⟩)) qS ?_ | refine zU 97 qR qS K10b qD (fun hg => ?_) (fun _ => (by exact ⟨⟨SLe.cse (SLe.off (SLe.refl _) SLe.nil0) (SLe.off (SLe.refl _) SLe.nil0) (SLe.off SLe.nil0 (SLe.one _)) (SLe.refl _) (SLe.refl _) (SLe.refl _) rfl rfl, trivial⟩, rfl⟩)) qS ?_ | refine runL_gT 23 qR qD ?_ | refine zI qR ?_ | exact True.intro | exact rfl | exact SLe0.bool rfl | exact qP | fail)
 all_goals skip
end Go.Sx
namespace Go.Sx
open Go.Proofs
theorem K10s : FnOK Tryz.prog 10 (fun ds v => ∃ c : Case, (POk 3 c.Programme ∧ c.Items.length ≤ 10 ∧ c.Has.length ≤ 1000) ∧ ds = [eCase c] ∧ v = .bool (posF 3 c)) := K10 3 (by omega) (by decide)
theorem K11s : FnOK Tryz.prog 11 (fun ds v => ∃ c : Case, ((POk 3 c.Programme ∧ c.Items.length ≤ 10 ∧ c.Has.length ≤ 1000) ∧ ∀ a ∈ c.Has, DayOk a.Day) ∧ ds = [eCase c] ∧ v = .bool (posF 3 c)) :=
 (K11 3 (by omega) (by decide)).weaken (by
  rintro ds v ⟨c, ⟨h, hd⟩, rfl, rfl⟩
  exact ⟨c, h, rfl, by rw [pos_eq' 3 c hd]⟩)
theorem CaseOk.pos {c : Case} (h : CaseOk c) : POk 3 c.Programme ∧ c.Items.length ≤ 10 ∧ c.Has.length ≤ 1000 := ⟨h.prog, Nat.le_trans h.items (by omega), Nat.le_trans h.has (by omega)⟩
def cut4 (c : Case) : Case := { c with Items := c.Items.take 4 }
theorem SLe.cut (c : Case) {d : SD} (h : SLe d (eList 2 eItem (c.Items.take 4))) : SLe (.agg (pCells c.Programme ++ [.int .i64 c.Scale.Worst, .int .i64 c.Scale.Best, .int .i64 c.Scale.Pass, eList 8 eAch c.Has, .int .i64 c.First, .int .i64 c.Terms, eList 5 eOffer c.Offers, d, .int .i64 c.Most, .int .i64 c.Day])) (eCase (cut4 c)) :=
 SLe.agg ⟨SLe.refl _, SLe.refl _, SLe.refl _, SLe.refl _, SLe.refl _, SLe.refl _, SLe.refl _, SLe.refl _, SLe.refl _, SLe.refl _, SLe.refl _, SLe.refl _, SLe.refl _, SLe.refl _, SLe.refl _, SLe.refl _, SLe.refl _, SLe.refl _, SLe.refl _, SLe.refl _,
  SLe.refl _, h, SLe.refl _, SLe.refl _, trivial⟩
theorem OddOk.pos {c : Case} (h : OddOk c) : POk 3 (cut4 c).Programme ∧ (cut4 c).Items.length ≤ 10 ∧ (cut4 c).Has.length ≤ 1000 := ⟨h.prog, by show (c.Items.take 4).length ≤ 10; rw [List.length_take]; omega, Nat.le_trans h.has (by omega)⟩
theorem K10o : FnOK Tryz.prog 10 (fun ds v => ∃ c : Case, OddOk c ∧ SLeL ds [eCase (cut4 c)] ∧ v = .bool (posF 3 (cut4 c))) := K10s.sle.weaken fun ds d ⟨c, hc, h1, h2⟩ => ⟨_, h1, _, hc.pos, rfl, h2⟩
theorem K11o : FnOK Tryz.prog 11 (fun ds v => ∃ c : Case, OddOk c ∧ SLeL ds [eCase (cut4 c)] ∧ v = .bool (posF 3 (cut4 c))) := K11s.sle.weaken fun ds d ⟨c, hc, h1, h2⟩ => ⟨_, h1, _, ⟨hc.pos, hc.days⟩, rfl, h2⟩
open Go.Proofs Go.RowKit
attribute [local irreducible] Run RunL RunD SLe0 SLe OLe
set_option maxHeartbeats 2000000
set_option maxRecDepth 8000
theorem K3 : FnOK Tryz.prog 3 (fun ds d => ∃ a : Arg, True ∧ ds = [eArg a] ∧ d = .bool true) := by
 obtain ⟨G9, g9, K9⟩ := K9g
 obtain ⟨G8, g8, K8⟩ := K8g
 refine fn_intro Tryz.call3 Tryz.func3 rfl Tryz.ntmps3 ?_
 rintro ds d ⟨a, -, rfl, rfl⟩
 refine ⟨by simp, fun w0 => ?_⟩
 have c1 := g9 a trivial
 have c2 := g8 (G9 a, ⟨a.O1, a.O2, a.O3⟩) c1
 repeat' (first | apply zC | apply zA | apply zO | apply zB | refine zF (by simp only [go_sem, beq_self_eq_true]; rfl) qR ?_ ?_ | refine zT (by simp only [go_sem, beq_self_eq_true]; rfl) qR ?_ ?_ | refine zP qK qK ?_ | refine zL K7 (by simp only [go_sem, beq_self_eq_true]; first | done | rfl) ?_ ⟨rfl, rfl⟩ (by simp only [go_sem, beq_self_eq_true]; rfl) ?_ | refine zW K9 (by simp only [go_sem, beq_self_eq_true]; first | done | rfl) ?_ ⟨_, trivial, rfl, rfl⟩ (by simp only [go_sem, beq_self_eq_true]; rfl) ?_ | refine runDcallg 20 qR (by simp only [go_sem, beq_self_eq_true]; rfl) K9 (by simp only [go_sem, beq_self_eq_true]; first | done | rfl) (fun hg => ?_) (fun _ => ⟨_, trivial, rfl, rfl⟩) (by simp only [go_sem, beq_self_eq_true]; rfl) ?_ | refine zW K8 (by simp only [go_sem, beq_self_eq_true]; first | done | rfl) ?_ ⟨(G9 a, ⟨_, _, _⟩), c1, rfl, rfl⟩ (by simp only [go_sem, beq_self_eq_true]; rfl) ?_ | refine runDcallg 20 qR (by simp only [go_sem, beq_self_eq_true]; rfl) K10s (by simp only [go_sem, beq_self_eq_true]; first | done | rfl) (fun hg => ?_) (fun _ => ⟨_, c1.pos, rfl, rfl⟩) (by simp only [go_sem, beq_self_eq_true]; rfl) ?_ | refine runDcallg 20 qR (by simp only [go_sem, beq_self_eq_true]; rfl) K11s (by simp only [go_sem, beq_self_eq_true]; first | done | rfl) (fun hg => ?_) (fun _ => ⟨_, ⟨c1.pos, c1.days⟩, rfl, rfl⟩) (by simp only [go_sem, beq_self_eq_true]; rfl) ?_ | refine runDcallg 29 qR (by simp only [go_sem, beq_self_eq_true]; rfl) K10o (by simp only [go_sem, beq_self_eq_true]; first | done | rfl) (fun hg => ?_) (fun _ => (by exact ⟨_, c2, ⟨SLe.cut _ (SLe.take2 _ 4), trivial⟩, rfl⟩)) (by simp only [go_sem, beq_self_eq_true]; rfl) ?_ | refine runDcallg 29 qR (by simp only [go_sem, beq_self_eq_true]; rfl) K11o (by simp only [go_sem, beq_self_eq_true]; first | done | rfl) (fun hg => ?_) (fun _ => (by exact ⟨_, c2, ⟨SLe.cut _ (SLe.take2 _ 4), trivial⟩, rfl⟩)) (by simp only [go_sem, beq_self_eq_true]; rfl) ?_ | refine zI qR ?_ | exact True.intro | exact rfl | exact SLe0.bool rfl | exact qP | fail)
 all_goals skip
end Go.Sx
