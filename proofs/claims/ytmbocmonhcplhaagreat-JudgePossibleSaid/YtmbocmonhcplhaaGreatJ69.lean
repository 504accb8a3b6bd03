/- Part of the proof that the laws of the judge return true for every input: J69. -/
import Derived.Test.YtmbocmonhcplhaaGreatJ68
set_option linter.all false
namespace Go.Sx
structure OddOk (c : Case) : Prop where
 prog : POk 3 c.Programme
 items : c.Items.length ≤ 5
 has : c.Has.length ≤ 20
 days : ∀ a ∈ c.Has, DayOk a.Day
theorem OLe.acc0 {T es n : Nat} {f g : Nat → SD} : OLe (.acc T es (0 + n) (joinF 0 f g)) (.acc T es n g) := OLe.accS (Nat.zero_add _) fun i _ => by
 simp only [joinF, Nat.not_lt_zero, if_false, Nat.sub_zero]
theorem OddOk.of {c : Case} (h : CaseOk c) (s : Scale) (f t : Int) (o : List Offer) (m d : Int) : OddOk { c with Scale := s, First := f, Terms := t, Offers := o, Most := m, Day := d } :=
 ⟨h.prog, Nat.le_trans h.items (by omega), Nat.le_trans h.has (by omega), h.days⟩
theorem OddOk.item {c : Case} (h : CaseOk c) (x : Item) : OddOk { c with Items := c.Items ++ [x] } :=
 ⟨h.prog, by show (c.Items ++ [x]).length ≤ 5; rw [List.length_append]; have := h.items; simp; omega, Nat.le_trans h.has (by omega), h.days⟩
def aZ : Ach := ⟨⟨5, ⟨#[90]⟩⟩, 1, 0, 0, [], 0, []⟩
theorem SLe.aZ : SLe (.agg [.int .i64 5, .str ⟨#[90]⟩, .int .i64 1, .int .i64 0, .int .i64 0, .nils, .int .i64 0, .nils]) (eAch aZ) :=
 SLe.agg ⟨SLe.refl _, SLe.refl _, SLe.refl _, SLe.refl _, SLe.refl _, SLe.nil0, SLe.refl _, SLe.nil0, trivial⟩
theorem OddOk.set {c : Case} (h : CaseOk c) (i : Nat) (x : Item) : OddOk { c with Items := c.Items.set i x } :=
 ⟨h.prog, by show (c.Items.set i x).length ≤ 5; rw [List.length_set]; have := h.items; omega, Nat.le_trans h.has (by omega), h.days⟩
theorem OddOk.has2 {c : Case} (h : CaseOk c) {l : List Ach} (hl : l.length ≤ 20) (hd : ∀ a ∈ l, DayOk a.Day) : OddOk { c with Has := l } :=
 ⟨h.prog, Nat.le_trans h.items (by omega), hl, hd⟩
theorem OddOk.tot {c : Case} (h : CaseOk c) (x : Int) : OddOk { c with Programme := { c.Programme with Total := x } } :=
 ⟨by obtain ⟨p1, p2⟩ := h; cases p1; constructor <;> assumption, Nat.le_trans h.items (by omega), Nat.le_trans h.has (by omega), h.days⟩
open Go.Proofs Go.RowKit
attribute [local irreducible] Run RunL RunD RunE SLe0 SLe OLe
set_option maxHeartbeats 2000000
set_option maxRecDepth 8000
attribute [go_sem] asA asS recAs
set_option maxHeartbeats 40000000
theorem K8g : ∃ G : Case × Q3 → Case, (∀ x : Case × Q3, CaseOk x.1 → OddOk (G x)) ∧ FnOK Tryz.prog 8 (fun ds d => ∃ x, CaseOk x.1 ∧ ds = [eCase x.1, eQ x.2] ∧ d = eCase (G x)) := by
 obtain ⟨G25, K25⟩ := K25g
 refine fn_introE0 Tryz.call8 Tryz.func8 rfl Tryz.ntmps8 (α := Case × Q3) (β := Case) (fun x => CaseOk x.1) (fun _ y => OddOk y) (fun x => [eCase x.1, eQ x.2]) (fun _ y => eCase y) ?_
 rintro ⟨c, q⟩ hk0
 simp only at hk0
 refine ⟨by simp, ?_⟩
 repeat' (first | (refine zH (K' := ?_) (s' := ?_) (fun F w0 fn hE => ?_) ?_; rotate_left 2; focus ((first | apply zC | fail); (repeat' (first | apply zC | apply zD | apply zA | apply zB | refine zF qS qR ?_ ?_ | exact True.intro | exact rfl | exact hE | fail)))) | (refine zS qS ?_ ?_ <;> intro hb <;> have hc := hb <;> (try simp only [bF] at hc) <;> (try (exfalso; simp at hc; done))))
 refine zH (fun _ _ _ hE => run_nilaccV 3 17 65 8 (fun i => eAch (c.Has.getD i default)) rfl rfl (by simp only [List.set]; rfl) rfl hE) ?_
 have hh := hk0.has
 have hi4 := hk0.items
 refine runE_loop [2, 3, 4, 5] (fun k : Nat × Unit => [(6, .int .i64 k.1)]) (fun k : Nat × Unit => [(4, .acc 65 8 k.1 (fun i => eAch (c.Has.getD i default)))]) (fun k : Nat × Unit => k.1 ≤ c.Has.length) (fun k : Nat × Unit => c.Has.length - k.1) (0, ()) (fun x => qS) ?_ qE qE ?_
 ·exact Nat.zero_le _
 rintro ⟨k, _⟩ n g1 ih
 simp only at g1
 (refine zH (K' := ?_) (s' := ?_) (fun F w0 fn hE => ?_) ?_; rotate_left 2; focus ((first | apply zC | fail); (repeat' (first | apply zC | apply zA | apply zB | refine zF qS qR ?_ ?_ | exact True.intro | exact rfl | exact hE | fail))))
 refine zS qS ?_ ?_ <;> intro hb <;> have hc := hb <;> (try simp only [bF] at hc) <;> (try (exfalso; simp at hc; done))
 ·have hk : k < c.Has.length := by assumption
  repeat' (first | (refine zH (K' := ?_) (s' := ?_) (fun F w0 fn hE => ?_) ?_; rotate_left 2; focus ((first | apply zG | fail); (repeat' (first | apply zC | apply zD | apply zK | apply zA | apply zO | apply zB | refine zF qS qR ?_ ?_ | refine zT qS qR ?_ ?_ | refine zP qK qK ?_ | refine runDapN qS ?_ qS ?_ | refine zW K23 qD ?_ ⟨_, rfl, rfl⟩ qS ?_ | exact True.intro | exact rfl | exact hE | exact qP | fail)))) | (refine zS qS ?_ ?_ <;> intro hb <;> have hc := hb <;> (try simp only [bF] at hc) <;> (try (exfalso; simp at hc; done))))
  refine zH (fun _ _ _ hE => run_ren 5 4 qS hE) ?_
  refine zH (fun _ _ _ hE => zQ 4 qR (OLe.snocI (f := fun i => eAch (c.Has.getD i default)) (fun _ _ => rfl) (SLe.refl _)) hE) ?_
  refine zX ih ((k + 1, ())) ?_ ?_ ⟨rfl, qE, qE⟩
  ·simp only; omega
  ·simp only; omega
 ·obtain rfl : k = c.Has.length := by omega
  have m1 := modR_bd q.b 40 (by omega) (by omega)
  have m0 := modR_bd q.a 10 (by omega) (by omega)
  (refine zH (K' := ?_) (s' := ?_) (fun F w0 fn hE => ?_) ?_; rotate_left 2; focus ((first | refine zJ qR ?_ | fail); (repeat' (first | apply zC | apply zD | apply zA | apply zB | refine zF qS qR ?_ ?_ | refine zL K24 qD ?_ ⟨_, _, (by omega), rfl, rfl⟩ qS ?_ | exact True.intro | exact rfl | exact hE | exact qP | fail))))
  refine zH (fun _ _ _ hE => zQ 5 qR (OLe.acc0) hE) ?_
  generalize modR q.b 40 = z at m1
  generalize modR q.a 10 = u at m0
  have t5 := Int.tmod_nonneg 5 m1.1
  have t5' := Int.tmod_lt_of_pos z (show (0:Int) < 5 by omega)
  have t3 := Int.tmod_nonneg 3 m1.1
  have t3' := Int.tmod_lt_of_pos z (show (0:Int) < 3 by omega)
  have t12 := Int.tmod_nonneg 12 m1.1
  have t12' := Int.tmod_lt_of_pos z (show (0:Int) < 12 by omega)
  have hof := hk0.offs
  repeat' (first | (refine zH (K' := ?_) (s' := ?_) (fun F w0 fn hE => ?_) ?_; rotate_left 2; focus ((first | apply zC | apply zG | apply zA | apply zO | fail); (repeat' (first | apply zC | apply zD | apply zK | apply zA | apply zB | refine zF qS qR ?_ ?_ | refine zT qS qR ?_ ?_ | refine zP qK qK ?_ | refine runDapN qS ?_ qS ?_ | refine runDas qS qS ?_ | refine zL K25 qD ?_ ⟨(c.Offers, ⟨_, _, _⟩), hof, rfl, rfl⟩ qS ?_ | exact True.intro | exact rfl | exact hE | exact qP | fail)))) | (refine zS qS ?_ ?_ <;> intro hb <;> have hc := hb <;> (try simp only [bF] at hc) <;> (try (exfalso; simp at hc; done))))
  ·refine zH (fun _ _ _ hE => zN 4 qS hE) ?_
   refine zH (fun _ _ _ hE => zN 5 qS hE) ?_
   (refine zY (ds := ?ds3) (⟨{ c with Scale := c.Scale, First := ?u3, Terms := c.Terms, Offers := c.Offers, Most := c.Most, Day := c.Day }, OddOk.of hk0 _ _ _ _ _ _⟩ : {y : Case // OddOk y}) qR ?qa3 ?qb3; (case qa3 => (simp only [go_sem]; rfl)); case' qb3 => (refine SLe0.le qZ ?_; simp only [go_sem]; repeat' (first | exact trivial | exact True.intro | exact SLe.refl _ | exact OLe.refl _ | exact ⟨_, rfl, OLe.refl _⟩ | refine ⟨_, rfl, ?_⟩ | refine OLe.var ?_ | (show SLeL _ _; refine ⟨?_, ?_⟩) | (show SLeL [] []; exact True.intro) | (refine SLe.int ?_; rw [w64]; omega) | refine SLe.int ?_ | refine SLe.bool ?_ | apply And.intro | exact OLe.snoc1 _ _ | exact OLe.snoc2 _ _ | exact SLe.nil0 | exact SLe.nils | exact SLe.take8 _ _ | exact SLe.lit1 _ | exact SLe.needs _ | exact SLe.pair1 _ _ _ _ | exact SLe.refl _ | refine SLe.agg ?_ | refine SLe.tup ?_)))
  ·refine zH (fun _ _ _ hE => zN 4 qS hE) ?_
   refine zH (fun _ _ _ hE => zN 5 qS hE) ?_
   (refine zY (ds := ?ds5) (⟨{ c with Scale := c.Scale, First := c.First, Terms := ?u5, Offers := c.Offers, Most := c.Most, Day := c.Day }, OddOk.of hk0 _ _ _ _ _ _⟩ : {y : Case // OddOk y}) qR ?qa5 ?qb5; (case qa5 => (simp only [go_sem]; rfl)); case' qb5 => (refine SLe0.le qZ ?_; simp only [go_sem]; repeat' (first | exact trivial | exact True.intro | exact SLe.refl _ | exact OLe.refl _ | exact ⟨_, rfl, OLe.refl _⟩ | refine ⟨_, rfl, ?_⟩ | refine OLe.var ?_ | (show SLeL _ _; refine ⟨?_, ?_⟩) | (show SLeL [] []; exact True.intro) | (refine SLe.int ?_; rw [w64]; omega) | refine SLe.int ?_ | refine SLe.bool ?_ | apply And.intro | exact OLe.snoc1 _ _ | exact OLe.snoc2 _ _ | exact SLe.nil0 | exact SLe.nils | exact SLe.take8 _ _ | exact SLe.lit1 _ | exact SLe.needs _ | exact SLe.pair1 _ _ _ _ | exact SLe.refl _ | refine SLe.agg ?_ | refine SLe.tup ?_)))
  ·refine zH (fun _ _ _ hE => zN 4 qS hE) ?_
   refine zH (fun _ _ _ hE => zN 5 qS hE) ?_
   (refine zY (ds := ?ds7) (⟨{ c with Scale := c.Scale, First := c.First, Terms := c.Terms, Offers := c.Offers, Most := ?u7, Day := c.Day }, OddOk.of hk0 _ _ _ _ _ _⟩ : {y : Case // OddOk y}) qR ?qa7 ?qb7; (case qa7 => (simp only [go_sem]; rfl)); case' qb7 => (refine SLe0.le qZ ?_; simp only [go_sem]; repeat' (first | exact trivial | exact True.intro | exact SLe.refl _ | exact OLe.refl _ | exact ⟨_, rfl, OLe.refl _⟩ | refine ⟨_, rfl, ?_⟩ | refine OLe.var ?_ | (show SLeL _ _; refine ⟨?_, ?_⟩) | (show SLeL [] []; exact True.intro) | (refine SLe.int ?_; rw [w64]; omega) | refine SLe.int ?_ | refine SLe.bool ?_ | apply And.intro | exact OLe.snoc1 _ _ | exact OLe.snoc2 _ _ | exact SLe.nil0 | exact SLe.nils | exact SLe.take8 _ _ | exact SLe.lit1 _ | exact SLe.needs _ | exact SLe.pair1 _ _ _ _ | exact SLe.refl _ | refine SLe.agg ?_ | refine SLe.tup ?_)))
  ·refine zH (fun _ _ _ hE => zN 4 qS hE) ?_
   refine zH (fun _ _ _ hE => zN 5 qS hE) ?_
   (refine zY (ds := ?ds9) (⟨{ c with Scale := c.Scale, First := c.First, Terms := c.Terms, Offers := c.Offers, Most := c.Most, Day := ?u9 }, OddOk.of hk0 _ _ _ _ _ _⟩ : {y : Case // OddOk y}) qR ?qa9 ?qb9; (case qa9 => (simp only [go_sem]; rfl)); case' qb9 => (refine SLe0.le qZ ?_; simp only [go_sem]; repeat' (first | exact trivial | exact True.intro | exact SLe.refl _ | exact OLe.refl _ | exact ⟨_, rfl, OLe.refl _⟩ | refine ⟨_, rfl, ?_⟩ | refine OLe.var ?_ | (show SLeL _ _; refine ⟨?_, ?_⟩) | (show SLeL [] []; exact True.intro) | (refine SLe.int ?_; rw [w64]; omega) | refine SLe.int ?_ | refine SLe.bool ?_ | apply And.intro | exact OLe.snoc1 _ _ | exact OLe.snoc2 _ _ | exact SLe.nil0 | exact SLe.nils | exact SLe.take8 _ _ | exact SLe.lit1 _ | exact SLe.needs _ | exact SLe.pair1 _ _ _ _ | exact SLe.refl _ | refine SLe.agg ?_ | refine SLe.tup ?_)))
  ·refine zH (fun _ _ _ hE => zN 4 qS hE) ?_
   refine zH (fun _ _ _ hE => zN 5 qS hE) ?_
   (refine zY (ds := ?ds13) (⟨{ c with Scale := ⟨?u11, ?u12, ?u13⟩, First := c.First, Terms := c.Terms, Offers := c.Offers, Most := c.Most, Day := c.Day }, OddOk.of hk0 _ _ _ _ _ _⟩ : {y : Case // OddOk y}) qR ?qa13 ?qb13; (case qa13 => (simp only [go_sem]; rfl)); case' qb13 => (refine SLe0.le qZ ?_; simp only [go_sem]; repeat' (first | exact trivial | exact True.intro | exact SLe.refl _ | exact OLe.refl _ | exact ⟨_, rfl, OLe.refl _⟩ | refine ⟨_, rfl, ?_⟩ | refine OLe.var ?_ | (show SLeL _ _; refine ⟨?_, ?_⟩) | (show SLeL [] []; exact True.intro) | (refine SLe.int ?_; rw [w64]; omega) | refine SLe.int ?_ | refine SLe.bool ?_ | apply And.intro | exact OLe.snoc1 _ _ | exact OLe.snoc2 _ _ | exact SLe.nil0 | exact SLe.nils | exact SLe.take8 _ _ | exact SLe.lit1 _ | exact SLe.needs _ | exact SLe.pair1 _ _ _ _ | exact SLe.refl _ | refine SLe.agg ?_ | refine SLe.tup ?_)))
  ·refine zH (fun _ _ _ hE => run_ren 6 5 qS hE) ?_
   refine zH (fun _ _ _ hE => zQ 5 qR (OLe.snocF eItem c.Items ⟨_, _⟩ (SLe.refl _)) hE) ?_
   refine zH (fun _ _ _ hE => zN 4 qS hE) ?_
   refine zH (fun _ _ _ hE => zN 5 qS hE) ?_
   (refine zY (ds := ?ds16) (⟨{ c with Items := c.Items ++ [⟨?u15, ?u16⟩] }, OddOk.item hk0 _⟩ : {y : Case // OddOk y}) qR ?qa16 ?qb16; (case qa16 => (simp only [go_sem]; rfl)); case' qb16 => (refine SLe0.le qZ ?_; simp only [go_sem]; repeat' (first | exact trivial | exact True.intro | exact SLe.refl _ | exact OLe.refl _ | exact ⟨_, rfl, OLe.refl _⟩ | refine ⟨_, rfl, ?_⟩ | refine OLe.var ?_ | (show SLeL _ _; refine ⟨?_, ?_⟩) | (show SLeL [] []; exact True.intro) | (refine SLe.int ?_; rw [w64]; omega) | refine SLe.int ?_ | refine SLe.bool ?_ | apply And.intro | exact OLe.snoc1 _ _ | exact OLe.snoc2 _ _ | exact SLe.nil0 | exact SLe.nils | exact SLe.take8 _ _ | exact SLe.lit1 _ | exact SLe.needs _ | exact SLe.pair1 _ _ _ _ | exact SLe.refl _ | refine SLe.agg ?_ | refine SLe.tup ?_)))
  ·refine runE_loop [2, 3, 4, 5, 7] (fun x : List Ach × Nat => [(8, .int .i64 x.2)]) (fun x : List Ach × Nat => [(4, .acc 65 8 x.1.length (fun i => eAch (x.1.getD i default)))]) (fun x : List Ach × Nat => x.2 ≤ 12 ∧ x.1.length ≤ 3 + x.2 ∧ ∀ a ∈ x.1, DayOk a.Day) (fun x : List Ach × Nat => 12 - x.2) (c.Has, 0) (fun x => qS) ?_ qE qE ?_
   ·exact ⟨by simp, by simp; omega, hk0.days⟩
   rintro ⟨hs, i⟩ n2 ⟨f1, f2, f3⟩ ih2
   simp only at f1 f2 f3
   (refine zH (K' := ?_) (s' := ?_) (fun F w0 fn hE => ?_) ?_; rotate_left 2; focus ((first | apply zC | fail); (repeat' (first | apply zC | apply zA | apply zB | refine zF qS qR ?_ ?_ | exact rfl | exact hE | exact qP | fail))))
   refine zS qS ?_ ?_ <;> intro hb <;> have hc := hb <;> (try simp only [bF] at hc) <;> (try (exfalso; simp at hc; done))
   ·repeat' (first | (refine zH (K' := ?_) (s' := ?_) (fun F w0 fn hE => ?_) ?_; rotate_left 2; focus ((first | apply zG | fail); (repeat' (first | apply zC | apply zD | apply zK | apply zA | apply zB | refine zF qS qR ?_ ?_ | exact True.intro | exact rfl | exact hE | exact qP | fail)))) | (refine zS qS ?_ ?_ <;> intro hb <;> have hc := hb <;> (try simp only [bF] at hc) <;> (try (exfalso; simp at hc; done))))
    refine zH (fun _ _ _ hE => zQ 4 qR (OLe.snocF eAch hs aZ SLe.aZ) hE) ?_
    refine zX ih2 ((hs ++ [aZ], i + 1)) ?_ ?_ ⟨rfl, qE, qE⟩
    ·refine ⟨by simp only; omega, by simp; omega, fun a ha => ?_⟩
     rcases List.mem_append.1 ha with h | h
     ·exact f3 a h
     ·rw [List.mem_singleton.1 h]; show DayOk 0; unfold DayOk; decide
    ·simp only; omega
   ·repeat' (first | (refine zH (K' := ?_) (s' := ?_) (fun F w0 fn hE => ?_) ?_; rotate_left 2; focus ((first | refine zJ qR ?_ | fail); (repeat' (first | apply zC | apply zK | apply zA | apply zB | refine zF qS qR ?_ ?_ | exact True.intro | exact rfl | exact hE | fail)))) | (refine zS qS ?_ ?_ <;> intro hb <;> have hc := hb <;> (try simp only [bF] at hc) <;> (try (exfalso; simp at hc; done))))
    refine zH (fun _ _ _ hE => zN 4 qS hE) ?_
    refine zH (fun _ _ _ hE => zN 5 qS hE) ?_
    (refine zY (ds := ?ds18) (⟨{ c with Has := hs }, OddOk.has2 hk0 (by omega) f3⟩ : {y : Case // OddOk y}) qR ?qa18 ?qb18; (case qa18 => (simp only [go_sem]; rfl)); case' qb18 => (refine SLe0.le qZ ?_; simp only [go_sem]; repeat' (first | exact trivial | exact True.intro | exact SLe.refl _ | exact OLe.refl _ | exact ⟨_, rfl, OLe.refl _⟩ | refine ⟨_, rfl, ?_⟩ | refine OLe.var ?_ | (show SLeL _ _; refine ⟨?_, ?_⟩) | (show SLeL [] []; exact True.intro) | (refine SLe.int ?_; rw [w64]; omega) | refine SLe.int ?_ | refine SLe.bool ?_ | apply And.intro | exact OLe.snoc1 _ _ | exact OLe.snoc2 _ _ | exact SLe.nil0 | exact SLe.nils | exact SLe.take8 _ _ | exact SLe.lit1 _ | exact SLe.needs _ | exact SLe.pair1 _ _ _ _ | exact SLe.refl _ | refine SLe.agg ?_ | refine SLe.tup ?_)))
  ·refine zH (fun _ _ _ hE => zN 4 qS hE) ?_
   refine zH (fun _ _ _ hE => zN 5 qS hE) ?_
   (refine zY (ds := ?ds20) (⟨{ c with Scale := c.Scale, First := c.First, Terms := c.Terms, Offers := ?u20, Most := c.Most, Day := c.Day }, OddOk.of hk0 _ _ _ _ _ _⟩ : {y : Case // OddOk y}) qR ?qa20 ?qb20; (case qa20 => (simp only [go_sem]; rfl)); case' qb20 => (refine SLe0.le qZ ?_; simp only [go_sem]; repeat' (first | exact trivial | exact True.intro | exact SLe.refl _ | exact OLe.refl _ | exact ⟨_, rfl, OLe.refl _⟩ | refine ⟨_, rfl, ?_⟩ | refine OLe.var ?_ | (show SLeL _ _; refine ⟨?_, ?_⟩) | (show SLeL [] []; exact True.intro) | (refine SLe.int ?_; rw [w64]; omega) | refine SLe.int ?_ | refine SLe.bool ?_ | apply And.intro | exact OLe.snoc1 _ _ | exact OLe.snoc2 _ _ | exact SLe.nil0 | exact SLe.nils | exact SLe.take8 _ _ | exact SLe.lit1 _ | exact SLe.needs _ | exact SLe.pair1 _ _ _ _ | exact SLe.refl _ | refine SLe.agg ?_ | refine SLe.tup ?_)))
  ·refine zH (fun _ _ _ hE => zN 4 qS hE) ?_
   refine zH (fun _ _ _ hE => zN 5 qS hE) ?_
   (refine zY (ds := ?ds22) (⟨{ c with Programme := { c.Programme with Total := ?u22 } }, OddOk.tot hk0 _⟩ : {y : Case // OddOk y}) qR ?qa22 ?qb22; (case qa22 => (simp only [go_sem]; rfl)); case' qb22 => (refine SLe0.le qZ ?_; simp only [go_sem]; repeat' (first | exact trivial | exact True.intro | exact SLe.refl _ | exact OLe.refl _ | exact ⟨_, rfl, OLe.refl _⟩ | refine ⟨_, rfl, ?_⟩ | refine OLe.var ?_ | (show SLeL _ _; refine ⟨?_, ?_⟩) | (show SLeL [] []; exact True.intro) | (refine SLe.int ?_; rw [w64]; omega) | refine SLe.int ?_ | refine SLe.bool ?_ | apply And.intro | exact OLe.snoc1 _ _ | exact OLe.snoc2 _ _ | exact SLe.nil0 | exact SLe.nils | exact SLe.take8 _ _ | exact SLe.lit1 _ | exact SLe.needs _ | exact SLe.pair1 _ _ _ _ | exact SLe.refl _ | refine SLe.agg ?_ | refine SLe.tup ?_)))
  ·have hi0 : 0 < c.Items.length := by rename_i h; omega
   have q1 := Int.tmod_nonneg (c.Items.length : Int) m1.1
   have q2 := Int.tmod_lt_of_pos z (show (0:Int) < (c.Items.length : Int) by omega)
   simp only [allP]; exact ⟨by omega, by omega, q1, q2, trivial⟩
  ·refine zH (fun _ _ _ hE => zQ 5 qR (OLe.setE eItem c.Items _ ⟨_, (c.Items.getD _ default).Code⟩ (SLe.refl _)) hE) ?_
   refine zH (fun _ _ _ hE => zN 4 qS hE) ?_
   refine zH (fun _ _ _ hE => zN 5 qS hE) ?_
   (refine zY (ds := ?ds26) (⟨{ c with Items := c.Items.set ?u24 ⟨?u25, ?u26⟩ }, OddOk.set hk0 _ _⟩ : {y : Case // OddOk y}) qR ?qa26 ?qb26; (case qa26 => (simp only [go_sem]; rfl)); case' qb26 => (refine SLe0.le qZ ?_; simp only [go_sem]; repeat' (first | exact trivial | exact True.intro | exact SLe.refl _ | exact OLe.refl _ | exact ⟨_, rfl, OLe.refl _⟩ | refine ⟨_, rfl, ?_⟩ | refine OLe.var ?_ | (show SLeL _ _; refine ⟨?_, ?_⟩) | (show SLeL [] []; exact True.intro) | (refine SLe.int ?_; rw [w64]; omega) | refine SLe.int ?_ | refine SLe.bool ?_ | apply And.intro | exact OLe.snoc1 _ _ | exact OLe.snoc2 _ _ | exact SLe.nil0 | exact SLe.nils | exact SLe.take8 _ _ | exact SLe.lit1 _ | exact SLe.needs _ | exact SLe.pair1 _ _ _ _ | exact SLe.refl _ | refine SLe.agg ?_ | refine SLe.tup ?_)))
  ·refine zH (fun _ _ _ hE => zN 4 qS hE) ?_
   refine zH (fun _ _ _ hE => zN 5 qS hE) ?_
   (refine zY (ds := ?ds27) (⟨{ c with Scale := c.Scale, First := c.First, Terms := c.Terms, Offers := c.Offers, Most := c.Most, Day := c.Day }, OddOk.of hk0 _ _ _ _ _ _⟩ : {y : Case // OddOk y}) qR ?qa27 ?qb27; (case qa27 => (simp only [go_sem]; rfl)); case' qb27 => (refine SLe0.le qZ ?_; simp only [go_sem]; repeat' (first | exact trivial | exact True.intro | exact SLe.refl _ | exact OLe.refl _ | exact ⟨_, rfl, OLe.refl _⟩ | refine ⟨_, rfl, ?_⟩ | refine OLe.var ?_ | (show SLeL _ _; refine ⟨?_, ?_⟩) | (show SLeL [] []; exact True.intro) | (refine SLe.int ?_; rw [w64]; omega) | refine SLe.int ?_ | refine SLe.bool ?_ | apply And.intro | exact OLe.snoc1 _ _ | exact OLe.snoc2 _ _ | exact SLe.nil0 | exact SLe.nils | exact SLe.take8 _ _ | exact SLe.lit1 _ | exact SLe.needs _ | exact SLe.pair1 _ _ _ _ | exact SLe.refl _ | refine SLe.agg ?_ | refine SLe.tup ?_)))
  ·refine zH (fun _ _ _ hE => zN 4 qS hE) ?_
   refine zH (fun _ _ _ hE => zN 5 qS hE) ?_
   (refine zY (ds := ?ds28) (⟨{ c with Scale := c.Scale, First := c.First, Terms := c.Terms, Offers := c.Offers, Most := c.Most, Day := c.Day }, OddOk.of hk0 _ _ _ _ _ _⟩ : {y : Case // OddOk y}) qR ?qa28 ?qb28; (case qa28 => (simp only [go_sem]; rfl)); case' qb28 => (refine SLe0.le qZ ?_; simp only [go_sem]; repeat' (first | exact trivial | exact True.intro | exact SLe.refl _ | exact OLe.refl _ | exact ⟨_, rfl, OLe.refl _⟩ | refine ⟨_, rfl, ?_⟩ | refine OLe.var ?_ | (show SLeL _ _; refine ⟨?_, ?_⟩) | (show SLeL [] []; exact True.intro) | (refine SLe.int ?_; rw [w64]; omega) | refine SLe.int ?_ | refine SLe.bool ?_ | apply And.intro | exact OLe.snoc1 _ _ | exact OLe.snoc2 _ _ | exact SLe.nil0 | exact SLe.nils | exact SLe.take8 _ _ | exact SLe.lit1 _ | exact SLe.needs _ | exact SLe.pair1 _ _ _ _ | exact SLe.refl _ | refine SLe.agg ?_ | refine SLe.tup ?_)))
end Go.Sx
