/- Part of the proof that the laws of the judge return true for every input: J10, J11. -/
import Derived.Test.YtmbocmonhcplhaaGreatJ9
set_option linter.all false
namespace Go.Sx
open Go.Proofs Go.RowKit
attribute [local irreducible] Run RunL RunD SLe0 SLe OLe
set_option maxHeartbeats 2000000
set_option maxRecDepth 8000
theorem sameP_comm (a b : Course × Course) : sameP a b = sameP b a := by
 simp only [sameP]
 rw [Bool.eq_iff_iff]
 simp only [Bool.and_eq_true, beq_iff_eq]
 constructor
 ·rintro ⟨h1, h2, h3, h4⟩; exact ⟨h1.symm, h2.symm, h3.symm, h4.symm⟩
 ·rintro ⟨h1, h2, h3, h4⟩; exact ⟨h1.symm, h2.symm, h3.symm, h4.symm⟩
theorem excl_any (p : Programme) (a b : Course) : ((p.Exclude.any fun y => sameP (a, b) y) || (p.Exclude.any fun y => sameP (b, a) y)) = excl p b a := by
 simp only [excl]
 induction p.Exclude with
 | nil => rfl
 | cons x r ih =>
  simp only [List.any_cons, ← ih, sameP_comm (a, b) x, sameP_comm (b, a) x]
  cases sameP x (a, b) <;> cases sameP x (b, a) <;> simp
theorem credits_snoc (a : Ach) : ∀ (t : List Ach) (n : Int), credits (t ++ [a]) n = wr (credits t n + a.Credits)
 | [], n => rfl
 | x :: r, n => by simp only [List.cons_append, credits]; exact credits_snoc a r _
theorem K47 : FnOK Tryz.prog 47 (fun ds d => ∃ p l set, l.length ≤ 10 ∧ set < 1024 ∧ ds = [eProg p, eList 8 eAch l, eInt ((set : Nat) : Int)] ∧ d = .bool (wholeR p l set)) := by
 refine fn_intro Tryz.call47 Tryz.func47 rfl Tryz.ntmps47 ?_
 rintro ds d ⟨p, l, set, hl, hset, rfl, rfl⟩
 refine ⟨by simp, fun w0 => ?_⟩
 have e : ∀ k : Nat, k < l.length → _ := fun k hk => bitT set k (by omega) (by omega)
 repeat' (first | apply zC | apply zD | apply zA | apply zB | refine zF qS qR ?_ ?_ | exact True.intro | exact rfl | fail)
 refine yE 7 65 8 (fun i => eAch (([] : List Ach).getD i default)) rfl rfl rfl ?_
 refine zM [2, 3, 13, 14, 7] (fun x : Nat × List Ach × Int => [(15, .int .i64 x.1), (8, .int .i64 x.2.2)]) (fun x : Nat × List Ach × Int => [(1, .acc 65 8 x.2.1.length fun i => eAch (x.2.1.getD i default))]) (fun x : Nat × List Ach × Int => x.1 ≤ l.length ∧ x.2.1.length ≤ x.1 ∧ wholeGo p set l 0 [] 0 0 = wholeGo p set (l.drop x.1) x.1 x.2.1 (credits x.2.1 0) x.2.2) (fun x : Nat × List Ach × Int => l.length - x.1) (0, [], 0) (fun x => qS) ?_ qL qL ?_
 ·exact ⟨Nat.zero_le _, Nat.zero_le _, rfl⟩
 rintro ⟨k, t, o⟩ ⟨h1, h2, h3⟩
 simp only at h1 h2 h3
 repeat' (first | apply zC | apply zA | apply zB | refine zF qS qR ?_ ?_ | exact True.intro | exact rfl | fail)
 (refine zE qS ?_ ?_ <;> intro hb <;> have hc := hb <;> (try simp only [bF] at hc) <;> (try (exfalso; simp at hc; done)))
 ·replace e := e k ‹_›
  rw [drop_get _ _ ‹k < _›, wholeGo] at h3
  cases hbit : set.testBit k
  ·rw [hbit, if_neg (by simp)] at h3
   repeat' (first | apply zC | apply zG | apply zD | apply zA | apply zB | refine zF (by simp only [go_sem, e, hbit]; rfl) qR ?_ ?_ | (refine zE (by simp only [go_sem, e, hbit]; rfl) ?_ ?_ <;> intro hb <;> have hc := hb <;> (try simp only [bF] at hc) <;> (try (exfalso; simp at hc; done))) | refine zJ qR ?_ | exact True.intro | exact rfl | exact qP | fail)
   refine zR (k + 1, t, o) ?_ ?_ ⟨rfl, qL, qL⟩
   ·exact ⟨by simp only; omega, by simp only; omega, h3⟩
   ·simp only; omega
  ·rw [hbit, if_pos rfl] at h3
   repeat' (first | apply zC | apply zG | apply zD | apply zA | apply zB | refine zF (by simp only [go_sem, e, hbit]; rfl) qR ?_ ?_ | (refine zE (by simp only [go_sem, e, hbit]; rfl) ?_ ?_ <;> intro hb <;> have hc := hb <;> (try simp only [bF] at hc) <;> (try (exfalso; simp at hc; done))) | exact True.intro | exact rfl | exact qP | fail)
   refine zM [2, 3, 13, 14, 7, 10, 9, 15, 8, 25, 26] (fun i : Nat × Unit => [(27, .int .i64 i.1)]) (fun i : Nat × Unit => []) (fun i : Nat × Unit => i.1 ≤ t.length ∧ (t.any fun x => excl p x.Course (l.getD k default).Course) = (t.drop i.1).any fun x => excl p x.Course (l.getD k default).Course) (fun i : Nat × Unit => t.length - i.1) (0, ()) (fun x => qS) ?_ qL qL ?_
   ·exact ⟨Nat.zero_le _, rfl⟩
   rintro ⟨i, _⟩ ⟨h4, h5⟩
   simp only at h4 h5
   repeat' (first | apply zC | apply zG | apply zD | apply zK | apply zA | apply zB | refine zF (by simp only [go_sem, e, hbit]; rfl) qR ?_ ?_ | refine zL K99 (by simp only [go_sem, e, hbit]; first | done | rfl) ?_ ⟨p.Exclude, ((l.getD k default).Course, (t.getD i default).Course), rfl, rfl⟩ (by simp only [go_sem, e, hbit]; rfl) ?_ | refine zU 39 qR (by simp only [go_sem, e, hbit]; rfl) K99 (by simp only [go_sem, e, hbit]; first | done | rfl) (fun hg => ?_) (fun _ => ⟨p.Exclude, ((t.getD i default).Course, (l.getD k default).Course), rfl, rfl⟩) (by simp only [go_sem, e, hbit]; rfl) ?_ | (refine zE (by simp only [go_sem, e, hbit]; rfl) ?_ ?_ <;> intro hb <;> have hc := hb <;> (try simp only [bF] at hc) <;> (try (exfalso; simp at hc; done))) | refine zI qR ?_ | refine zJ qR ?_ | refine zR (i+1,()) ?_ ?_ ⟨rfl, qL, qL⟩ | exact True.intro | exact rfl | omega | refine SLe0.bool ?_ | exact qP | fail)
   ·rw [excl_any] at hb
    rw [h5, drop_get _ _ ‹i < _›, List.any_cons, hb, Bool.true_or, if_pos rfl] at h3
    rw [wholeR, h3]
   ·rw [excl_any] at hb
    refine ⟨by simp only; omega, ?_⟩
    rw [h5, drop_get _ _ ‹i < _›, List.any_cons, hb, Bool.false_or]
   ·rw [Bool.and_comm] at hb
    rw [h5, List.drop_of_length_le (by omega), List.any_nil, if_neg (by simp), if_pos hb, ← credits_snoc] at h3
    refine zR (k + 1, t ++ [l.getD k default], wr (o + (l.getD k default).Credits)) ?_ ?_ ⟨rfl, by simp only [go_sem]; repeat' (first | exact trivial | exact ⟨_, rfl, OLe.refl _⟩ | exact SLe.refl _ | (refine SLe.int ?_; rw [w64]; omega) | refine SLe.int ?_ | apply And.intro | exact ⟨_, rfl, OLe.accS (by simp) fun i hi => join_snoc t _ i hi⟩), by simp only [go_sem]; repeat' (first | exact trivial | exact ⟨_, rfl, OLe.refl _⟩ | exact SLe.refl _ | (refine SLe.int ?_; rw [w64]; omega) | refine SLe.int ?_ | apply And.intro | exact ⟨_, rfl, OLe.accS (by simp) fun i hi => join_snoc t _ i hi⟩)⟩
    ·exact ⟨by simp only; omega, by simp; omega, h3⟩
    ·simp only; omega
   ·rw [Bool.and_comm] at hb
    rw [h5, List.drop_of_length_le (by omega), List.any_nil, if_neg (by simp), if_neg (by rw [hb]; simp), ← credits_snoc] at h3
    refine zR (k + 1, t ++ [l.getD k default], o) ?_ ?_ ⟨rfl, by simp only [go_sem]; repeat' (first | exact trivial | exact ⟨_, rfl, OLe.refl _⟩ | exact SLe.refl _ | (refine SLe.int ?_; rw [w64]; omega) | refine SLe.int ?_ | apply And.intro | exact ⟨_, rfl, OLe.accS (by simp) fun i hi => join_snoc t _ i hi⟩), by simp only [go_sem]; repeat' (first | exact trivial | exact ⟨_, rfl, OLe.refl _⟩ | exact SLe.refl _ | (refine SLe.int ?_; rw [w64]; omega) | refine SLe.int ?_ | apply And.intro | exact ⟨_, rfl, OLe.accS (by simp) fun i hi => join_snoc t _ i hi⟩)⟩
    ·exact ⟨by simp only; omega, by simp; omega, h3⟩
    ·simp only; omega
 ·rw [List.drop_of_length_le (by omega), wholeGo] at h3
  repeat' (first | refine zN 1 qS ?_ | apply zC | apply zO | refine zT qS qR ?_ ?_ | refine zP qK qK ?_ | refine zW K16 qD ?_ ⟨_, rfl, rfl⟩ qS ?_ | refine runDcallg 72 qR qS K105 qD (fun hg => ?_) (fun _ => ⟨_, rfl, rfl⟩) qS ?_ | refine zI qR ?_ | refine zJ qR ?_ | exact True.intro | refine SLe0.bool ?_ | exact qP | fail)
  rw [wholeR, h3]
end Go.Sx
namespace Go.Sx
open Go.Proofs Go.RowKit
attribute [local irreducible] Run RunL RunD SLe0 SLe OLe
set_option maxHeartbeats 2000000
set_option maxRecDepth 8000
attribute [go_sem] eFound
def offerOf (c : Case) (code : ByteArray) : Offer := (findO code c.Offers).getD default
def clashO (a b : Offer) : Bool := a.Slots.any fun n => b.Slots.any fun y => n == y
def innerR (c : Case) (x : Item) (k : Nat) : List Item → Nat → Int → Option Int
 | [], _, cr => some cr
 | y :: r, i, cr =>
  if decide (i < k) && (y.Code == x.Code || (y.Term == x.Term && clashO (offerOf c x.Code) (offerOf c y.Code))) then none
  else innerR c x k r (i + 1) (if y.Term == x.Term then wr (cr + (offerOf c y.Code).Credits) else cr)
def okItem (c : Case) (l : List Item) (k : Nat) : Bool :=
 let x := l.getD k default
 if (!(findO x.Code c.Offers).isSome || decide ((offerOf c x.Code).Places < 1) || hasC c x.Code || !needsP c l x (offerOf c x.Code)) then false else
  match innerR c x k l 0 0 with
  | none => false
  | some cr => !decide (c.Most < cr)
def permR (c : Case) (l : List Item) : Nat → Nat → Bool
 | _, 0 => true
 | k, n + 1 => okItem c l k && permR c l (k + 1) n
theorem K33 : FnOK Tryz.prog 33 (fun ds d => ∃ c l, ds = [eCase c, eList 2 eItem l] ∧ d = .bool (permR c l 0 l.length)) := by
 refine fn_intro Tryz.call33 Tryz.func33 rfl Tryz.ntmps33 ?_
 rintro ds d ⟨c, l, rfl, rfl⟩
 refine ⟨by simp, fun w0 => ?_⟩
 refine run_len 1 rfl fun ll => ?_
 repeat' (first | apply zC | apply zD | apply zA | apply zB | refine zF qS qR ?_ ?_ | exact True.intro | exact rfl | fail)
 refine zM [1, 2] (fun k : Nat => [(5, .int .i64 k)]) (fun k : Nat => []) (fun k : Nat => k ≤ l.length ∧ permR c l 0 l.length = permR c l k (l.length - k)) (fun k : Nat => l.length - k) 0 (fun x => qS) ?_ qL qL ?_
 ·exact ⟨Nat.zero_le _, rfl⟩
 rintro k ⟨h1, h2⟩
 repeat' (first | apply zC | apply zA | apply zB | refine zF qS qR ?_ ?_ | exact True.intro | exact rfl | fail)
 (refine zE qS ?_ ?_ <;> intro hb <;> have hc := hb <;> (try simp only [bF] at hc) <;> (try (exfalso; simp at hc; done)))
 ·rw [show l.length - k = (l.length - (k + 1)) + 1 by omega, permR] at h2
  repeat' (first | apply zC | apply zG | apply zD | apply zA | apply zO | apply zB | refine zF qS qR ?_ ?_ | refine zT qS qR ?_ ?_ | refine zP qK qK ?_ | refine zW K31 qD ?_ ⟨c.Offers, _, rfl, rfl⟩ qS ?_ | refine runDcallg 37 qR qS K86 qD (fun hg => ?_) (fun _ => ⟨c, _, rfl, rfl⟩) qS ?_ | refine runDcallg 46 qR qS K87 qD (fun hg => ?_) (fun _ => ⟨c, l, l.getD k default, offerOf c (l.getD k default).Code, rfl, rfl⟩) qS ?_ | (refine zE qS ?_ ?_ <;> intro hb <;> have hc := hb <;> (try simp only [bF] at hc) <;> (try (exfalso; simp at hc; done))) | refine zI qR ?_ | exact True.intro | exact rfl | refine SLe0.bool ?_ | exact qP | fail)
  ·rw [h2, show okItem c l k = false from by unfold okItem; exact if_pos hb, Bool.false_and]
  ·have hok : okItem c l k = (match innerR c (l.getD k default) k l 0 0 with | none => false | some cr => !decide (c.Most < cr)) := by
    unfold okItem; exact if_neg (by rw [Bool.not_eq_true]; exact hb)
   refine zM [1, 2, 5, 6] (fun z : Nat × Int => [(9, .int .i64 z.1), (8, .int .i64 z.2)]) (fun z : Nat × Int => []) (fun z : Nat × Int => z.1 ≤ l.length ∧ innerR c (l.getD k default) k l 0 0 = innerR c (l.getD k default) k (l.drop z.1) z.1 z.2) (fun z : Nat × Int => l.length - z.1) (0, 0) (fun x => qS) ?_ qL qL ?_
   ·exact ⟨Nat.zero_le _, rfl⟩
   rintro ⟨i, cr⟩ ⟨h3, h4⟩
   simp only at h3 h4
   repeat' (first | apply zC | apply zA | apply zB | refine zF qS qR ?_ ?_ | exact True.intro | exact rfl | fail)
   (refine zE qS ?_ ?_ <;> intro hb <;> have hc := hb <;> (try simp only [bF] at hc) <;> (try (exfalso; simp at hc; done)))
   ·rw [drop_get _ _ ‹i < _›, innerR] at h4
    repeat' (first | apply zC | apply zG | apply zD | apply zK | apply zA | apply zO | apply zB | refine zF qS qR ?_ ?_ | refine zT qS qR ?_ ?_ | refine zP qK qK ?_ | refine zW K31 qD ?_ ⟨c.Offers, _, rfl, rfl⟩ qS ?_ | refine zL K88 qD ?_ ⟨offerOf c (l.getD k default).Code, offerOf c (l.getD i default).Code, rfl, rfl⟩ qS ?_ | (refine zE qS ?_ ?_ <;> intro hb <;> have hc := hb <;> (try simp only [bF] at hc) <;> (try (exfalso; simp at hc; done))) | refine zI qR ?_ | exact True.intro | exact rfl | refine SLe0.bool ?_ | exact qP | fail)
    ·have hd : decide ((i : Int) < (k : Int)) = decide (i < k) := decide_eq_decide.2 (by omega)
     rw [hd] at hb
     rw [if_pos (by exact hb)] at h4
     rw [h4] at hok
     rw [h2, hok]; rfl
    ·have hd : decide ((i : Int) < (k : Int)) = decide (i < k) := decide_eq_decide.2 (by omega)
     rw [hd] at hb
     have ht : ((l.getD i default).Term == (l.getD k default).Term) = true := ‹_›
     rw [if_neg (by rw [Bool.not_eq_true]; exact hb), if_pos ht] at h4
     refine zR (i + 1, wr (cr + (offerOf c (l.getD i default).Code).Credits)) ?_ ?_ ⟨rfl, qL, qL⟩
     ·exact ⟨by simp only; omega, h4⟩
     ·simp only; omega
    ·have hd : decide ((i : Int) < (k : Int)) = decide (i < k) := decide_eq_decide.2 (by omega)
     rw [hd] at hb
     rw [if_pos (by exact hb)] at h4
     rw [h4] at hok
     rw [h2, hok]; rfl
    ·have hd : decide ((i : Int) < (k : Int)) = decide (i < k) := decide_eq_decide.2 (by omega)
     rw [hd] at hb
     have ht : ((l.getD i default).Term == (l.getD k default).Term) = false := ‹_›
     rw [if_neg (by rw [Bool.not_eq_true]; exact hb), if_neg (by rw [ht]; simp)] at h4
     refine zR (i + 1, cr) ?_ ?_ ⟨rfl, qL, qL⟩
     ·exact ⟨by simp only; omega, h4⟩
     ·simp only; omega
   ·rw [List.drop_of_length_le (by omega), innerR] at h4
    rw [h4] at hok
    repeat' (first | apply zC | apply zG | apply zK | apply zA | apply zB | refine zF qS qR ?_ ?_ | (refine zE qS ?_ ?_ <;> intro hb <;> have hc := hb <;> (try simp only [bF] at hc) <;> (try (exfalso; simp at hc; done))) | refine zI qR ?_ | refine zJ qR ?_ | refine zR (k+1) ?_ ?_ ⟨rfl, qL, qL⟩ | exact True.intro | exact rfl | omega | refine SLe0.bool ?_ | fail)
    ·rw [h2, hok]; simp [hb]
    ·exact ⟨by omega, by rw [h2, hok]; simp [hb]⟩
 ·repeat' (first | apply zC | apply zA | apply zB | refine zF qS qR ?_ ?_ | refine zI qR ?_ | refine zJ qR ?_ | exact True.intro | exact rfl | refine SLe0.bool ?_ | fail)
  rw [h2, show l.length - k = 0 by omega]; rfl
end Go.Sx
