/- Part of the proof that the laws of the judge return true for every input: J10, J11. -/
import Derived.Test.YtmbocmonhcplhaaGreatJ9
set_option linter.all false
namespace Go.Sx
open Go.Proofs Go.RowKit
attribute [local irreducible] Run RunL RunD SLe0 SLe OLe
set_option maxHeartbeats 2000000
set_option maxRecDepth 8000
theorem sameP_comm (a b : Course × Course) : sameP a b = sameP b a := by
 simp only [sameP]
 rw [Bool.eq_iff_iff]
 simp only [Bool.and_eq_true, beq_iff_eq]
 constructor
 ·rintro ⟨h1, h2, h3, h4⟩; exact ⟨h1.symm, h2.symm, h3.symm, h4.symm⟩
 ·rintro ⟨h1, h2, h3, h4⟩; exact ⟨h1.symm, h2.symm, h3.symm, h4.symm⟩
theorem excl_any (p : Programme) (a b : Course) : ((p.Exclude.any fun y => sameP (a, b) y) || (p.Exclude.any fun y => sameP (b, a) y)) = excl p b a := by
 simp only [excl]
 induction p.Exclude with
 | nil => rfl
 | cons x r ih =>
  simp only [List.any_cons, ← ih, sameP_comm (a, b) x, sameP_comm (b, a) x]
  cases sameP x (a, b) <;> cases sameP x (b, a) <;> simp
theorem credits_snoc (a : Ach) : ∀ (t : List Ach) (n : Int), credits (t ++ [a]) n = wr (credits t n + a.Credits)
 | [], n => rfl
 | x :: r, n => by simp only [List.cons_append, credits]; exact credits_snoc a r _
theorem K47 : FnOK Tryz.prog 47 (fun ds d => ∃ p l set, l.length ≤ 10 ∧ set < 1024 ∧ ds = [eProg p, eList 8 eAch l, eInt ((set : Nat) : Int)] ∧ d = .bool (wholeR p l set)) := by
 refine fn_intro Tryz.call47 Tryz.func47 rfl Tryz.ntmps47 ?_
 rintro ds d ⟨p, l, set, hl, hset, rfl, rfl⟩
 refine ⟨by simp, fun w0 => ?_⟩
 have e : ∀ k : Nat, k < l.length → _ := fun k hk => bitT set k (by omega) (by omega)
 repeat' (first | apply zC | apply zD | apply zA | apply zB | refine zF qS qR ?_ ?_ | exact True.intro | exact rfl | fail)
 refine yF 7 65 8 (fun i => eAch (([] : List Ach).getD i default)) rfl rfl rfl ?_
 refine zN [2, 3, 13, 14, 7] (fun x : Nat × List Ach × Int => [(15, .int .i64 x.1), (8, .int .i64 x.2.2)]) (fun x : Nat × List Ach × Int => [(1, .acc 65 8 x.2.1.length fun i => eAch (x.2.1.getD i default))]) (fun x : Nat × List Ach × Int => x.1 ≤ l.length ∧ x.2.1.length ≤ x.1 ∧ wholeGo p set l 0 [] 0 0 = wholeGo p set (l.drop x.1) x.1 x.2.1 (credits x.2.1 0) x.2.2) (fun x : Nat × List Ach × Int => l.length - x.1) (0, [], 0) (fun x => qS) ?_ qL qL ?_
 ·exact ⟨Nat.zero_le _, Nat.zero_le _, rfl⟩
 rintro ⟨k, t, o⟩ ⟨h1, h2, h3⟩
 simp only at h1 h2 h3
 repeat' (first | apply zC | apply zA | apply zB | refine zF qS qR ?_ ?_ | exact True.intro | exact rfl | fail)
 (refine zE qS ?_ ?_ <;> intro hb <;> have hc := hb <;> (try simp only [bF] at hc) <;> (try (exfalso; simp at hc; done)))
 ·replace e := e k ‹_›
  rw [drop_get _ _ ‹k < _›, wholeGo] at h3
  cases hbit : set.testBit k
  ·rw [hbit, if_neg (by simp)] at h3
   repeat' (first | apply zC | apply zG | apply zD | apply zA | apply zB | refine zF (by simp only [go_sem, e, hbit]; rfl) qR ?_ ?_ | (refine zE (by simp only [go_sem, e, hbit]; rfl) ?_ ?_ <;> intro hb <;> have hc := hb <;> (try simp only [bF] at hc) <;> (try (exfalso; simp at hc; done))) | refine zK qR ?_ | exact True.intro | exact rfl | exact qP | fail)
   refine zS (k + 1, t, o) ?_ ?_ ⟨rfl, qL, qL⟩
   ·exact ⟨by simp only; omega, by simp only; omega, h3⟩
   ·simp only; omega
  ·rw [hbit, if_pos rfl] at h3
   repeat' (first | apply zC | apply zG | apply zD | apply zA | apply zB | refine zF (by simp only [go_sem, e, hbit]; rfl) qR ?_ ?_ | (refine zE (by simp only [go_sem, e, hbit]; rfl) ?_ ?_ <;> intro hb <;> have hc := hb <;> (try simp only [bF] at hc) <;> (try (exfalso; simp at hc; done))) | exact True.intro | exact rfl | exact qP | fail)
   refine zN [2, 3, 13, 14, 7, 10, 9, 15, 8, 25, 26] (fun i : Nat × Unit => [(27, .int .i64 i.1)]) (fun i : Nat × Unit => []) (fun i : Nat × Unit => i.1 ≤ t.length ∧ (t.any fun x => excl p x.Course (l.getD k default).Course) = (t.drop i.1).any fun x => excl p x.Course (l.getD k default).Course) (fun i : Nat × Unit => t.length - i.1) (0, ()) (fun x => qS) ?_ qL qL ?_
   ·exact ⟨Nat.zero_le _, rfl⟩
   rintro ⟨i, _⟩ ⟨h4, h5⟩
   simp only at h4 h5
   repeat' (first | apply zC | apply zG | apply zD | apply zL | apply zA | apply zB | refine zF (by simp only [go_sem, e, hbit]; rfl) qR ?_ ?_ | refine zM K99 (by simp only [go_sem, e, hbit]; first | done | rfl) ?_ ⟨p.Exclude, ((l.getD k default).Course, (t.getD i default).Course), rfl, rfl⟩ (by simp only [go_sem, e, hbit]; rfl) ?_ | refine zV 39 qR (by simp only [go_sem, e, hbit]; rfl) K99 (by simp only [go_sem, e, hbit]; first | done | rfl) (fun hg => ?_) (fun _ => ⟨p.Exclude, ((t.getD i default).Course, (l.getD k default).Course), rfl, rfl⟩) (by simp only [go_sem, e, hbit]; rfl) ?_ | (refine zE (by simp only [go_sem, e, hbit]; rfl) ?_ ?_ <;> intro hb <;> have hc := hb <;> (try simp only [bF] at hc) <;> (try (exfalso; simp at hc; done))) | refine zI qR ?_ | refine zK qR ?_ | refine zS (i+1,()) ?_ ?_ ⟨rfl, qL, qL⟩ | exact True.intro | exact rfl | omega | refine SLe0.bool ?_ | exact qP | fail)
   ·rw [excl_any] at hb
    rw [h5, drop_get _ _ ‹i < _›, List.any_cons, hb, Bool.true_or, if_pos rfl] at h3
    rw [wholeR, h3]
   ·rw [excl_any] at hb
    refine ⟨by simp only; omega, ?_⟩
    rw [h5, drop_get _ _ ‹i < _›, List.any_cons, hb, Bool.false_or]
   ·rw [Bool.and_comm] at hb
    rw [h5, List.drop_of_length_le (by omega), List.any_nil, if_neg (by simp), if_pos hb, ← credits_snoc] at h3
    refine zS (k + 1, t ++ [l.getD k default], wr (o + (l.getD k default).Credits)) ?_ ?_ ⟨rfl, by simp only [go_sem]; repeat' (first | exact trivial | exact ⟨_, rfl, OLe.refl _⟩ | exact SLe.refl _ | (refine SLe.int ?_; rw [w64]; omega) | refine SLe.int ?_ | apply And.intro | exact ⟨_, rfl, OLe.accS (by simp) fun i hi => join_snoc t _ i hi⟩), by simp only [go_sem]; repeat' (first | exact trivial | exact ⟨_, rfl, OLe.refl _⟩ | exact SLe.refl _ | (refine SLe.int ?_; rw [w64]; omega) | refine SLe.int ?_ | apply And.intro | exact ⟨_, rfl, OLe.accS (by simp) fun i hi => join_snoc t _ i hi⟩)⟩
    ·exact ⟨by simp only; omega, by simp; omega, h3⟩
    ·simp only; omega
   ·rw [Bool.and_comm] at hb
    rw [h5, List.drop_of_length_le (by omega), List.any_nil, if_neg (by simp), if_neg (by rw [hb]; simp), ← credits_snoc] at h3
    refine zS (k + 1, t ++ [l.getD k default], o) ?_ ?_ ⟨rfl, by simp only [go_sem]; repeat' (first | exact trivial | exact ⟨_, rfl, OLe.refl _⟩ | exact SLe.refl _ | (refine SLe.int ?_; rw [w64]; omega) | refine SLe.int ?_ | apply And.intro | exact ⟨_, rfl, OLe.accS (by simp) fun i hi => join_snoc t _ i hi⟩), by simp only [go_sem]; repeat' (first | exact trivial | exact ⟨_, rfl, OLe.refl _⟩ | exact SLe.refl _ | (refine SLe.int ?_; rw [w64]; omega) | refine SLe.int ?_ | apply And.intro | exact ⟨_, rfl, OLe.accS (by simp) fun i hi => join_snoc t _ i hi⟩)⟩
    ·exact ⟨by simp only; omega, by simp; omega, h3⟩
    ·simp only; omega
 ·rw [List.drop_of_length_le (by omega), wholeGo] at h3
  repeat' (first | refine zO 1 qS ?_ | apply zC | apply zP | refine zU qS qR ?_ ?_ | refine zQ qK qK ?_ | refine zX K16 qD ?_ ⟨_, rfl, rfl⟩ qS ?_ | refine runDcallg 72 qR qS K105 qD (fun hg => ?_) (fun _ => ⟨_, rfl, rfl⟩) qS ?_ | refine zI qR ?_ | refine zK qR ?_ | exact True.intro | refine SLe0.bool ?_ | exact qP | fail)
  rw [wholeR, h3]
end Go.Sx
namespace Go.Sx
open Go.Proofs Go.RowKit
attribute [local irreducible] Run RunL RunD SLe0 SLe OLe
set_option maxHeartbeats 2000000
set_option maxRecDepth 8000
attribute [go_sem] eFound
def offerOf (c : Case) (code : ByteArray) : Offer := (findO code c.Offers).getD default
def clashO (a b : Offer) : Bool := a.Slots.any fun n => b.Slots.any fun y => n == y
def innerR (c : Case) (x : Item) (k : Nat) : List Item → Nat → Int → Option Int
 | [], _, cr => some cr
 | y :: r, i, cr =>
  if decide (i < k) && (y.Code == x.Code || (y.Term == x.Term && clashO (offerOf c x.Code) (offerOf c y.Code))) then none
  else innerR c x k r (i + 1) (if y.Term == x.Term then wr (cr + (offerOf c y.Code).Credits) else cr)
def okItem (c : Case) (l : List Item) (k : Nat) : Bool :=
 let x := l.getD k default
 if (!(findO x.Code c.Offers).isSome || decide ((offerOf c x.Code).Places < 1) || hasC c x.Code || !needsP c l x (offerOf c x.Code)) then false else
  match innerR c x k l 0 0 with
  | none => false
  | some cr => !decide (c.Most < cr)
def permR (c : Case) (l : List Item) : Nat → Nat → Bool
 | _, 0 => true
 | k, n + 1 => okItem c l k && permR c l (k + 1) n
end Go.Sx
