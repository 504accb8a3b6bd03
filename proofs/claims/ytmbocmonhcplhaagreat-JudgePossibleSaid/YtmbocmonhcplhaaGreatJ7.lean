/- Part of the proof that the laws of the judge return true for every input: J7. -/
import Derived.Test.YtmbocmonhcplhaaGreatJ6
set_option linter.all false
namespace Go.Sx
open Go.Proofs Go.RowKit
attribute [local irreducible] Run RunL RunD SLe0 SLe OLe
set_option maxHeartbeats 2000000
set_option maxRecDepth 8000
theorem K84 : FnOK Tryz.prog 84 (fun ds d => ∃ (y : Item) (n : ByteArray) (x : Item), ds = [eItem y, .fp [.str n], .fp [.int .i64 x.Term, .str x.Code]] ∧ d = .bool (y.Code == n && decide (y.Term < x.Term))) := by
 refine fn_intro Tryz.call84 Tryz.func84 rfl Tryz.ntmps84 ?_
 rintro ds d ⟨y, n, x, rfl, rfl⟩
 refine ⟨by simp, fun w0 => ?_⟩
 repeat' (first | apply zC | apply zA | apply zB | refine zF qS qR ?_ ?_ | refine zI qR ?_ | exact True.intro | exact rfl | exact SLe0.bool rfl | exact qP | fail)
def hasC (c : Case) (code : ByteArray) : Bool := c.Has.any fun a => sameC a.Course ⟨c.Programme.School, code⟩
theorem K86 : FnOK Tryz.prog 86 (fun ds d => ∃ c s, ds = [eCase c, eStr s] ∧ d = .bool (hasC c s)) := by
 refine fn_intro Tryz.call86 Tryz.func86 rfl Tryz.ntmps86 ?_
 rintro ds d ⟨c, s, rfl, rfl⟩
 refine ⟨by simp, fun w0 => ?_⟩
 refine yD 0 17 rfl rfl fun la => ?_
 repeat' (first | apply zC | apply zD | apply zA | apply zB | refine zF qS qR ?_ ?_ | exact True.intro | exact rfl | fail)
 refine zM [1, 2] (fun k : Nat => [(5, .int .i64 k)]) (fun k : Nat => []) (fun k : Nat => k ≤ c.Has.length ∧ hasC c s = (c.Has.drop k).any (fun a => sameC a.Course ⟨c.Programme.School, s⟩)) (fun k : Nat => c.Has.length - k) 0 (fun x => qS) ?_ qL qL ?_
 ·exact ⟨Nat.zero_le _, rfl⟩
 rintro k ⟨h1, h2⟩
 repeat' (first | apply zC | apply zG | apply zD | apply zK | apply zA | apply zO | apply zB | refine zF qS qR ?_ ?_ | refine zT qS qR ?_ ?_ | refine zP qK qK ?_ | (refine zE qS ?_ ?_ <;> intro hb <;> have hc := hb <;> (try simp only [bF] at hc) <;> (try (exfalso; simp at hc; done))) | refine zI qR ?_ | refine zJ qR ?_ | refine zR (k+1) ?_ ?_ ⟨rfl, qL, qL⟩ | exact True.intro | exact rfl | omega | refine SLe0.bool ?_ | exact qP | fail)
 ·rw [h2, drop_get _ _ ‹k < _›, List.any_cons, show sameC (c.Has.getD k default).Course ⟨c.Programme.School, s⟩ = true from hb]; rfl
 ·refine ⟨by omega, ?_⟩
  rw [h2, drop_get _ _ ‹k < _›, List.any_cons, show sameC (c.Has.getD k default).Course ⟨c.Programme.School, s⟩ = false from hb]; rfl
 ·rw [h2, List.drop_of_length_le (by omega)]; rfl
def excl (p : Programme) (a b : Course) : Bool := p.Exclude.any fun x => sameP x (a, b) || sameP x (b, a)
theorem K113 : FnOK Tryz.prog 113 (fun ds d => ∃ p a b, ds = [eProg p, eCourse a, eCourse b] ∧ d = .bool (excl p a b)) := by
 refine fn_intro Tryz.call113 Tryz.func113 rfl Tryz.ntmps113 ?_
 rintro ds d ⟨p, a, b, rfl, rfl⟩
 refine ⟨by simp, fun w0 => ?_⟩
 refine yD 0 13 rfl rfl fun la => ?_
 repeat' (first | apply zC | apply zD | apply zA | apply zB | refine zF qS qR ?_ ?_ | exact True.intro | exact rfl | fail)
 refine zM [3, 4, 5] (fun k : Nat => [(7, .int .i64 k)]) (fun k : Nat => []) (fun k : Nat => k ≤ p.Exclude.length ∧ excl p a b = (p.Exclude.drop k).any (fun x => sameP x (a, b) || sameP x (b, a))) (fun k : Nat => p.Exclude.length - k) 0 (fun x => qS) ?_ qL qL ?_
 ·exact ⟨Nat.zero_le _, rfl⟩
 rintro k ⟨h1, h2⟩
 repeat' (first | apply zC | apply zG | apply zD | apply zK | apply zA | apply zB | refine zF qS qR ?_ ?_ | (refine zE qS ?_ ?_ <;> intro hb <;> have hc := hb <;> (try simp only [bF] at hc) <;> (try (exfalso; simp at hc; done))) | refine zI qR ?_ | refine zJ qR ?_ | refine zR (k+1) ?_ ?_ ⟨rfl, qL, qL⟩ | exact True.intro | exact rfl | omega | refine SLe0.bool ?_ | exact qP | fail)
 ·rw [h2, drop_get _ _ ‹k < _›, List.any_cons, show (sameP (p.Exclude.getD k default) (a, b) || sameP (p.Exclude.getD k default) (b, a)) = true from hb]; rfl
 ·refine ⟨by omega, ?_⟩
  rw [h2, drop_get _ _ ‹k < _›, List.any_cons, show (sameP (p.Exclude.getD k default) (a, b) || sameP (p.Exclude.getD k default) (b, a)) = false from hb]; rfl
 ·rw [h2, List.drop_of_length_le (by omega)]; rfl
def needsP (c : Case) (l : List Item) (x : Item) (o : Offer) : Bool := o.Needs.all fun n => hasC c n || l.any fun y => y.Code == n && decide (y.Term < x.Term)
theorem K87 : FnOK Tryz.prog 87 (fun ds d => ∃ c l x o, ds = [eCase c, eList 2 eItem l, eItem x, eOffer o] ∧ d = .bool (needsP c l x o)) := by
 refine fn_intro Tryz.call87 Tryz.func87 rfl Tryz.ntmps87 ?_
 rintro ds d ⟨c, l, x, o, rfl, rfl⟩
 refine ⟨by simp, fun w0 => ?_⟩
 refine yD 3 4 rfl rfl fun la => ?_
 refine run_len 1 rfl fun ll => ?_
 repeat' (first | apply zC | apply zD | apply zA | apply zB | refine zF qS qR ?_ ?_ | exact True.intro | exact rfl | fail)
 refine zM [1, 4, 6, 7] (fun k : Nat => [(9, .int .i64 k)]) (fun k : Nat => []) (fun k : Nat => k ≤ o.Needs.length ∧ needsP c l x o = (o.Needs.drop k).all (fun n => hasC c n || l.any fun y => y.Code == n && decide (y.Term < x.Term))) (fun k : Nat => o.Needs.length - k) 0 (fun x => qS) ?_ qL qL ?_
 ·exact ⟨Nat.zero_le _, rfl⟩
 rintro k ⟨h1, h2⟩
 repeat' (first | apply zC | apply zG | apply zD | apply zA | apply zO | apply zB | refine zF qS qR ?_ ?_ | refine zT qS qR ?_ ?_ | refine zP qK qK ?_ | refine zW K86 qD ?_ ⟨c, _, rfl, rfl⟩ qS ?_ | (refine zE qS ?_ ?_ <;> intro hb <;> have hc := hb <;> (try simp only [bF] at hc) <;> (try (exfalso; simp at hc; done))) | refine zI qR ?_ | refine zJ qR ?_ | exact True.intro | exact rfl | refine SLe0.bool ?_ | exact qP | fail)
 ·rw [drop_get _ _ ‹k < _›, List.all_cons] at h2
  refine zM [1, 4, 6, 7, 9] (fun z : Nat × Bool => [(11, .int .i64 z.1), (10, .bool z.2)]) (fun z : Nat × Bool => []) (fun z : Nat × Bool => z.1 ≤ l.length ∧ (hasC c (o.Needs.getD k default) || l.any fun y => y.Code == (o.Needs.getD k default) && decide (y.Term < x.Term)) = (z.2 || (l.drop z.1).any fun y => y.Code == (o.Needs.getD k default) && decide (y.Term < x.Term))) (fun z : Nat × Bool => l.length - z.1) (0, hasC c (o.Needs.getD k default)) (fun x => qS) ?_ qL qL ?_
  ·exact ⟨Nat.zero_le _, rfl⟩
  rintro ⟨i, f⟩ ⟨h3, h4⟩
  simp only at h3 h4
  repeat' (first | apply zC | apply zG | apply zD | apply zK | apply zA | apply zO | apply zB | refine zF qS qR ?_ ?_ | refine zT qS qR ?_ ?_ | refine zP qK qK ?_ | (refine zE qS ?_ ?_ <;> intro hb <;> have hc := hb <;> (try simp only [bF] at hc) <;> (try (exfalso; simp at hc; done))) | refine zI qR ?_ | refine zJ qR ?_ | refine zR (i+1,f || ((l.getD i default).Code == (o.Needs.getD k default) && decide ((l.getD i default).Term < x.Term))) ?_ ?_ ⟨rfl, qL, qL⟩ | refine zR (k+1) ?_ ?_ ⟨rfl, qL, qL⟩ | exact True.intro | exact rfl | omega | refine SLe0.bool ?_ | exact qP | fail)
  ·refine ⟨by simp only; omega, ?_⟩
   rw [h4, drop_get _ _ ‹i < _›, List.any_cons, Bool.or_assoc]
  ·rw [List.drop_of_length_le (by omega), hc] at h4
   rw [h2, h4]; rfl
  ·refine ⟨by omega, ?_⟩
   rw [hc, Bool.true_or] at h4
   rw [h2, h4, Bool.true_and]
 ·rw [h2, List.drop_of_length_le (by omega)]; rfl
end Go.Sx
