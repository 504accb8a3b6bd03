/- Part of the proof that the laws of the judge return true for every input: J51, J52. -/
import Derived.Test.YtmbocmonhcplhaaGreatJ48
import Derived.Test.YtmbocmonhcplhaaGreatJ47
set_option linter.all false
namespace Go.Sx
def lastP (n : Int) : Int := wr (wr (wr (100 * n) + 100) - 1)
def achI (c : Case) (k : Nat) : Ach := ⟨⟨c.Programme.School, (c.Items.getD k default).Code⟩, (offerOf c (c.Items.getD k default).Code).Credits, c.Scale.Pass, lastP (c.Items.getD k default).Term, [wr (-1 - (k : Int))], 0, []⟩
def itT (c : Case) (ch : Nat) : Nat → List Item
 | 0 => []
 | k + 1 => itT c ch k ++ if ch.testBit k then [c.Items.getD k default] else []
def acT (c : Case) (ch : Nat) : Nat → List Ach
 | 0 => c.Has
 | k + 1 => acT c ch k ++ if ch.testBit k then [achI c k] else []
theorem itT_len (c : Case) (ch : Nat) : ∀ k, (itT c ch k).length ≤ k
 | 0 => Nat.le_refl _
 | k + 1 => by
  have := itT_len c ch k
  rw [itT, List.length_append]
  split <;> simp <;> omega
theorem acT_len (c : Case) (ch : Nat) : ∀ k, (acT c ch k).length ≤ c.Has.length + k
 | 0 => Nat.le_refl _
 | k + 1 => by
  have := acT_len c ch k
  rw [acT, List.length_append]
  split <;> simp <;> omega
def lastDay (c : Case) : Int := lastP (wr (wr (c.First + c.Terms) - 1))
def posF (d : Nat) (c : Case) : Bool := (List.range (2 ^ c.Items.length)).any fun ch => canF c (itT c ch c.Items.length) && derF d c.Programme c.Scale (acT c ch c.Items.length) (lastDay c)
open Go.Proofs Go.RowKit
attribute [local irreducible] Run RunL RunD OpT SLe0 SLe OLe
set_option maxHeartbeats 2000000
set_option maxRecDepth 8000
set_option maxHeartbeats 8000000
@[go_sem] def aItem (l : List Item) : OB := .acc 78 2 l.length (fun i => eItem (l.getD i default))
theorem ach_le (c : Case) (k : Nat) : SLe (.agg [.int .i64 c.Programme.School, .str (c.Items.getD k default).Code, .int .i64 (offerOf c (c.Items.getD k default).Code).Credits, .int .i64 c.Scale.Pass, .int .i64 (lastP (c.Items.getD k default).Term), .list 1 1 (fun i => .int .i64 ([wr (-1 - (k : Int))].getD i 0)), .int .i64 0, .nils]) (eAch (achI c k)) := by
 refine SLe.agg ⟨SLe.refl _, SLe.refl _, SLe.refl _, SLe.refl _, SLe.refl _, SLe.list rfl fun i hi => ?_, SLe.refl _, SLe.nil0 (α := Int), trivial⟩
 have : i = 0 := by omega
 subst this; rfl
theorem K10 (d : Nat) (hd : 1 + d ≤ 100) (hcn : cntB d ≤ 10000) : FnOK Tryz.prog 10 (fun ds v => ∃ c : Case, (POk d c.Programme ∧ c.Items.length ≤ 10 ∧ c.Has.length ≤ 1000) ∧ ds = [eCase c] ∧ v = .bool (posF d c)) := by
 have K14x := K14 d hd hcn
 refine fn_intro Tryz.call10 Tryz.func10 rfl Tryz.ntmps10 ?_
 rintro ds d ⟨c, ⟨hp, hi10, hh⟩, rfl, rfl⟩
 refine ⟨by simp, fun w0 => ?_⟩
 refine yE 0 17 rfl rfl fun la => ?_
 have h2k : (2 : Nat) ^ c.Items.length ≤ 2 ^ 10 := Nat.pow_le_pow_right (by omega) hi10
 have esh := bshl c.Items.length (by omega)
 repeat' (first | apply zC | apply zA | apply zB | refine zF qS qR ?_ ?_ | exact True.intro | exact rfl | fail)
 (refine zE qS ?_ ?_ <;> intro hb <;> have hc := hb <;> (try simp only [bF] at hc) <;> (try (exfalso; simp at hc; done)))
 ·exfalso; have := of_decide_eq_true hb; omega
 rw [posF]
 generalize hM : 2 ^ c.Items.length = M at esh h2k ⊢
 repeat' (first | apply zC | apply zG | apply zD | apply zA | apply zB | refine zF (by simp only [go_sem, esh]; rfl) qR ?_ ?_ | exact rfl | exact qP | fail)
 refine zN [1, 17] (fun x : Nat × Unit => [(18, .int .i64 x.1)]) (fun x : Nat × Unit => []) (fun x : Nat × Unit => x.1 ≤ M ∧ ∀ j, j < x.1 → (canF c (itT c j c.Items.length) && derF d c.Programme c.Scale (acT c j c.Items.length) (lastDay c)) = false) (fun x : Nat × Unit => M - x.1) (0, ()) (fun x => qS) ?_ qL qL ?_
 ·exact ⟨Nat.zero_le _, fun j h => absurd h (Nat.not_lt_zero j)⟩
 rintro ⟨ch, _⟩ ⟨g1, g2⟩
 simp only at g1 g2
 repeat' (first | apply zC | apply zA | apply zB | refine zF qS qR ?_ ?_ | exact True.intro | exact rfl | fail)
 (refine zE qS ?_ ?_ <;> intro hb <;> have hc := hb <;> (try simp only [bF] at hc) <;> (try (exfalso; simp at hc; done)))
 ·have hch : ch < M := by assumption
  repeat' (first | apply zC | apply zG | apply zD | apply zA | apply zB | refine zF qS qR ?_ ?_ | exact True.intro | exact rfl | fail)
  refine stepcallA A27 qD ?_ ⟨c.Has, rfl, rfl, rfl, rfl, rfl⟩ qS ?_
  ·repeat' (first | exact True.intro | fail)
  repeat' (first | apply zC | apply zD | apply zA | apply zB | refine zF qS qR ?_ ?_ | exact True.intro | exact rfl | fail)
  refine yF 4 78 2 (fun i => eItem (([] : List Item).getD i default)) rfl rfl rfl ?_
  refine zN [1, 3, 17, 18, 4, 5, 25, 26] (fun x : Nat × Unit => [(27, .int .i64 x.1)]) (fun x : Nat × Unit => [(1, aAch (acT c ch x.1)), (2, aItem (itT c ch x.1))]) (fun x : Nat × Unit => x.1 ≤ c.Items.length) (fun x : Nat × Unit => c.Items.length - x.1) (0, ()) (fun x => qS) ?_ qL qL ?_
  ·exact Nat.zero_le _
  rintro ⟨k, _⟩ r1
  simp only at r1
  have l1 := itT_len c ch k
  have l2 := acT_len c ch k
  repeat' (first | apply zC | apply zA | apply zB | refine zF qS qR ?_ ?_ | exact True.intro | exact rfl | fail)
  (refine zE qS ?_ ?_ <;> intro hb <;> have hc := hb <;> (try simp only [bF] at hc) <;> (try (exfalso; simp at hc; done)))
  ·have hk : k < c.Items.length := by assumption
   have ek := bitT ch k (by omega) (by omega)
   have hof : (findO (c.Items.getD k default).Code c.Offers).getD default = offerOf c (c.Items.getD k default).Code := rfl
   cases hbit : ch.testBit k
   ·rw [hbit] at ek
    have e1 : acT c ch (k + 1) = acT c ch k := by rw [acT, hbit, if_neg (by simp), List.append_nil]
    have e2 : itT c ch (k + 1) = itT c ch k := by rw [itT, hbit, if_neg (by simp), List.append_nil]
    repeat' (first | apply zC | apply zG | apply zD | apply zL | apply zA | apply zB | refine zF (by simp only [go_sem, ek]; rfl) qR ?_ ?_ | (refine zE (by simp only [go_sem, ek]; rfl) ?_ ?_ <;> intro hb <;> have hc := hb <;> (try simp only [bF] at hc) <;> (try (exfalso; simp at hc; done))) | exact True.intro | exact rfl | exact qP | fail)
    refine zS (k + 1, ()) ?_ ?_ ⟨rfl, by simp only [go_sem, e1, e2]; repeat' (first | exact trivial | exact True.intro | exact SLe.refl _ | exact OLe.refl _ | exact ⟨_, rfl, OLe.refl _⟩ | refine ⟨_, rfl, ?_⟩ | refine OLe.var ?_ | (show SLeL _ _; refine ⟨?_, ?_⟩) | (show SLeL [] []; exact True.intro) | (refine SLe.int ?_; rw [w64]; omega) | refine SLe.int ?_ | refine SLe.bool ?_ | apply And.intro), by simp only [go_sem, e1, e2]; repeat' (first | exact trivial | exact True.intro | exact SLe.refl _ | exact OLe.refl _ | exact ⟨_, rfl, OLe.refl _⟩ | refine ⟨_, rfl, ?_⟩ | refine OLe.var ?_ | (show SLeL _ _; refine ⟨?_, ?_⟩) | (show SLeL [] []; exact True.intro) | (refine SLe.int ?_; rw [w64]; omega) | refine SLe.int ?_ | refine SLe.bool ?_ | apply And.intro)⟩
    ·simp only; omega
    ·simp only; omega
   ·rw [hbit] at ek
    have e1 : acT c ch (k + 1) = acT c ch k ++ [achI c k] := by rw [acT, hbit, if_pos rfl]
    have e2 : itT c ch (k + 1) = itT c ch k ++ [c.Items.getD k default] := by rw [itT, hbit, if_pos rfl]
    repeat' (first | apply zC | apply zG | apply zD | apply zL | apply zA | apply zP | apply zB | refine zF (by simp only [go_sem, ek, hof]; rfl) qR ?_ ?_ | refine zU (by simp only [go_sem, ek, hof]; rfl) qR ?_ ?_ | refine zQ qK qK ?_ | refine runDapN (by simp only [go_sem, ek, hof]; rfl) ?_ (by simp only [go_sem, ek, hof]; rfl) ?_ | refine zM K28 (by simp only [go_sem, ek, hof]; first | done | rfl) ?_ ⟨c.Offers, _, rfl, rfl⟩ (by simp only [go_sem, ek, hof]; rfl) ?_ | refine zX K29 (by simp only [go_sem, ek, hof]; first | done | rfl) ?_ ⟨_, rfl, rfl⟩ (by simp only [go_sem, ek, hof]; rfl) ?_ | (refine zE (by simp only [go_sem, ek, hof]; rfl) ?_ ?_ <;> intro hb <;> have hc := hb <;> (try simp only [bF] at hc) <;> (try (exfalso; simp at hc; done))) | exact True.intro | exact rfl | exact qP | fail)
    refine run_ren 5 1 qS ?_
    refine zR (o' := aAch (acT c ch k ++ [achI c k])) 1 qR (OLe.snoc eAch _ (achI c k) (ach_le c k)) ?_
    refine zR (o' := aItem (itT c ch k ++ [c.Items.getD k default])) 2 qR (OLe.snoc eItem _ (c.Items.getD k default) (SLe.refl _)) ?_
    rw [← e1, ← e2]
    repeat' (first | refine zS (k+1,()) ?_ ?_ ⟨rfl, qL, qL⟩ | omega)
    all_goals skip
  ·have hkl : k = c.Items.length := by omega
   subst hkl
   refine zO 1 qS ?_
   refine zO 2 qS ?_
   have hE : ∀ b : Bool, (canF c (itT c ch c.Items.length) && derF d c.Programme c.Scale (acT c ch c.Items.length) (lastDay c)) = b → b = false → ∀ i, i < ch + 1 → (canF c (itT c i c.Items.length) && derF d c.Programme c.Scale (acT c i c.Items.length) (lastDay c)) = false := fun b h1 h2 i hi => by
    by_cases hij : i = ch
    ·subst hij; rw [h1, h2]
    ·exact g2 i (by omega)
   obtain ⟨L, hL⟩ : ∃ L, L = itT c ch c.Items.length := ⟨_, rfl⟩
   obtain ⟨A, hA⟩ : ∃ A, A = acT c ch c.Items.length := ⟨_, rfl⟩
   rw [← hL, ← hA] at hE ⊢
   repeat' (first | apply zC | apply zP | refine zU qS qR ?_ ?_ | refine zQ qK qK ?_ | refine zX K30 qD ?_ ⟨c, L, rfl, rfl⟩ qS ?_ | refine runDcallg 74 qR qS K29 qD (fun hg => ?_) (fun _ => ⟨_, rfl, rfl⟩) qS ?_ | refine runDcallg 74 qR qS K14x qD (fun hg => ?_) (fun _ => ⟨c.Programme, c.Scale, A, lastDay c, hp, rfl, rfl⟩) qS ?_ | refine zK qR ?_ | exact True.intro | exact qP | fail)
   (refine zE qS ?_ ?_ <;> intro hb <;> have hc := hb <;> (try simp only [bF] at hc) <;> (try (exfalso; simp at hc; done)))
   ·have hyes : ((List.range M).any fun ch => canF c (itT c ch c.Items.length) && derF d c.Programme c.Scale (acT c ch c.Items.length) (lastDay c)) = true := by
     rw [List.any_eq_true]
     exact ⟨ch, List.mem_range.2 hch, by rw [← hL, ← hA]; exact hb⟩
    rw [hyes]
    repeat' (first | apply zC | apply zA | apply zB | refine zF qS qR ?_ ?_ | refine zI qR ?_ | exact True.intro | exact rfl | exact SLe0.bool rfl | fail)
    all_goals skip
   ·repeat' (first | apply zG | apply zL | apply zA | apply zB | refine zF qS qR ?_ ?_ | refine zS (ch+1,()) ?_ ?_ ⟨rfl, qL, qL⟩ | exact True.intro | exact rfl | omega)
    exact ⟨by simp only; omega, hE _ hb rfl⟩
 ·have hall : ((List.range M).any fun ch => canF c (itT c ch c.Items.length) && derF d c.Programme c.Scale (acT c ch c.Items.length) (lastDay c)) = false := (any_lt _).2 fun j hj => g2 j (by omega)
  rw [hall]
  repeat' (first | apply zC | apply zA | apply zB | refine zF qS qR ?_ ?_ | refine zI qR ?_ | refine zK qR ?_ | exact True.intro | exact rfl | exact SLe0.bool rfl | fail)
  all_goals skip
end Go.Sx
namespace Go.Sx
def posR (d : Nat) (c : Case) : Bool := (List.range (2 ^ c.Items.length)).any fun ch => permR c (itT c ch c.Items.length) 0 (itT c ch c.Items.length).length && derR d c.Programme c.Scale (acT c ch c.Items.length) (lastDay c)
theorem pos_eq (d : Nat) (c : Case) (h1 : DayOk (lastDay c)) (h2 : ∀ ch, ∀ a ∈ acT c ch c.Items.length, DayOk a.Day) : posF d c = posR d c := by
 unfold posF posR
 congr 1
 funext ch
 rw [can_perm, der_eq d _ _ _ _ h1 (h2 ch)]
open Go.Proofs Go.RowKit
attribute [local irreducible] Run RunL RunD OpT SLe0 SLe OLe
set_option maxHeartbeats 2000000
set_option maxRecDepth 8000
set_option maxHeartbeats 8000000
end Go.Sx
