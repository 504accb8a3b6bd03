/- Part of the proof that the laws of the judge return true for every input: J90, J91, J92a. -/
import Derived.Test.YtmbocmonhcplhaaGreatJ7
import Derived.Test.YtmbocmonhcplhaaGreatJ26
import Derived.Test.YtmbocmonhcplhaaGreatS4
set_option linter.all false
namespace Go.Sx
open Go.Proofs Go.RowKit
attribute [local irreducible] Run RunL RunD SLe0 SLe OLe
set_option maxHeartbeats 2000000
set_option maxRecDepth 8000
@[go_sem] def achC (a : Ach) : List SD := [.int .i64 a.Course.School, .str a.Course.Code, .int .i64 a.Credits, .int .i64 a.Grade, .int .i64 a.Day, ints a.Sources, .int .i64 a.Bundle, ints a.Path]
theorem K158 : FnOK Tryz.prog 158 (fun ds d => ∃ (l : List Int) (x : Int), ds = [eInt x, .fp [ints l]] ∧ d = .bool (l.any fun y => x == y)) := by
 refine fn_intro Tryz.call158 Tryz.func158 rfl Tryz.ntmps158 ?_
 rintro ds d ⟨l, x, rfl, rfl⟩
 refine ⟨by simp, fun w0 => ?_⟩
 repeat' (first | apply zC | apply zA | apply zB | refine zF qS qR ?_ ?_ | refine zM K115 qD ?_ ⟨_, _, rfl, rfl⟩ qS ?_ | refine zI qR ?_ | exact True.intro | exact rfl | exact SLe0.bool rfl | fail)
 all_goals skip
theorem K117 : FnOK Tryz.prog 117 (fun ds d => ∃ (a b : List Int), ds = [ints a, ints b] ∧ d = .bool (a.any fun x => b.any fun y => x == y)) := by
 refine fn_intro Tryz.call117 Tryz.func117 rfl Tryz.ntmps117 ?_
 rintro ds d ⟨a, b, rfl, rfl⟩
 refine ⟨by simp, fun w0 => ?_⟩
 repeat' (first | refine runL_frz 0 qS ?_ | apply zC | apply zA | apply zB | refine zF qS qR ?_ ?_ | refine zM K139 qD ?_ ⟨a, 158, [.fp [ints b]], fun x => b.any fun y => x == y, fun i _ => ⟨_, K158, _, _, rfl, rfl⟩, rfl, rfl⟩ qS ?_ | refine zI qR ?_ | exact True.intro | exact rfl | exact SLe0.bool rfl | fail)
 all_goals skip
theorem K56 : FnOK Tryz.prog 56 (fun ds d => ∃ (a b : Ach), ds = [eAch a, eAch b] ∧ d = .bool (pair a b)) := by
 refine fn_intro Tryz.call56 Tryz.func56 rfl Tryz.ntmps56 ?_
 rintro ds d ⟨a, b, rfl, rfl⟩
 refine ⟨by simp, fun w0 => ?_⟩
 rw [shared_pair]
 repeat' (first | apply zC | apply zG | apply zA | apply zB | refine zF qS qR ?_ ?_ | refine zV 21 qR qS K114 qD (fun hg => ?_) (fun _ => ⟨_, _, rfl, rfl⟩) qS ?_ | refine zV 29 qR qS K117 qD (fun hg => ?_) (fun _ => ⟨_, _, rfl, rfl⟩) qS ?_ | (refine zE qS ?_ ?_ <;> intro hb <;> have hc := hb <;> (try simp only [bF] at hc) <;> (try (exfalso; simp at hc; done))) | refine zI qR ?_ | exact True.intro | exact rfl | refine SLe0.bool ?_ | exact qP | fail)
 ·have : sameC a.Course b.Course = true := hb
  rw [this]; rfl
 ·have : sameC a.Course b.Course = false := hb
  rw [this, Bool.false_or]
  unfold shared
  by_cases h : a.Bundle > 0 ∧ a.Bundle = b.Bundle ∧ a.Path = b.Path
  ·rw [if_pos h]
   have h1 : (decide (0 < a.Bundle) && a.Bundle == b.Bundle && a.Path == b.Path) = true := by
    simp only [Bool.and_eq_true, decide_eq_true_eq, beq_iff_eq]
    exact ⟨⟨h.1, h.2.1⟩, h.2.2⟩
   rw [h1]; rfl
  ·rw [if_neg h]
   have h1 : (decide (0 < a.Bundle) && a.Bundle == b.Bundle && a.Path == b.Path) = false := by
    rw [Bool.eq_false_iff]
    intro hc
    simp only [Bool.and_eq_true, decide_eq_true_eq, beq_iff_eq] at hc
    exact h ⟨hc.1.1, hc.1.2, hc.2⟩
   rw [h1]; rfl
theorem K55 : FnOK Tryz.prog 55 (fun ds d => ∃ (a b : Ach), ds = [eAch b, .fp (achC a)] ∧ d = .bool (!pair a b)) := by
 refine fn_intro Tryz.call55 Tryz.func55 rfl Tryz.ntmps55 ?_
 rintro ds d ⟨a, b, rfl, rfl⟩
 refine ⟨by simp, fun w0 => ?_⟩
 repeat' (first | apply zC | apply zA | apply zB | refine zF qS qR ?_ ?_ | refine zM K56 qD ?_ ⟨_, _, rfl, rfl⟩ qS ?_ | refine zI qR ?_ | exact True.intro | exact rfl | exact SLe0.bool rfl | fail)
 all_goals skip
theorem K57 : FnOK Tryz.prog 57 (fun ds d => ∃ l f caps p, (∀ i, i < l.length → FnV Tryz.prog f caps [eAch (l.getD i default)] (.bool (p (l.getD i default)))) ∧ ds = [eList 8 eAch l, .fn f caps] ∧ d = .bool (l.any p)) := by
 refine fn_intro Tryz.call57 Tryz.func57 rfl Tryz.ntmps57 ?_
 rintro ds d ⟨l, f, caps, p, hp, rfl, rfl⟩
 refine ⟨by simp, fun w0 => ?_⟩
 repeat' (first | apply zC | apply zA | apply zB | refine zF qS qR ?_ ?_ | refine zM K101 qD ?_ ⟨l, f, caps, p, hp, rfl, rfl⟩ qS ?_ | refine zI qR ?_ | exact True.intro | exact rfl | refine SLe0.bool ?_ | fail)
 exact idxF_any _ _ _
theorem FnOK.slE {P : Program} {f : Nat} {R : List SD → SD → Prop} (hf : FnOK P f R) : FnOK P f (fun ds d => ∃ ds0, SLeL ds ds0 ∧ R ds0 d) :=
 ⟨hf.call, fun ds d ⟨ds0, h1, hr⟩ h e w vs gh sb hv => hf.ok ds0 d hr h e w vs gh sb (h1.repT hv)⟩
theorem K57d : FnOK Tryz.prog 57 (fun ds d => ∃ (l : List Ach) (k f : Nat) (caps : List SD) (p : Ach → Bool), (k + 1 ≤ l.length ∧ ∀ i, i < (l.drop (k + 1)).length → FnV Tryz.prog f caps [eAch ((l.drop (k + 1)).getD i default)] (.bool (p ((l.drop (k + 1)).getD i default)))) ∧ ds = [.list 8 (l.length - (k + 1)) (fun i => eAch (l.getD (k + 1 + i) default)), .fn f caps] ∧ d = .bool ((l.drop (k + 1)).any p)) :=
 K57.slE.weaken fun ds d ⟨l, k, f, caps, p, ⟨hk, hp⟩, h1, h2⟩ => ⟨_, by
  rw [h1]
  refine ⟨SLe.list (by simp) fun i hi => ?_, SLe.refl _, trivial⟩
  show eAch _ = eAch _
  congr 1
  simp [List.getD_eq_getElem?_getD], l.drop (k + 1), f, caps, p, hp, rfl, h2⟩
theorem K18 : FnOK Tryz.prog 18 (fun ds d => ∃ l, l.length ≤ 1000 ∧ ds = [eList 8 eAch l] ∧ d = .bool (pw pair l)) := by
 refine fn_intro Tryz.call18 Tryz.func18 rfl Tryz.ntmps18 ?_
 rintro ds d ⟨l, hl, rfl, rfl⟩
 refine ⟨by simp, fun w0 => ?_⟩
 repeat' (first | apply zC | apply zD | apply zA | apply zB | refine zF qS qR ?_ ?_ | exact True.intro | exact rfl | fail)
 refine zN [0, 6, 7] (fun k : Nat × Unit => [(8, .int .i64 k.1)]) (fun k : Nat × Unit => []) (fun k : Nat × Unit => k.1 ≤ l.length ∧ pw pair l = pw pair (l.drop k.1)) (fun k : Nat × Unit => l.length - k.1) (0, ()) (fun x => qS) ?_ qL qL ?_
 ·exact ⟨Nat.zero_le _, rfl⟩
 rintro ⟨k, _⟩ ⟨h1, h2⟩
 simp only at h1 h2
 repeat' (first | apply zC | apply zA | apply zB | refine zF qS qR ?_ ?_ | exact True.intro | exact rfl | fail)
 (refine zE qS ?_ ?_ <;> intro hb <;> have hc := hb <;> (try simp only [bF] at hc) <;> (try (exfalso; simp at hc; done)))
 ·have hk : k < l.length := by assumption
  rw [pw_drop _ _ _ hk] at h2
  have e1 : IntKind.i64.wrap ((k : Int) + 1) = ((k + 1 : Nat) : Int) := by rw [w64]; omega
  have hv : ∀ i, i < (l.drop (k + 1)).length → FnV Tryz.prog 55 [.fp (achC (l.getD k default))] [eAch ((l.drop (k + 1)).getD i default)] (.bool (!pair (l.getD k default) ((l.drop (k + 1)).getD i default))) := fun i _ => ⟨_, K55, _, _, rfl, rfl⟩
  repeat' (first | refine runL_frz 0 qS ?_ | apply zC | apply zG | apply zD | apply zL | apply zA | apply zB | refine zF (by simp only [go_sem, e1]; rfl) qR ?_ ?_ | refine zM K57d (by simp only [go_sem, e1]; first | done | rfl) ?_ ⟨l, k, 55, _, (fun y => !pair (l.getD k default) y), ⟨hk, hv⟩, rfl, rfl⟩ (by simp only [go_sem, e1]; rfl) ?_ | (refine zE (by simp only [go_sem, e1]; rfl) ?_ ?_ <;> intro hb <;> have hc := hb <;> (try simp only [bF] at hc) <;> (try (exfalso; simp at hc; done))) | refine zI qR ?_ | refine zS (k+1,()) ?_ ?_ ⟨rfl, qL, qL⟩ | exact True.intro | exact rfl | omega | refine SLe0.bool ?_ | exact qP | fail)
  ·have h3 : (l.drop (k + 1)).all (pair (l.getD k default)) = false := by
    rw [List.all_eq_false]
    rw [List.any_eq_true] at hb
    obtain ⟨y, y1, y2⟩ := hb
    exact ⟨y, y1, by simpa using y2⟩
   rw [h2, h3, Bool.false_and]
  ·have h3 : (l.drop (k + 1)).all (pair (l.getD k default)) = true := by
    rw [List.all_eq_true]
    rw [List.any_eq_false] at hb
    exact fun y hy => by simpa using hb y hy
   exact ⟨by simp only; omega, by rw [h2, h3, Bool.true_and]⟩
 ·repeat' (first | apply zC | apply zA | apply zB | refine zF qS qR ?_ ?_ | refine zI qR ?_ | refine zK qR ?_ | exact True.intro | exact rfl | refine SLe0.bool ?_ | fail)
  rw [h2, List.drop_of_length_le (by omega)]; rfl
end Go.Sx
namespace Go.Sx
open Go.Proofs Go.RowKit
attribute [local irreducible] Run RunL RunD OpT SLe0 SLe OLe
set_option maxHeartbeats 2000000
set_option maxRecDepth 8000
set_option maxHeartbeats 20000000
theorem cs_ole (l : List Course) : OLe (.acc 63 2 (0 + l.length) (joinF 0 (fun _ => SD.any) fun i => eCourse (l.getD i default))) (.acc 63 2 l.length fun i => eCourse (l.getD i default)) := OLe.accS (Nat.zero_add _) fun i _ => by
 simp only [joinF, Nat.not_lt_zero, if_false, Nat.sub_zero]
theorem K89p (Pm : Need → Prop) (ih : FnOK Tryz.prog 89 (fun ds v => ∃ n : Need, Pm n ∧ ds = [eNeedU n] ∧ v = eNeedU n)) : FnOK Tryz.prog 89 (fun ds v => ∃ n : Need, ((∀ m ∈ n.L, Pm m) ∧ n.L.length ≤ 10000) ∧ ds = [eNeedU n] ∧ v = eNeedU n) := by
 refine fn_intro Tryz.call89 Tryz.func89 rfl Tryz.ntmps89 ?_
 rintro ds d ⟨n, ⟨hn, hl⟩, rfl, rfl⟩
 refine ⟨by simp, fun w0 => ?_⟩
 refine yE 0 3 rfl rfl fun hs => ?_
 repeat' (first | apply zC | apply zD | apply zA | apply zB | refine zF qS qR ?_ ?_ | exact True.intro | exact rfl | exact qP | fail)
 refine zR (o' := .acc 63 2 n.Set.length fun i => eCourse (n.Set.getD i default)) 3 qR (cs_ole _) ?_
 refine zO 3 qS ?_
 refine run_nilaccV 2 4 30 5 (fun i => eNeedU (([] : List Need).getD i default)) rfl rfl (by simp only [List.set]; rfl) qZ ?_
 refine zN [0, 1, 2, 3] (fun x : Nat × Unit => [(4, .int .i64 x.1)]) (fun x : Nat × Unit => [(2, .var [.int .i64 n.Kind, .int .i64 n.N, .int .i64 n.Min, eList 2 eCourse n.Set, .acc 4]), (4, .acc 30 5 (n.L.take x.1).length (fun i => eNeedU ((n.L.take x.1).getD i default)))]) (fun x : Nat × Unit => x.1 ≤ n.L.length) (fun x : Nat × Unit => n.L.length - x.1) (0, ()) (fun x => qS) ?_ qL qL ?_
 ·exact Nat.zero_le _
 rintro ⟨j, _⟩ g1
 simp only at g1
 repeat' (first | apply zC | apply zA | apply zB | refine zF qS qR ?_ ?_ | exact True.intro | exact rfl | fail)
 (refine zE qS ?_ ?_ <;> intro hb <;> have hc := hb <;> (try simp only [bF] at hc) <;> (try (exfalso; simp at hc; done)))
 ·have hj : j < n.L.length := by assumption
  have hx := hn _ (getD_mem' hj)
  have htl : (n.L.take j).length = j := by rw [List.length_take]; omega
  have htk : n.L.take (j + 1) = n.L.take j ++ [n.L.getD j default] := by rw [List.take_add_one, List.getD_eq_getElem?_getD, List.getElem?_eq_getElem hj]; rfl
  have en : nthSD (eNeeds n.L) j = eNeedU (n.L.getD j default) := by rw [eNeeds_nth _ _ hj, eNeed, nCells_eq]; rfl
  repeat' (first | apply zC | apply zG | apply zD | apply zL | apply zA | apply zP | apply zB | refine zF (by simp only [go_sem, en]; rfl) qR ?_ ?_ | refine runDqRP (by simp only [go_sem, en]; rfl) qR ?_ (by simp only [go_sem, en, recsOf, recA, recU, recG, readS, keysA, keysU]; rfl) ?_ | refine zQ qK qK ?_ | refine runDapN (by simp only [go_sem, en]; rfl) ?_ (by simp only [go_sem, en]; rfl) ?_ | refine zX ih (by simp only [go_sem, en]; first | done | rfl) ?_ ⟨n.L.getD j default, hx, rfl, rfl⟩ (by simp only [go_sem, en]; rfl) ?_ | exact True.intro | exact rfl | exact qP | fail)
  refine run_ren 5 4 qS ?_
  refine zR (o' := .acc 30 5 (n.L.take j ++ [n.L.getD j default]).length (fun i => eNeedU ((n.L.take j ++ [n.L.getD j default]).getD i default))) 4 qR (ole_snoc eNeedU (n.L.take j) _ rfl) ?_
  rw [← htk]
  repeat' (first | refine zS (j+1,()) ?_ ?_ ⟨rfl, qL, qL⟩ | omega)
  all_goals skip
 ·have hje : j = n.L.length := by omega
  subst hje
  rw [List.take_length]
  repeat' (first | refine zO 4 qS ?_ | apply zC | apply zA | apply zB | refine zF qS qR ?_ ?_ | refine yA qR qS ?_ | refine zK qR ?_ | exact True.intro | exact rfl | fail)
  all_goals (refine SLe0.le qZ ?_)
  all_goals exact SLe.agg ⟨SLe.refl _, SLe.refl _, SLe.refl _, SLe.refl _, needs_sle n.L, trivial⟩
theorem K89_none : FnOK Tryz.prog 89 (fun ds v => ∃ n : Need, False ∧ ds = [eNeedU n] ∧ v = eNeedU n) := by
 refine fn_intro Tryz.call89 Tryz.func89 rfl Tryz.ntmps89 ?_
 rintro ds d ⟨_, h, _⟩
 exact h.elim
theorem K89 : ∀ d : Nat, FnOK Tryz.prog 89 (fun ds v => ∃ n : Need, WOk d n ∧ ds = [eNeedU n] ∧ v = eNeedU n)
 | 0 => (K89p (fun _ => False) K89_none).weaken fun ds v ⟨n, hn, h1, h2⟩ => by
  have hL : n.L = [] := hn.1.2
  exact ⟨n, ⟨fun m hm => (by rw [hL] at hm; cases hm), by rw [hL]; simp⟩, h1, h2⟩
 | d + 1 => (K89p (fun m => WOk d m) (K89 d)).weaken fun ds v ⟨n, hn, h1, h2⟩ => by
  have c2 := nodesF_succ d 1 n
  have c3 := flat_ge d (1 + 1) n.L
  have c4 := hn.2
  refine ⟨n, ⟨fun m hm => ⟨hn.1.2 m hm, ?_⟩, by omega⟩, h1, h2⟩
  obtain ⟨i, hi, rfl⟩ := List.getElem_of_mem hm
  have h3 := flat_room (nodesF d (1 + 1)) n.L i hi
  rw [List.getD_eq_getElem?_getD, List.getElem?_eq_getElem hi] at h3
  simp only [Option.getD_some] at h3
  rw [nodesF_shift d (1 + 1) 1] at h3
  omega
end Go.Sx
namespace Go.Sx
theorem run_liveLe {P : Program} {F : List Nat} {w0 : Base} {s : St} {fin : Exit → Act → World → Prop} {kl : List It} (k : Nat) {T es n i n' i' : Nat} {f f' : Nat → SD} {d d' : SD} (ho : lkO s.ow k = some (liveO T es n f i d)) (hn' : n = n') (hi' : i = i') (hf : ∀ q, q < n → q ≠ i → f q = f' q) (hd : SLe d d')
  (hn : Run P F w0 fin kl ⟨s.n, s.nx, s.sl, upd s.ow k (liveO T es n' f' i' d')⟩) : Run P F w0 fin kl s := fun h e a w D => by
 subst hn' hi'
 refine hn h e a w ?_
 have hb : ∀ e : Nm, (liveO T es n f' i d').blk e k = (liveO T es n f i d).blk e k := fun e => by rw [blk_acc isAcc_live, blk_acc isAcc_live]
 refine ⟨D.defers, D.size, D.slot, fun j o hj => ?_, fun j o b hj hbb => ?_, fun j j' o o' b hne hj hj' hbb => ?_, D.sub, D.keeps, D.le, D.neww, D.fix⟩
 ·rw [lkO_upd] at hj
  by_cases hjk : j = k
  ·subst hjk
   simp only [if_true, Option.some.injEq] at hj
   subst hj
   obtain ⟨xs, o1, o2, o3, o4, uv, y5, y6⟩ := live_ok rfl (D.own j _ ho)
   exact live_mk o1 o2 o3 (fun q hq hqi => by rw [← hf q hq hqi]; exact o4 q hq hqi) (hd _ _ _ y5) y6
  ·simp only [hjk, if_false] at hj
   exact D.own j o hj
 ·rw [lkO_upd] at hj
  by_cases hjk : j = k
  ·subst hjk
   simp only [if_true, Option.some.injEq] at hj
   subst hj
   rw [hb] at hbb
   exact D.ownb j _ b ho hbb
  ·simp only [hjk, if_false] at hj
   exact D.ownb j o b hj hbb
 ·rw [lkO_upd] at hj hj'
  by_cases hjk : j = k
  ·subst hjk
   simp only [if_true, Option.some.injEq] at hj
   subst hj
   rw [hb] at hbb
   have hjk' : ¬ j' = j := fun hc => hne hc.symm
   simp only [hjk', if_false] at hj'
   exact D.apart j j' _ o' b hne ho hj' hbb
  ·simp only [hjk, if_false] at hj
   by_cases hjk' : j' = k
   ·subst hjk'
    simp only [if_true, Option.some.injEq] at hj'
    subst hj'
    rw [hb]
    exact D.apart j j' o _ b hne hj ho hbb
   ·simp only [hjk', if_false] at hj'
    exact D.apart j j' o o' b hne hj hj' hbb
open Go.Proofs Go.RowKit
attribute [local irreducible] Run RunL RunD OpT SLe0 SLe OLe
set_option maxHeartbeats 2000000
set_option maxRecDepth 8000
set_option maxHeartbeats 20000000
theorem K89o0 (Pm : Need → Prop) (ih : FnOK Tryz.prog 89 (fun ds v => ∃ n : Need, Pm n ∧ ds = [eNeedU n] ∧ v = eNeedU n)) : FnM Tryz.prog 89 (fun ds os d os' => ∃ n : Need, ((∀ m ∈ n.L, Pm m) ∧ n.L.length ≤ 10000) ∧ ds = [eNeedU n] ∧ os = [] ∧ d = .agg [.int .i64 n.Kind, .int .i64 n.N, .int .i64 n.Min, .acc 3, .acc 4] ∧ os' = [(4, .acc 30 5 n.L.length fun i => eNeedU (n.L.getD i default)), (3, .acc 63 2 n.Set.length fun i => eCourse (n.Set.getD i default))]) := by
 refine fn_introM Tryz.call89 Tryz.func89 rfl Tryz.ntmps89 ?_
 rintro ds os d os' ⟨n, ⟨hn, hl⟩, rfl, rfl, rfl, rfl⟩
 refine ⟨by simp, fun F w0 => ?_⟩
 refine yE 0 3 rfl rfl fun hs => ?_
 repeat' (first | apply zC | apply zD | apply zA | apply zB | refine zF qS qR ?_ ?_ | exact True.intro | exact rfl | exact qP | fail)
 refine zR (o' := .acc 63 2 n.Set.length fun i => eCourse (n.Set.getD i default)) 3 qR (cs_ole _) ?_
 refine run_nilaccV 2 4 30 5 (fun i => eNeedU (([] : List Need).getD i default)) rfl rfl (by simp only [List.set]; rfl) qZ ?_
 refine zN [0, 1, 2, 3] (fun x : Nat × Unit => [(4, .int .i64 x.1)]) (fun x : Nat × Unit => [(4, .acc 30 5 (n.L.take x.1).length (fun i => eNeedU ((n.L.take x.1).getD i default)))]) (fun x : Nat × Unit => x.1 ≤ n.L.length) (fun x : Nat × Unit => n.L.length - x.1) (0, ()) (fun x => qS) ?_ qL qL ?_
 ·exact Nat.zero_le _
 rintro ⟨j, _⟩ g1
 simp only at g1
 repeat' (first | apply zC | apply zA | apply zB | refine zF qS qR ?_ ?_ | exact True.intro | exact rfl | fail)
 (refine zE qS ?_ ?_ <;> intro hb <;> have hc := hb <;> (try simp only [bF] at hc) <;> (try (exfalso; simp at hc; done)))
 ·have hj : j < n.L.length := by assumption
  have hx := hn _ (getD_mem' hj)
  have htk : n.L.take (j + 1) = n.L.take j ++ [n.L.getD j default] := by rw [List.take_add_one, List.getD_eq_getElem?_getD, List.getElem?_eq_getElem hj]; rfl
  have en : nthSD (eNeeds n.L) j = eNeedU (n.L.getD j default) := by rw [eNeeds_nth _ _ hj, eNeed, nCells_eq]; rfl
  repeat' (first | apply zC | apply zG | apply zD | apply zL | apply zA | apply zP | apply zB | refine zF (by simp only [go_sem, en]; rfl) qR ?_ ?_ | refine runDqRP (by simp only [go_sem, en]; rfl) qR ?_ (by simp only [go_sem, en, recsOf, recA, recU, recG, readS, keysA, keysU]; rfl) ?_ | refine zQ qK qK ?_ | refine runDapN (by simp only [go_sem, en]; rfl) ?_ (by simp only [go_sem, en]; rfl) ?_ | refine zX ih (by simp only [go_sem, en]; first | done | rfl) ?_ ⟨n.L.getD j default, hx, rfl, rfl⟩ (by simp only [go_sem, en]; rfl) ?_ | exact True.intro | exact rfl | exact qP | fail)
  refine run_ren 5 4 qS ?_
  refine zR (o' := .acc 30 5 (n.L.take j ++ [n.L.getD j default]).length (fun i => eNeedU ((n.L.take j ++ [n.L.getD j default]).getD i default))) 4 qR (ole_snoc eNeedU (n.L.take j) _ rfl) ?_
  rw [← htk]
  repeat' (first | refine zS (j+1,()) ?_ ?_ ⟨rfl, qL, qL⟩ | omega)
  all_goals skip
 ·have hje : j = n.L.length := by omega
  subst hje
  rw [List.take_length]
  repeat' (first | apply zC | apply zA | apply zB | refine zF qS qR ?_ ?_ | refine zK qR ?_ | exact True.intro | exact rfl | fail)
  refine yC qR qS ?_ ?_
  ·exact SLe.refl _
  ·(show subO _ _; simp only [go_sem]; repeat' (first | exact SLe.any1 | exact trivial | exact True.intro | exact SLe.refl _ | exact OLe.refl _ | exact ⟨_, rfl, OLe.refl _⟩ | refine ⟨_, rfl, ?_⟩ | refine OLe.var ?_ | (show SLeL _ _; refine ⟨?_, ?_⟩) | (show SLeL [] []; exact True.intro) | (refine SLe.int ?_; rw [w64]; omega) | refine SLe.int ?_ | refine SLe.bool ?_ | apply And.intro))
end Go.Sx
