/- Part of the proof that the laws of the judge return true for every input: J25, J26. -/
import Derived.Test.YtmbocmonhcplhaaGreatJ24
import Derived.Test.YtmbocmonhcplhaaGreatS4
set_option linter.all false
namespace Go.Sx
theorem FnMA.weaken {P : Program} {f : Nat} {h0 : Hp} {bl : List Nat} {R R' : List SD → List OB → SD → List (Nat × OB) → Prop} (hf : FnMA P f h0 bl R) (h : ∀ ds os d os', R' ds os d os' → R ds os d os') : FnMA P f h0 bl R' := ⟨hf.call, fun ds os d os' hr => hf.ok ds os d os' (h ds os d os' hr)⟩
open Go.Proofs Go.RowKit
attribute [local irreducible] Run RunL RunD OpT SLe0 SLe OLe
set_option maxHeartbeats 2000000
set_option maxRecDepth 8000
set_option maxHeartbeats 20000000
theorem nq_join (qs : List (Need × Nat)) (x : Need × Nat) (f : Nat → SD) (hf : f 0 = eNeedU x.1) (i : Nat) (hi : i < qs.length + 1) : joinF qs.length (fun i => eNeedU (qs.getD i default).1) f i = eNeedU ((qs ++ [x]).getD i default).1 := by
 simp only [joinF]
 by_cases h : i < qs.length
 ·rw [if_pos h, List.getD_eq_getElem?_getD, List.getD_eq_getElem?_getD, List.getElem?_append_left h]
 ·have : i = qs.length := by omega
  subst this
  rw [if_neg h, Nat.sub_self, hf]
  simp
theorem nq_ole (qs : List (Need × Nat)) (x : Need × Nat) {f : Nat → SD} (hf : f 0 = eNeedU x.1) : OLe (.acc 30 5 (qs.length + 1) (joinF qs.length (fun i => eNeedU (qs.getD i default).1) f)) (eAq (qs ++ [x])) := OLe.accS (by simp) fun i hi => nq_join qs x f hf i hi
@[go_sem] def eQl (qs : List (Need × Nat)) : SD := .list 5 qs.length fun i => eNeedU (qs.getD i default).1
theorem K143 (d : Nat) (hd : 1 + d ≤ 100) (hc : cntB d ≤ 10000) : FnOK Tryz.prog 143 (fun ds v => ∃ n : Need, NOk d n ∧ ds = [eNeedU n] ∧ v = .tup [eQl (nodesF d 1 n), .int .i64 (deepQ (nodesF d 1 n) : Nat), .bool true]) := by
 refine fn_introX Tryz.call143 Tryz.func143 rfl Tryz.ntmps143 ?_
 rintro ds v ⟨n, hn, rfl, rfl⟩
 refine ⟨by simp, fun w0 => ?_⟩
 repeat' (first | apply zC | apply zD | apply zA | apply zB | refine zF qS qR ?_ ?_ | refine zL K185 qD ?_ ⟨_, rfl, rfl⟩ qS ?_ | exact True.intro | exact rfl | fail)
 refine run_nilaccV 1 0 30 5 (fun i => eNeedU (([] : List (Need × Nat)).getD i default).1) rfl rfl (by simp only [List.set]; rfl) rfl ?_
 refine run_keep [2, 3, 4, 8] qS ?_
 refine run_rangeFuncO [1, 2, 4] (gf := 221) (os := [eVl, eDp [], eAq []]) (osu' := [eVl, eDp (nodesF d 1 n), eAq (nodesF d 1 n)]) (pe := none) rfl qS qR qR qR qR (fun r K => by rfl) (fun h1 bl r hps has hbd htm hbl1 hle hfx hsl => ?hit) (fun r K => by simp only [go_sem]; rfl) (fun r K => by rfl) (fun r K => ?hk)
 case hk =>
  refine run_st (s' := ?_) qS ?_
  simp only [contK]
  change Run _ _ ⟨w0, none, [{ target := .collected K, args := #[] }]⟩ _ _ _
  repeat' (first | refine zN 4 qS ?_ | apply zC | apply zK | apply zO | refine zT qS qR ?_ ?_ | refine zP qK qK ?_ | exact True.intro | fail)
  refine run_retX1 5 K qR qR qS ?_
  exact SLe0.le qZ (SLe.refl _)
 case hit =>
  refine (K221 r h1 bl (by simpa using hbl1) ?Y d).weaken ?w
  case w =>
   rintro ds os d os' ⟨rfl, rfl, rfl, rfl⟩
   exact ⟨[], n, ⟨hn, hd, by simpa using hc⟩, rfl, rfl, rfl, rfl⟩
  case Y =>
   obtain ⟨c0, c1, c2, c3, rfl⟩ : ∃ b0 b1 b2 b3, bl = [b0, b1, b2, b3] := by
    match bl, hbl1 with
    | [b0, b1, b2, b3], _ => exact ⟨b0, b1, b2, b3, rfl⟩
   refine yld_intro r [(2, .loc 1000 0), (3, .loc 1001 0)] 27 r.l rfl htm (by rw [hps]; simp) (fun h e hl hb t => by
    by_cases ht : t = 2
    ·subst ht; exact hsl h e hl hb 2
    ·by_cases ht3 : t = 3
     ·subst ht3; exact hsl h e hl hb 3
     ·have : lkp [(2, SD.loc 1000 0), (3, SD.loc 1001 0)] t = .any := by
       simp only [lkp]; rw [beqF (fun hc => ht hc.symm), beqF (fun hc => ht3 hc.symm)]; rfl
      rw [this]; simp only [rep]) ?_
   rintro ds os v os' ⟨qs, x, ⟨hx, hql⟩, rfl, rfl, rfl, rfl⟩
   have f1 : decide ((100 : Int) < ((x.2 : Nat) : Int)) = false := decide_eq_false (by omega)
   have f2 : (((qs.length : Nat) : Int) == 10000) = false := by
    rw [beq_eq_false_iff_ne]; intro hc; omega
   refine ⟨[eVl, eDp qs, eAq qs], [eVl, eDp (qs ++ [x]), eAq (qs ++ [x])], none, ?sA, rfl, rfl, rfl, rfl, rfl, by rw [hps]; rfl, fun F w0 han2 => ?g1, ?g2, fun F w0 han2 => ?g3⟩
   case g1 =>
    rw [has, hps]
    change Run _ F _ _ _ ⟨27, 0, upd (upd [(2, .loc 1000 0), (3, .loc 1001 0)] 9 (eInt (x.2 : Nat))) 10 (eNeedU x.1), _⟩
    repeat' (first | apply zC | apply zA | apply zB | refine zF qS qR ?_ ?_ | exact True.intro | exact rfl | fail)
    exact run_here
   case g2 => rfl
   case g3 =>
    rw [hbd]
    repeat' (first | apply zC | apply zG | apply zD | apply zK | apply zA | apply zO | apply zB | refine zF (by simp only [go_sem, menM, f1, f2]; rfl) qR ?_ ?_ | refine zT (by simp only [go_sem, menM, f1, f2]; rfl) qR ?_ ?_ | refine zP qK qK ?_ | refine runDapN (by simp only [go_sem, menM, f1, f2]; rfl) ?_ (by simp only [go_sem, menM, f1, f2]; rfl) ?_ | (refine zE (by simp only [go_sem, menM, f1, f2]; rfl) ?_ ?_ <;> intro hb <;> have hc := hb <;> (try simp only [bF] at hc) <;> (try (exfalso; simp at hc; done))) | exact True.intro | exact rfl | exact qP | fail)
    refine run_renH 701 1002 qS ?_
    refine zQ (o' := eAq (qs ++ [x])) 1002 qR (nq_ole qs x rfl) ?_
    refine run_round_end ?_
    (show subO _ _; simp only [go_sem]; repeat' (first | exact SLe.any1 | exact trivial | exact True.intro | exact SLe.refl _ | exact OLe.refl _ | exact ⟨_, rfl, OLe.refl _⟩ | refine ⟨_, rfl, ?_⟩ | refine OLe.var ?_ | (show SLeL _ _; refine ⟨?_, ?_⟩) | (show SLeL [] []; exact True.intro) | (refine SLe.int ?_; rw [w64]; omega) | refine SLe.int ?_ | refine SLe.bool ?_ | apply And.intro))
    rw [deepQ_snoc]
    split <;> omega
end Go.Sx
namespace Go.Sx
theorem ole_snoc {α : Type} [Inhabited α] {T es : Nat} (enc : α → SD) (l : List α) (x : α) {f : Nat → SD} (hf : f 0 = enc x) : OLe (.acc T es (l.length + 1) (joinF l.length (fun i => enc (l.getD i default)) f)) (.acc T es (l ++ [x]).length (fun i => enc ((l ++ [x]).getD i default))) := OLe.accS (by simp) fun i hi => by
 simp only [joinF]
 by_cases h : i < l.length
 ·rw [if_pos h, List.getD_eq_getElem?_getD, List.getD_eq_getElem?_getD, List.getElem?_append_left h]
 ·have : i = l.length := by omega
  subst this
  rw [if_neg h, Nat.sub_self, hf]
  simp
open Go.Proofs Go.RowKit
attribute [local irreducible] Run RunL RunD OpT SLe0 SLe OLe
set_option maxHeartbeats 2000000
set_option maxRecDepth 8000
set_option maxHeartbeats 20000000
theorem K224 : FnOK Tryz.prog 224 (fun ds d => ∃ f : Nat → SD, ds = [.list 5 0 f] ∧ d = .list 5 0 f) := by
 refine fn_intro Tryz.call224 Tryz.func224 rfl Tryz.ntmps224 ?_
 rintro ds d ⟨f, rfl, rfl⟩
 refine ⟨by simp, fun w0 => ?_⟩
 repeat' (first | refine zN 0 qS ?_ | apply zC | apply zG | apply zA | apply zB | refine zF qS qR ?_ ?_ | refine yF qS qZ qZ (fun bn hbn => ?_) | (refine zE qS ?_ ?_ <;> intro hb <;> have hc := hb <;> (try simp only [bF] at hc) <;> (try (exfalso; simp at hc; done))) | refine zI qR ?_ | exact True.intro | exact rfl | exact SLe0.pure rfl | exact qP | fail)
 all_goals first | exact SLe0.le qZ SLe.nils | exact SLe0.le qZ (SLe.list rfl fun i hi => absurd hi (Nat.not_lt_zero _))
theorem K187 : FnOK Tryz.prog 187 (fun ds d => ∃ n : Need, n.L = [] ∧ ds = [eNeedU n] ∧ d = eNeedU n) := by
 refine fn_intro Tryz.call187 Tryz.func187 rfl Tryz.ntmps187 ?_
 rintro ds d ⟨n, hL, rfl, rfl⟩
 refine ⟨by simp, fun w0 => ?_⟩
 repeat' (first | apply zC | apply zD | apply zA | apply zO | apply zB | refine zF (by simp only [go_sem, hL]; rfl) qR ?_ ?_ | refine zT (by simp only [go_sem, hL]; rfl) qR ?_ ?_ | refine zP qK qK ?_ | refine zW K223 (by simp only [go_sem, hL]; first | done | rfl) ?_ ⟨_, rfl, rfl⟩ (by simp only [go_sem, hL]; rfl) ?_ | refine zW K224 (by simp only [go_sem, hL]; first | done | rfl) ?_ ⟨_, rfl, rfl⟩ (by simp only [go_sem, hL]; rfl) ?_ | exact True.intro | exact rfl | fail)
 refine zM [0, 1, 2, 14, 15] (fun x : Nat × Unit => [(16, .int .i64 x.1)]) (fun x : Nat × Unit => []) (fun x : Nat × Unit => x.1 ≤ 0) (fun x : Nat × Unit => 0 - x.1) (0, ()) (fun x => qS) ?_ qL qL ?_
 ·exact Nat.le_refl _
 rintro ⟨j, _⟩ g1
 simp only at g1
 repeat' (first | apply zC | apply zA | apply zB | refine zF (by simp only [go_sem, hL]; rfl) qR ?_ ?_ | (refine zE (by simp only [go_sem, hL]; rfl) ?_ ?_ <;> intro hb <;> have hc := hb <;> (try simp only [bF] at hc) <;> (try (exfalso; simp at hc; done))) | refine zZ qR (by simp only [go_sem, hL]; rfl) ?_ | refine zJ qR ?_ | exact True.intro | exact rfl | fail)
 all_goals (refine SLe0.le qZ ?_; simp only [go_sem, hL]; exact SLe.refl _)
def lvs (qs : List (Need × Nat)) : List Need := (qs.map (·.1)).filter leafR
@[go_sem] def eLv (l : List Need) : SD := .list 5 l.length fun i => eNeedU (l.getD i default)
theorem nodesF_ok : ∀ (d k : Nat) (n : Need), NOk d n → ∀ x ∈ nodesF d k n, SetOk x.1 ∧ (leafR x.1 = true → x.1.L = [])
 | 0, k, n, h, x, hx => by
  simp only [nodesF, List.mem_singleton] at hx
  subst hx
  exact ⟨h.set, h.lf⟩
 | d + 1, k, n, h, x, hx => by
  simp only [nodesF, List.mem_cons, List.mem_flatMap] at hx
  rcases hx with rfl | ⟨y, hy, hx⟩
  ·exact ⟨h.set, h.lf⟩
  ·exact nodesF_ok d (k + 1) y (h.2.2.2 y hy) x hx
theorem K144 (d : Nat) (hd : 1 + d ≤ 100) (hc : cntB d ≤ 10000) : FnOK Tryz.prog 144 (fun ds v => ∃ n : Need, NOk d n ∧ ds = [eNeedU n] ∧ v = eLv (lvs (nodesF d 1 n))) := by
 have K := K143 d hd hc
 refine fn_intro Tryz.call144 Tryz.func144 rfl Tryz.ntmps144 ?_
 rintro ds d ⟨n, hn, rfl, rfl⟩
 refine ⟨by simp, fun w0 => ?_⟩
 have hlen := nodesF_len d 1 n hn
 have hok := nodesF_ok d 1 n hn
 repeat' (first | apply zC | apply zD | apply zA | apply zB | refine zF qS qR ?_ ?_ | refine zL K qD ?_ ⟨n, hn, rfl, rfl⟩ qS ?_ | exact True.intro | exact rfl | fail)
 generalize nodesF d 1 n = qs at hlen hok ⊢
 refine yE 2 30 5 (fun i => eNeedU (([] : List Need).getD i default)) rfl rfl rfl ?_
 refine zM [0, 1, 2, 14, 15] (fun x : Nat × List Need => [(16, .int .i64 x.1)]) (fun x : Nat × List Need => [(1, .acc 30 5 x.2.length (fun i => eNeedU (x.2.getD i default)))]) (fun x : Nat × List Need => (x.1 ≤ qs.length ∧ x.2.length ≤ x.1) ∧ lvs qs = x.2 ++ lvs (qs.drop x.1)) (fun x : Nat × List Need => qs.length - x.1) (0, []) (fun x => qS) ?_ qL qL ?_
 ·exact ⟨⟨Nat.zero_le _, Nat.zero_le _⟩, rfl⟩
 rintro ⟨j, ls⟩ ⟨⟨g1, g3⟩, g2⟩
 simp only at g1 g2 g3
 repeat' (first | apply zC | apply zA | apply zB | refine zF qS qR ?_ ?_ | exact True.intro | exact rfl | fail)
 (refine zE qS ?_ ?_ <;> intro hb <;> have hc := hb <;> (try simp only [bF] at hc) <;> (try (exfalso; simp at hc; done)))
 ·have hj : j < qs.length := by assumption
  have hx := hok _ (getD_mem' hj)
  have hdrop : lvs (qs.drop j) = (if leafR (qs.getD j default).1 then [(qs.getD j default).1] else []) ++ lvs (qs.drop (j + 1)) := by
   rw [lvs, List.drop_eq_getElem_cons hj, List.map_cons, List.filter_cons, List.getD_eq_getElem?_getD, List.getElem?_eq_getElem hj]
   simp only [Option.getD_some, lvs]
   split <;> rfl
  cases hlf : leafR (qs.getD j default).1
  ·rw [hlf] at hdrop
   repeat' (first | apply zC | apply zG | apply zD | apply zK | apply zA | apply zB | refine zF (by simp only [go_sem, hlf]; rfl) qR ?_ ?_ | refine zL K186 (by simp only [go_sem, hlf]; first | done | rfl) ?_ ⟨_, rfl, rfl⟩ (by simp only [go_sem, hlf]; rfl) ?_ | (refine zE (by simp only [go_sem, hlf]; rfl) ?_ ?_ <;> intro hb <;> have hc := hb <;> (try simp only [bF] at hc) <;> (try (exfalso; simp at hc; done))) | refine zR (j+1,ls) ?_ ?_ ⟨rfl, qL, qL⟩ | exact True.intro | exact rfl | omega | exact qP | fail)
   exact ⟨⟨by simp only; omega, by simp only; omega⟩, by rw [g2, hdrop]; rfl⟩
  ·rw [hlf] at hdrop
   repeat' (first | apply zC | apply zG | apply zD | apply zK | apply zA | apply zB | refine zF (by simp only [go_sem, hlf]; rfl) qR ?_ ?_ | refine zL K186 (by simp only [go_sem, hlf]; first | done | rfl) ?_ ⟨_, rfl, rfl⟩ (by simp only [go_sem, hlf]; rfl) ?_ | refine zL K187 (by simp only [go_sem, hlf]; first | done | rfl) ?_ ⟨_, hx.2 hlf, rfl, rfl⟩ (by simp only [go_sem, hlf]; rfl) ?_ | (refine zE (by simp only [go_sem, hlf]; rfl) ?_ ?_ <;> intro hb <;> have hc := hb <;> (try simp only [bF] at hc) <;> (try (exfalso; simp at hc; done))) | exact True.intro | exact rfl | exact qP | fail)
   refine zQ (o' := .acc 30 5 (ls ++ [(qs.getD j default).1]).length (fun i => eNeedU ((ls ++ [(qs.getD j default).1]).getD i default))) 1 qR (ole_snoc eNeedU ls _ rfl) ?_
   refine zR (j + 1, ls ++ [(qs.getD j default).1]) ?_ ?_ ⟨rfl, qL, qL⟩
   ·refine ⟨⟨by simp only; omega, by simp; omega⟩, ?_⟩
    rw [g2, hdrop]; simp
   ·simp only; omega
 ·repeat' (first | refine zN 1 qS ?_ | apply zC | apply zA | apply zB | refine zF qS qR ?_ ?_ | refine zI qR ?_ | refine zJ qR ?_ | exact True.intro | exact rfl | fail)
  all_goals (have hz : lvs (qs.drop j) = [] := by rw [List.drop_of_length_le (by omega)]; rfl)
  all_goals (rw [hz, List.append_nil] at g2; rw [g2]; exact SLe0.le qZ (SLe.refl _))
end Go.Sx
