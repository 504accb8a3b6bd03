/- Part of the proof that the laws of the judge return true for every input: J67, J68. -/
import Derived.Test.YtmbocmonhcplhaaGreatJ66
import Derived.Test.YtmbocmonhcplhaaGreatS4
import Derived.Test.YtmbocmonhcplhaaGreatJ65
set_option linter.all false
namespace Go.Sx
attribute [go_sem] asA asS recAs
def offW (o : Offer) (d : SD) : SD := .agg [.str o.Code, .int .i64 o.Credits, .int .i64 o.Places, ints o.Slots, d]
def phG (l : List Offer) (ti : Nat) (d : SD) : Nat → SD := fun i => bif Nat.beq i ti then offW (l.getD i default) d else eOffer (l.getD i default)
@[go_sem] def phQ (l : List Offer) (ti : Nat) (k : Nat) : Ph → List (Nat × OB)
 | .pre => [(1, .acc 76 5 k fun i => eOffer (l.getD i default))]
 | .nil => [(1, .acc 76 5 k (phG l ti .nils))]
 | .raw b cap cur => [(1, .acc 76 5 k (phG l ti (slV b (l.getD ti default).Needs.length cap))), (5, rawO 9 b cur)]
def PhOk2 (l : List Offer) (ti k : Nat) : Ph → Prop
 | .pre => k ≤ ti
 | .nil => ti < k ∧ (l.getD ti default).Needs.length = 0
 | .raw _ cap cur => ti < k ∧ RowV 1 (l.getD ti default).Needs.length (fun i => eStr ((l.getD ti default).Needs.getD i default)) cap cur
theorem phG_ne {l : List Offer} {ti : Nat} {d : SD} {i : Nat} (h : i ≠ ti) : phG l ti d i = eOffer (l.getD i default) := by
 unfold phG; rw [show Nat.beq i ti = false from by (cases hb : Nat.beq i ti with | false => rfl | true => exact absurd (Nat.eq_of_beq_eq_true hb) h)]; rfl
theorem phG_self {l : List Offer} {ti : Nat} {d : SD} : phG l ti d ti = offW (l.getD ti default) d := by
 unfold phG; rw [show Nat.beq ti ti = true from Nat.beq_refl ti]; rfl
attribute [go_sem] offW phG_self
open Go.Proofs Go.RowKit
attribute [local irreducible] Run RunL RunD OpT SLe0 SLe OLe
set_option maxHeartbeats 2000000
set_option maxRecDepth 8000
set_option maxHeartbeats 40000000
def v25n (q : Q3) : ByteArray := if modR q.a 11 = 7 then ⟨#[90]⟩ else codes6.getD ((modR q.b 72).tmod 6).toNat default
def r25n (l : List Offer) (q : Q3) : List Offer := l.set (ti25 l q) ⟨(l.getD (ti25 l q) default).Code, (l.getD (ti25 l q) default).Credits, (l.getD (ti25 l q) default).Places, (l.getD (ti25 l q) default).Slots, (l.getD (ti25 l q) default).Needs ++ [v25n q]⟩
theorem K25n : FnOK Tryz.prog 25 (fun ds d => ∃ l q, (OffsOk l ∧ l ≠ [] ∧ (modR q.a 11 = 7 ∨ modR q.a 11 = 5)) ∧ ds = [eList 5 eOffer l, eQ q] ∧ d = eList 5 eOffer (r25n l q)) := by
 refine fn_intro Tryz.call25 Tryz.func25 rfl Tryz.ntmps25 ?_
 rintro ds d ⟨l, q, ⟨hl, hne, hq⟩, rfl, rfl⟩
 refine ⟨by simp, fun w0 => ?_⟩
 have hl0 : 0 < l.length := List.length_pos_iff.2 hne
 have hl6 := hl.1
 have m2 := modR_bd q.c l.length (by omega) (by omega)
 generalize hti : ti25 l q = ti
 have hti0 : ti < l.length := by rw [← hti]; unfold ti25; omega
 have hmi : modR q.c l.length = (ti : Int) := by rw [← hti]; unfold ti25; omega
 have hsl : (l.getD ti default).Needs.length ≤ 2 := (hl.2 _ (by rw [List.getD_eq_getElem?_getD, List.getElem?_eq_getElem hti0]; exact List.getElem_mem hti0)).2
 have m1 := modR_bd q.b 72 (by omega) (by omega)
 have t2 := Int.tmod_nonneg 6 m1.1
 have t2' := Int.tmod_lt_of_pos (modR q.b 72) (show (0:Int) < 6 by omega)
 have hr : r25n l q = l.set ti ⟨(l.getD ti default).Code, (l.getD ti default).Credits, (l.getD ti default).Places, (l.getD ti default).Slots, (l.getD ti default).Needs ++ [v25n q]⟩ := by rw [r25n, hti]
 repeat' (first | apply zC | apply zD | apply zA | apply zB | refine zF qS qR ?_ ?_ | exact True.intro | exact rfl | fail)
 refine yE 5 76 5 (fun i => eOffer (l.getD i default)) rfl rfl rfl ?_
 refine zM [0, 3, 5] (fun x : Nat × Ph => [(6, .int .i64 x.1)]) (fun x : Nat × Ph => phQ l ti x.1 x.2) (fun x : Nat × Ph => x.1 ≤ l.length ∧ PhOk2 l ti x.1 x.2) (fun x : Nat × Ph => l.length - x.1) (0, Ph.pre) (fun x => qS) ?_ qL qL ?_
 ·exact ⟨Nat.zero_le _, Nat.zero_le _⟩
 rintro ⟨k, ph⟩ ⟨g1, g2⟩
 simp only at g1 g2
 cases ph with
 | pre =>
  repeat' (first | apply zC | apply zA | apply zB | refine zF qS qR ?_ ?_ | exact True.intro | exact rfl | fail)
  (refine zE qS ?_ ?_ <;> intro hb <;> have hc := hb <;> (try simp only [bF] at hc) <;> (try (exfalso; simp at hc; done)))
  ·have hk : k < l.length := by assumption
   by_cases hkt : k = ti
   ·subst hkt
    iterate 7 any_goals (first | apply zC | apply zG | apply zD | apply zA | refine zF qS qR ?_ ?_ | refine zV [] K74n qR qD qZ qF ?_ ⟨_, rfl, rfl, rfl, rfl⟩ qS ?_ | exact True.intro | exact rfl | exact qP | fail)
    refine runL_rawE 5 qR (fun _ => rfl) (by simp only [valS, go_sem]; rfl) (fun _ _ => by simp only [valS, go_sem]; rfl) (fun _ _ => by rfl) (fun h0 => ?_) (fun b cap cur hR => ?_)
    ·repeat' (first | apply zK | apply zA | apply zB | refine zF qS qR ?_ ?_ | exact True.intro | exact rfl | exact qP | fail)
     refine zQ 1 qR (OLe.snocI (f := phG l k .nils) (fun i hi => (phG_ne (Nat.ne_of_lt hi)).symm) (SLe.of_eq phG_self.symm)) ?_
     repeat' (first | refine zR (k+1,Ph.nil) ?_ ?_ ⟨rfl, qL, qL⟩ | omega)
     exact ⟨by simp only; omega, Nat.lt_succ_self k, h0⟩
    ·repeat' (first | apply zK | apply zA | apply zB | refine zF qS qR ?_ ?_ | exact True.intro | exact rfl | exact qP | fail)
     refine zQ 1 qR (OLe.snocI (f := phG l k (slV b (l.getD k default).Needs.length cap)) (fun i hi => (phG_ne (Nat.ne_of_lt hi)).symm) (SLe.of_eq phG_self.symm)) ?_
     repeat' (first | refine zR (k+1,Ph.raw b cap cur) ?_ ?_ ⟨rfl, qL, qL⟩ | omega)
     exact ⟨by simp only; omega, Nat.lt_succ_self k, hR⟩
   ·repeat' (first | apply zC | apply zG | apply zD | apply zK | apply zA | apply zB | refine zF qS qR ?_ ?_ | refine zL K74 qD ?_ ⟨_, rfl, rfl⟩ qS ?_ | exact True.intro | exact rfl | exact qP | fail)
    refine zQ 1 qR (OLe.snocI (f := fun i => eOffer (l.getD i default)) (fun _ _ => rfl) (SLe.refl _)) ?_
    repeat' (first | refine zR (k+1,Ph.pre) ?_ ?_ ⟨rfl, qL, qL⟩ | omega)
    exact ⟨by simp only; omega, by show k + 1 ≤ ti; have : k ≤ ti := g2; omega⟩
  ·exfalso
   have : k ≤ ti := g2
   omega
 | nil =>
  obtain ⟨g3, g4⟩ := g2
  repeat' (first | apply zC | apply zA | apply zB | refine zF qS qR ?_ ?_ | exact True.intro | exact rfl | fail)
  (refine zE qS ?_ ?_ <;> intro hb <;> have hc := hb <;> (try simp only [bF] at hc) <;> (try (exfalso; simp at hc; done)))
  ·have hk : k < l.length := by assumption
   repeat' (first | apply zC | apply zG | apply zD | apply zK | apply zA | apply zB | refine zF qS qR ?_ ?_ | refine zL K74 qD ?_ ⟨_, rfl, rfl⟩ qS ?_ | exact True.intro | exact rfl | exact qP | fail)
   refine zQ 1 qR (OLe.snocI (f := phG l ti .nils) (fun _ _ => rfl) (SLe.of_eq (phG_ne (Nat.ne_of_gt g3)).symm)) ?_
   repeat' (first | refine zR (k+1,Ph.nil) ?_ ?_ ⟨rfl, qL, qL⟩ | omega)
   exact ⟨by simp only; omega, Nat.lt_succ_of_lt g3, g4⟩
  ·obtain rfl : k = l.length := by omega
   rcases hq with hq | hq
   ·rw [v25n, if_pos hq] at hr
    have c0 : ((7:Int) == 0) = false := rfl
    repeat' (first | refine runL_frz 2 qS ?_ | apply zC | apply zG | apply zD | apply zK | apply zA | apply zB | refine zF (by simp only [go_sem, hq, hmi, Int.toNat_natCast]; rfl) qR ?_ ?_ | refine zL K24 (by simp only [go_sem, hq, hmi, Int.toNat_natCast]; first | done | rfl) ?_ ⟨_, _, (by omega), rfl, rfl⟩ (by simp only [go_sem, hq, hmi, Int.toNat_natCast]; rfl) ?_ | (refine zE (by simp only [go_sem, hq, hmi, Int.toNat_natCast]; rfl) ?_ ?_ <;> intro hb <;> have hc := hb <;> (try simp only [bF] at hc) <;> (try (exfalso; simp at hc; done))) | refine zJ qR ?_ | exact True.intro | exact rfl | omega | exact qP | fail)
    refine zQ 1 qR (OLe.setN eOffer l ti ⟨(l.getD ti default).Code, (l.getD ti default).Credits, (l.getD ti default).Places, (l.getD ti default).Slots, (l.getD ti default).Needs ++ [⟨#[90]⟩]⟩ rfl (fun j hj => SLe.of_eq (phG_ne hj)) (SLe.off (SLe.refl _) (by rw [List.eq_nil_of_length_eq_zero g4]; exact SLe.refl _))) ?_
    rw [hr]
    refine zN 1 qS ?_
    repeat' (first | refine zI qR ?_ | exact SLe0.pure rfl | fail)
   ·have hq3 : ¬ modR q.a 11 = 7 := by omega
    rw [v25n, if_neg hq3] at hr
    repeat' (first | apply zC | apply zG | apply zD | apply zK | apply zA | apply zO | apply zB | refine zF (by simp only [go_sem, hq, hmi, Int.toNat_natCast]; rfl) qR ?_ ?_ | refine runDqRP (by simp only [go_sem, hq, hmi, Int.toNat_natCast]; rfl) qR ?_ (by simp only [go_sem, hq, hmi, Int.toNat_natCast, recsOf, recA, recU, recG, readS, keysA, keysU]; rfl) ?_ | refine zP qK qK ?_ | refine runDapL (es := 1) (by simp only [go_sem, hq, hmi, Int.toNat_natCast]; first | done | rfl) (by simp only [go_sem, hq, hmi, Int.toNat_natCast]; rfl) (by omega) qR qK (by omega) (by simp only [go_sem, hq, hmi, Int.toNat_natCast]; rfl) ?_ | refine runDas (by simp only [go_sem, hq, hmi, Int.toNat_natCast]; rfl) (by simp only [go_sem, hq, hmi, Int.toNat_natCast]; rfl) ?_ | refine zL K24 (by simp only [go_sem, hq, hmi, Int.toNat_natCast]; first | done | rfl) ?_ ⟨_, _, (by omega), rfl, rfl⟩ (by simp only [go_sem, hq, hmi, Int.toNat_natCast]; rfl) ?_ | refine zW K75 (by simp only [go_sem, hq, hmi, Int.toNat_natCast]; first | done | rfl) ?_ ⟨rfl, rfl⟩ (by simp only [go_sem, hq, hmi, Int.toNat_natCast]; rfl) ?_ | (refine zE (by simp only [go_sem, hq, hmi, Int.toNat_natCast]; rfl) ?_ ?_ <;> intro hb <;> have hc := hb <;> (try simp only [bF] at hc) <;> (try (exfalso; simp at hc; done))) | refine zJ qR ?_ | exact True.intro | exact rfl | omega | exact qP | fail)
    refine zQ 1 qR (OLe.setN eOffer l ti ⟨(l.getD ti default).Code, (l.getD ti default).Credits, (l.getD ti default).Places, (l.getD ti default).Slots, (l.getD ti default).Needs ++ [codes6.getD ((modR q.b 72).tmod 6).toNat default]⟩ rfl (fun j hj => SLe.of_eq (phG_ne hj)) (SLe.off (SLe.refl _) (by rw [List.eq_nil_of_length_eq_zero g4]; exact SLe.refl _))) ?_
    rw [hr]
    refine zN 1 qS ?_
    repeat' (first | refine zI qR ?_ | exact SLe0.pure rfl | fail)
 | raw b cap cur =>
  obtain ⟨g3, g4⟩ := g2
  repeat' (first | apply zC | apply zA | apply zB | refine zF qS qR ?_ ?_ | exact True.intro | exact rfl | fail)
  (refine zE qS ?_ ?_ <;> intro hb <;> have hc := hb <;> (try simp only [bF] at hc) <;> (try (exfalso; simp at hc; done)))
  ·have hk : k < l.length := by assumption
   repeat' (first | apply zC | apply zG | apply zD | apply zK | apply zA | apply zB | refine zF qS qR ?_ ?_ | refine zL K74 qD ?_ ⟨_, rfl, rfl⟩ qS ?_ | exact True.intro | exact rfl | exact qP | fail)
   refine zQ 1 qR (OLe.snocI (f := phG l ti (slV b (l.getD ti default).Needs.length cap)) (fun _ _ => rfl) (SLe.of_eq (phG_ne (Nat.ne_of_gt g3)).symm)) ?_
   repeat' (first | refine zR (k+1,Ph.raw b cap cur) ?_ ?_ ⟨rfl, qL, qL⟩ | omega)
   exact ⟨by simp only; omega, Nat.lt_succ_of_lt g3, g4⟩
  ·obtain rfl : k = l.length := by omega
   rcases hq with hq | hq
   ·rw [v25n, if_pos hq] at hr
    have c0 : ((7:Int) == 0) = false := rfl
    repeat' (first | apply zC | apply zG | apply zD | apply zK | apply zA | apply zB | refine zF (by simp only [go_sem, hq, hmi, Int.toNat_natCast]; rfl) qR ?_ ?_ | refine zL K24 (by simp only [go_sem, hq, hmi, Int.toNat_natCast]; first | done | rfl) ?_ ⟨_, _, (by omega), rfl, rfl⟩ (by simp only [go_sem, hq, hmi, Int.toNat_natCast]; rfl) ?_ | refine stepapV 5 (hR := g4) (by simp only [go_sem, hq, hmi, Int.toNat_natCast]; rfl) (by simp only [go_sem, hq, hmi, Int.toNat_natCast]; rfl) (by simp only [go_sem, hq, hmi, Int.toNat_natCast]; rfl) qK qR (by omega) (by simp only [go_sem, hq, hmi, Int.toNat_natCast]; rfl) ?_ | (refine zE (by simp only [go_sem, hq, hmi, Int.toNat_natCast]; rfl) ?_ ?_ <;> intro hb <;> have hc := hb <;> (try simp only [bF] at hc) <;> (try (exfalso; simp at hc; done))) | refine zJ qR ?_ | exact True.intro | exact rfl | omega | exact qP | fail)
    refine zQ 1 qR (OLe.setN eOffer l ti ⟨(l.getD ti default).Code, (l.getD ti default).Credits, (l.getD ti default).Places, (l.getD ti default).Slots, (l.getD ti default).Needs ++ [⟨#[90]⟩]⟩ rfl (fun j hj => SLe.of_eq (phG_ne hj)) (SLe.off (SLe.refl _) (SLe.snocT _ _))) ?_
    rw [hr]
    refine zN 1 qS ?_
    repeat' (first | refine zI qR ?_ | exact SLe0.pure rfl | fail)
   ·have hq3 : ¬ modR q.a 11 = 7 := by omega
    rw [v25n, if_neg hq3] at hr
    repeat' (first | apply zC | apply zG | apply zD | apply zK | apply zA | apply zO | apply zB | refine zF (by simp only [go_sem, hq, hmi, Int.toNat_natCast]; rfl) qR ?_ ?_ | refine runDqRP (by simp only [go_sem, hq, hmi, Int.toNat_natCast]; rfl) qR ?_ (by simp only [go_sem, hq, hmi, Int.toNat_natCast, recsOf, recA, recU, recG, readS, keysA, keysU]; rfl) ?_ | refine zP qK qK ?_ | refine runDapV 5 (hR := g4) (by simp only [go_sem, hq, hmi, Int.toNat_natCast]; rfl) (by simp only [go_sem, hq, hmi, Int.toNat_natCast]; rfl) (by simp only [go_sem, hq, hmi, Int.toNat_natCast]; rfl) qK qR (by omega) (by simp only [go_sem, hq, hmi, Int.toNat_natCast]; rfl) ?_ | refine runDas (by simp only [go_sem, hq, hmi, Int.toNat_natCast]; rfl) (by simp only [go_sem, hq, hmi, Int.toNat_natCast]; rfl) ?_ | refine zL K24 (by simp only [go_sem, hq, hmi, Int.toNat_natCast]; first | done | rfl) ?_ ⟨_, _, (by omega), rfl, rfl⟩ (by simp only [go_sem, hq, hmi, Int.toNat_natCast]; rfl) ?_ | refine zW K75 (by simp only [go_sem, hq, hmi, Int.toNat_natCast]; first | done | rfl) ?_ ⟨rfl, rfl⟩ (by simp only [go_sem, hq, hmi, Int.toNat_natCast]; rfl) ?_ | (refine zE (by simp only [go_sem, hq, hmi, Int.toNat_natCast]; rfl) ?_ ?_ <;> intro hb <;> have hc := hb <;> (try simp only [bF] at hc) <;> (try (exfalso; simp at hc; done))) | refine zJ qR ?_ | exact True.intro | exact rfl | omega | exact qP | fail)
    refine zQ 1 qR (OLe.setN eOffer l ti ⟨(l.getD ti default).Code, (l.getD ti default).Credits, (l.getD ti default).Places, (l.getD ti default).Slots, (l.getD ti default).Needs ++ [codes6.getD ((modR q.b 72).tmod 6).toNat default]⟩ rfl (fun j hj => SLe.of_eq (phG_ne hj)) (SLe.off (SLe.refl _) (SLe.snocT _ _))) ?_
    rw [hr]
    refine zN 1 qS ?_
    repeat' (first | refine zI qR ?_ | exact SLe0.pure rfl | fail)
end Go.Sx
namespace Go.Sx
open Go.Proofs
theorem FnOK.split3 {P : Program} {f : Nat} {R R1 R2 R3 : List SD → SD → Prop} (K1 : FnOK P f R1) (K2 : FnOK P f R2) (K3 : FnOK P f R3) (h : ∀ ds d, R ds d → R1 ds d ∨ R2 ds d ∨ R3 ds d) : FnOK P f R :=
 ⟨K1.call, fun ds d hr => by
  rcases h ds d hr with h | h | h
  ·exact K1.ok ds d h
  ·exact K2.ok ds d h
  ·exact K3.ok ds d h⟩
theorem K25g : ∃ G : List Offer × Q3 → List Offer, FnOK Tryz.prog 25 (fun ds d => ∃ x, OffsOk x.1 ∧ ds = [eList 5 eOffer x.1, eQ x.2] ∧ d = eList 5 eOffer (G x)) := by
 classical
 obtain ⟨G, _, K⟩ := K25a
 refine ⟨fun x => if x.1 = [] ∨ not4 x.2 then G x else if modR x.2.a 11 = 3 ∨ modR x.2.a 11 = 4 then r25 x.1 x.2 else r25n x.1 x.2, ?_⟩
 refine FnOK.split3 K K25s K25n ?_
 rintro ds d ⟨x, hx, rfl, rfl⟩
 by_cases h1 : x.1 = [] ∨ not4 x.2
 ·exact .inl ⟨x, ⟨hx.1, h1⟩, rfl, by simp only [if_pos h1]⟩
 ·by_cases h2 : modR x.2.a 11 = 3 ∨ modR x.2.a 11 = 4
  ·exact .inr (.inl ⟨x.1, x.2, ⟨hx, fun h => h1 (.inl h), h2⟩, rfl, by simp only [if_neg h1, if_pos h2]⟩)
  ·refine .inr (.inr ⟨x.1, x.2, ⟨hx, fun h => h1 (.inl h), ?_⟩, rfl, by simp only [if_neg h1, if_neg h2]⟩)
   have h3 : ¬ not4 x.2 := fun h => h1 (.inr h)
   unfold not4 at h3
   omega
end Go.Sx
