/- Part of the proof that the laws of the judge return true for every input: J66. -/
import Derived.Test.YtmbocmonhcplhaaGreatJ65
set_option linter.all false
namespace Go.Sx
section
variable {P : Program} {F : List Nat} {w0 : Base} {s : St} {h : Hp} {e : Nm} {a : Act} {w : World} {Q : Exit → Act → World → Prop} {ops : Array Oper} {rest : List Oper}
theorem runL_raw (k : Nat) {T es n : Nat} {f : Nat → SD} (ho : lkO s.ow k = some (.acc T es n f)) (hsc : ∀ i, scal (f i) = true) (hfr : ∀ b cap, (valS s k (slV b n cap)).free k = true)
  (h1 : n = 0 → RunL P F w0 ops Q rest (valS s k .nils))
  (h2 : ∀ b cap cur, RowV es n f cap cur → RunL P F w0 ops Q rest ⟨s.n, s.nx, (valS s k (slV b n cap)).sl, upd (valS s k (slV b n cap)).ow k (rawO T b cur)⟩) : RunL P F w0 ops Q rest s := fun h e a w D => by
 obtain ⟨xs, o1, o2, o3⟩ := D.own k _ ho
 rcases o1.2 with ⟨hv, hn0⟩ | ⟨b, cap, cur, hv, _, hg, hnc, hcm, hcs, htake⟩
 ·exact h1 hn0 h e a w (D.val fun v hx => by
   simp only [rep] at hx ⊢
   rw [hx.1, hv])
 ·have hblk : (OB.acc T es n f).blk e k = some b := by simp [OB.blk, hv, Value.ownBlock]
  have hb := D.ownb k _ b ho hblk
  have D1 := D.val (k := k) (d0 := slV b n cap) fun v hx => by
   simp only [rep, slV] at hx ⊢
   rw [hx.1, hv]
  have hF := Free.of (hfr b cap)
  have D2 := D1.rename (e.but_setB k b) hF
  refine h2 b cap cur ⟨hnc, hcm, o2, hcs, fun i hi => ?_⟩ h (e.setB k b) a w ?_
  ·obtain ⟨u, u1, u2, u3⟩ := o3 i hi
   refine ⟨u, fun h' e' => scal_rep _ _ _ (hsc i) (u1 e'), ?_, u3⟩
   have hin : (i + 1) * es ≤ n * es := Nat.mul_le_mul_right _ hi
   rw [Nat.add_mul, Nat.one_mul] at hin
   rw [u2, ← htake]
   simp only [cut, List.drop_take, List.take_take]
   congr 1
   omega
  ·have hx := D2.addOwn (o := rawO T b cur) (free_lkO hF) ⟨_, by simp only [Nm.setB, if_true]; exact hg, by simp only [mpObj, Nm.setB, if_true]; exact ⟨trivial, fun b' hb' => by simpa using hb'⟩⟩
    (fun b' hb' => ?_) (fun j o' b' hj hb' hc' => ?_) s.nx
   ·exact hx
   ·simp only [OB.blk, rawO, Nm.setB, if_true, Option.some.injEq] at hb'
    subst hb'
    exact hb
   ·simp only [OB.blk, rawO, Nm.setB, if_true, Option.some.injEq] at hc'
    subst hc'
    have hjk : j ≠ k := fun hc => by subst hc; rw [free_lkO hF] at hj; cases hj
    rw [blk_but (e.but_setB k b) hjk] at hb'
    obtain ⟨_, o0, g1, g2⟩ := lkO_frz _ j o' hj
    have : o'.blk e j = o0.blk e j := by
     rcases g2 with ⟨x, rfl, rfl⟩ | rfl <;> rfl
    rw [this] at hb'
    exact D.apart j k o0 _ b hjk g1 ho hb' hblk
theorem runL_rawE (k : Nat) {T es n : Nat} {f : Nat → SD} {s1 : St} {s2 : Nat → Nat → St} (ho : lkO s.ow k = some (.acc T es n f)) (hsc : ∀ i, scal (f i) = true) (e1 : valS s k .nils = s1) (e2 : ∀ b cap, valS s k (slV b n cap) = s2 b cap) (hfr : ∀ b cap, (s2 b cap).free k = true)
  (h1 : n = 0 → RunL P F w0 ops Q rest s1)
  (h2 : ∀ b cap cur, RowV es n f cap cur → RunL P F w0 ops Q rest ⟨s.n, s.nx, (s2 b cap).sl, upd (s2 b cap).ow k (rawO T b cur)⟩) : RunL P F w0 ops Q rest s :=
 runL_raw k ho hsc (fun b cap => by rw [e2]; exact hfr b cap) (fun h => by rw [e1]; exact h1 h) (fun b cap cur h => by rw [e2]; exact h2 b cap cur h)
end
inductive Ph where
 | pre | nil | raw (b cap : Nat) (cur : Array Value)
def offV (o : Offer) (d : SD) : SD := .agg [.str o.Code, .int .i64 o.Credits, .int .i64 o.Places, d, strs o.Needs]
def phF (l : List Offer) (ti : Nat) (d : SD) : Nat → SD := fun i => bif Nat.beq i ti then offV (l.getD i default) d else eOffer (l.getD i default)
@[go_sem] def phO (l : List Offer) (ti : Nat) (k : Nat) : Ph → List (Nat × OB)
 | .pre => [(1, .acc 76 5 k fun i => eOffer (l.getD i default))]
 | .nil => [(1, .acc 76 5 k (phF l ti .nils))]
 | .raw b cap cur => [(1, .acc 76 5 k (phF l ti (slV b (l.getD ti default).Slots.length cap))), (4, rawO 3 b cur)]
def PhOk (l : List Offer) (ti k : Nat) : Ph → Prop
 | .pre => k ≤ ti
 | .nil => ti < k ∧ (l.getD ti default).Slots.length = 0
 | .raw _ cap cur => ti < k ∧ RowV 1 (l.getD ti default).Slots.length (fun i => eInt ((l.getD ti default).Slots.getD i default)) cap cur
theorem phF_ne {l : List Offer} {ti : Nat} {d : SD} {i : Nat} (h : i ≠ ti) : phF l ti d i = eOffer (l.getD i default) := by
 unfold phF; rw [show Nat.beq i ti = false from by (cases hb : Nat.beq i ti with | false => rfl | true => exact absurd (Nat.eq_of_beq_eq_true hb) h)]; rfl
theorem phF_self {l : List Offer} {ti : Nat} {d : SD} : phF l ti d ti = offV (l.getD ti default) d := by
 unfold phF; rw [show Nat.beq ti ti = true from Nat.beq_refl ti]; rfl
attribute [go_sem] offV phF_self delS
theorem OLe.setN {α : Type} [Inhabited α] (enc : α → SD) (l : List α) (i : Nat) (o : α) {g : Nat → SD} {n : Nat} (hn : n = l.length) (hg : ∀ j, j ≠ i → SLe (g j) (enc (l.getD j default))) {T es : Nat} {d : SD} (hd : SLe d (enc o)) : OLe (.acc T es n (setF i d g)) (.acc T es (l.set i o).length fun j => enc ((l.set i o).getD j default)) := by
 subst hn
 refine ⟨rfl, rfl, by simp, fun j hj hp u hu e => ?_⟩
 have hu' := hu e
 simp only [setF] at hu'
 by_cases hji : j = i
 ·subst hji
  rw [if_pos rfl] at hu'
  have : (l.set j o).getD j default = o := by simp [List.getD_eq_getElem?_getD, hj]
  show rep hp (enc ((l.set j o).getD j default)) e u
  rw [this]
  exact hd _ _ _ hu'
 ·rw [if_neg hji] at hu'
  have h' : ¬ i = j := fun hc => hji hc.symm
  have : (l.set i o).getD j default = l.getD j default := by simp [List.getD_eq_getElem?_getD, h']
  show rep hp (enc ((l.set i o).getD j default)) e u
  rw [this]
  exact hg j hji _ _ _ hu'
theorem SLe.snocD (l : List Int) (x : Int) : SLe (.list 1 (l.length + 1) (joinF l.length (fun i => .int .i64 (l.getD i default)) fun i => .int .i64 ([x].getD i 0))) (ints (l ++ [x])) :=
 SLe.list (by simp) fun i hi => by
  show joinF _ _ _ i = SD.int .i64 _
  simp only [joinF]
  by_cases h : i < l.length
  ·rw [if_pos h]; simp [List.getD_eq_getElem?_getD, List.getElem?_append, h]
  ·rw [if_neg h]
   have : i = l.length := by omega
   subst this
   simp [List.getD_eq_getElem?_getD, List.getElem?_append]
theorem SLe.snocT (l : List ByteArray) (x : ByteArray) : SLe (.list 1 (l.length + 1) (joinF l.length (fun i => .str (l.getD i default)) fun i => .str ([x].getD i ByteArray.empty))) (strs (l ++ [x])) :=
 SLe.list (by simp) fun i hi => by
  show joinF _ _ _ i = SD.str _
  simp only [joinF]
  by_cases h : i < l.length
  ·rw [if_pos h]; simp [List.getD_eq_getElem?_getD, List.getElem?_append, h]
  ·rw [if_neg h]
   have : i = l.length := by omega
   subst this
   simp [List.getD_eq_getElem?_getD, List.getElem?_append]
theorem OLe.snocI {T es k : Nat} {f f' g : Nat → SD} (hf : ∀ i, i < k → f' i = f i) (h : SLe (g 0) (f k)) : OLe (.acc T es (k + 1) (joinF k f' g)) (.acc T es (k + 1) f) := by
 refine ⟨rfl, rfl, rfl, fun i hi hp u hu e => ?_⟩
 have hu' := hu e
 simp only [joinF] at hu'
 by_cases hik : i < k
 ·rw [if_pos hik, hf i hik] at hu'; exact hu'
 ·rw [if_neg hik] at hu'
  have : i = k := by omega
  subst this
  rw [Nat.sub_self] at hu'
  exact h _ _ _ hu'
open Go.Proofs Go.RowKit
attribute [local irreducible] Run RunL RunD OpT SLe0 SLe OLe
set_option maxHeartbeats 2000000
set_option maxRecDepth 8000
set_option maxHeartbeats 40000000
def ti25 (l : List Offer) (q : Q3) : Nat := (modR q.c l.length).toNat
def v25 (q : Q3) : Int := if modR q.a 11 = 3 then IntKind.i64.wrap (modR q.b 72 - 20) else IntKind.i64.wrap (40 + (modR q.b 72).tmod 2)
def r25 (l : List Offer) (q : Q3) : List Offer := l.set (ti25 l q) ⟨(l.getD (ti25 l q) default).Code, (l.getD (ti25 l q) default).Credits, (l.getD (ti25 l q) default).Places, (l.getD (ti25 l q) default).Slots ++ [v25 q], (l.getD (ti25 l q) default).Needs⟩
theorem K25s : FnOK Tryz.prog 25 (fun ds d => ∃ l q, (OffsOk l ∧ l ≠ [] ∧ (modR q.a 11 = 3 ∨ modR q.a 11 = 4)) ∧ ds = [eList 5 eOffer l, eQ q] ∧ d = eList 5 eOffer (r25 l q)) := by
 refine fn_intro Tryz.call25 Tryz.func25 rfl Tryz.ntmps25 ?_
 rintro ds d ⟨l, q, ⟨hl, hne, hq⟩, rfl, rfl⟩
 refine ⟨by simp, fun w0 => ?_⟩
 have hl0 : 0 < l.length := List.length_pos_iff.2 hne
 have hl6 := hl.1
 have m2 := modR_bd q.c l.length (by omega) (by omega)
 generalize hti : ti25 l q = ti
 have hti0 : ti < l.length := by rw [← hti]; unfold ti25; omega
 have hmi : modR q.c l.length = (ti : Int) := by rw [← hti]; unfold ti25; omega
 have hsl : (l.getD ti default).Slots.length ≤ 4 := (hl.2 _ (by rw [List.getD_eq_getElem?_getD, List.getElem?_eq_getElem hti0]; exact List.getElem_mem hti0)).1
 have m1 := modR_bd q.b 72 (by omega) (by omega)
 have t2 := Int.tmod_nonneg 2 m1.1
 have t2' := Int.tmod_lt_of_pos (modR q.b 72) (show (0:Int) < 2 by omega)
 have hr : r25 l q = l.set ti ⟨(l.getD ti default).Code, (l.getD ti default).Credits, (l.getD ti default).Places, (l.getD ti default).Slots ++ [v25 q], (l.getD ti default).Needs⟩ := by rw [r25, hti]
 repeat' (first | apply zC | apply zD | apply zA | apply zB | refine zF qS qR ?_ ?_ | exact True.intro | exact rfl | fail)
 refine yE 5 76 5 (fun i => eOffer (l.getD i default)) rfl rfl rfl ?_
 refine zM [0, 3, 5] (fun x : Nat × Ph => [(6, .int .i64 x.1)]) (fun x : Nat × Ph => phO l ti x.1 x.2) (fun x : Nat × Ph => x.1 ≤ l.length ∧ PhOk l ti x.1 x.2) (fun x : Nat × Ph => l.length - x.1) (0, Ph.pre) (fun x => qS) ?_ qL qL ?_
 ·exact ⟨Nat.zero_le _, Nat.zero_le _⟩
 rintro ⟨k, ph⟩ ⟨g1, g2⟩
 simp only at g1 g2
 cases ph with
 | pre =>
  repeat' (first | apply zC | apply zA | apply zB | refine zF qS qR ?_ ?_ | exact True.intro | exact rfl | fail)
  (refine zE qS ?_ ?_ <;> intro hb <;> have hc := hb <;> (try simp only [bF] at hc) <;> (try (exfalso; simp at hc; done)))
  ·have hk : k < l.length := by assumption
   by_cases hkt : k = ti
   ·subst hkt
    iterate 7 any_goals (first | apply zC | apply zG | apply zD | apply zA | refine zF qS qR ?_ ?_ | refine zV [] K74s qR qD qZ qF ?_ ⟨_, rfl, rfl, rfl, rfl⟩ qS ?_ | exact True.intro | exact rfl | exact qP | fail)
    refine runL_rawE 4 qR (fun _ => rfl) (by simp only [valS, go_sem]; rfl) (fun _ _ => by simp only [valS, go_sem]; rfl) (fun _ _ => by rfl) (fun h0 => ?_) (fun b cap cur hR => ?_)
    ·repeat' (first | apply zK | apply zA | apply zB | refine zF qS qR ?_ ?_ | exact True.intro | exact rfl | exact qP | fail)
     refine zQ 1 qR (OLe.snocI (f := phF l k .nils) (fun i hi => (phF_ne (Nat.ne_of_lt hi)).symm) (SLe.of_eq phF_self.symm)) ?_
     repeat' (first | refine zR (k+1,Ph.nil) ?_ ?_ ⟨rfl, qL, qL⟩ | omega)
     exact ⟨by simp only; omega, Nat.lt_succ_self k, h0⟩
    ·repeat' (first | apply zK | apply zA | apply zB | refine zF qS qR ?_ ?_ | exact True.intro | exact rfl | exact qP | fail)
     refine zQ 1 qR (OLe.snocI (f := phF l k (slV b (l.getD k default).Slots.length cap)) (fun i hi => (phF_ne (Nat.ne_of_lt hi)).symm) (SLe.of_eq phF_self.symm)) ?_
     repeat' (first | refine zR (k+1,Ph.raw b cap cur) ?_ ?_ ⟨rfl, qL, qL⟩ | omega)
     exact ⟨by simp only; omega, Nat.lt_succ_self k, hR⟩
   ·repeat' (first | apply zC | apply zG | apply zD | apply zK | apply zA | apply zB | refine zF qS qR ?_ ?_ | refine zL K74 qD ?_ ⟨_, rfl, rfl⟩ qS ?_ | exact True.intro | exact rfl | exact qP | fail)
    refine zQ 1 qR (OLe.snocI (f := fun i => eOffer (l.getD i default)) (fun _ _ => rfl) (SLe.refl _)) ?_
    repeat' (first | refine zR (k+1,Ph.pre) ?_ ?_ ⟨rfl, qL, qL⟩ | omega)
    exact ⟨by simp only; omega, by show k + 1 ≤ ti; have : k ≤ ti := g2; omega⟩
  ·exfalso
   have : k ≤ ti := g2
   omega
 | nil =>
  obtain ⟨g3, g4⟩ := g2
  repeat' (first | apply zC | apply zA | apply zB | refine zF qS qR ?_ ?_ | exact True.intro | exact rfl | fail)
  (refine zE qS ?_ ?_ <;> intro hb <;> have hc := hb <;> (try simp only [bF] at hc) <;> (try (exfalso; simp at hc; done)))
  ·have hk : k < l.length := by assumption
   repeat' (first | apply zC | apply zG | apply zD | apply zK | apply zA | apply zB | refine zF qS qR ?_ ?_ | refine zL K74 qD ?_ ⟨_, rfl, rfl⟩ qS ?_ | exact True.intro | exact rfl | exact qP | fail)
   refine zQ 1 qR (OLe.snocI (f := phF l ti .nils) (fun _ _ => rfl) (SLe.of_eq (phF_ne (Nat.ne_of_gt g3)).symm)) ?_
   repeat' (first | refine zR (k+1,Ph.nil) ?_ ?_ ⟨rfl, qL, qL⟩ | omega)
   exact ⟨by simp only; omega, Nat.lt_succ_of_lt g3, g4⟩
  ·obtain rfl : k = l.length := by omega
   rcases hq with hq | hq
   ·rw [v25, if_pos hq] at hr
    have c0 : ((3:Int) == 0) = false := rfl
    repeat' (first | refine runL_frz 2 qS ?_ | apply zC | apply zG | apply zD | apply zK | apply zA | apply zB | refine zF (by simp only [go_sem, hq, hmi, Int.toNat_natCast]; rfl) qR ?_ ?_ | refine zL K24 (by simp only [go_sem, hq, hmi, Int.toNat_natCast]; first | done | rfl) ?_ ⟨_, _, (by omega), rfl, rfl⟩ (by simp only [go_sem, hq, hmi, Int.toNat_natCast]; rfl) ?_ | (refine zE (by simp only [go_sem, hq, hmi, Int.toNat_natCast]; rfl) ?_ ?_ <;> intro hb <;> have hc := hb <;> (try simp only [bF] at hc) <;> (try (exfalso; simp at hc; done))) | refine zJ qR ?_ | exact True.intro | exact rfl | omega | exact qP | fail)
    refine zQ 1 qR (OLe.setN eOffer l ti ⟨(l.getD ti default).Code, (l.getD ti default).Credits, (l.getD ti default).Places, (l.getD ti default).Slots ++ [IntKind.i64.wrap (modR q.b 72 - 20)], (l.getD ti default).Needs⟩ rfl (fun j hj => SLe.of_eq (phF_ne hj)) (SLe.off (by rw [List.eq_nil_of_length_eq_zero g4]; exact SLe.refl _) (SLe.refl _))) ?_
    rw [hr]
    refine zN 1 qS ?_
    repeat' (first | refine zI qR ?_ | exact SLe0.pure rfl | fail)
   ·have hq3 : ¬ modR q.a 11 = 3 := by omega
    rw [v25, if_neg hq3] at hr
    repeat' (first | refine runL_frz 2 qS ?_ | apply zC | apply zG | apply zD | apply zK | apply zA | apply zB | refine zF (by simp only [go_sem, hq, hmi, Int.toNat_natCast]; rfl) qR ?_ ?_ | refine zL K24 (by simp only [go_sem, hq, hmi, Int.toNat_natCast]; first | done | rfl) ?_ ⟨_, _, (by omega), rfl, rfl⟩ (by simp only [go_sem, hq, hmi, Int.toNat_natCast]; rfl) ?_ | (refine zE (by simp only [go_sem, hq, hmi, Int.toNat_natCast]; rfl) ?_ ?_ <;> intro hb <;> have hc := hb <;> (try simp only [bF] at hc) <;> (try (exfalso; simp at hc; done))) | refine zJ qR ?_ | exact True.intro | exact rfl | omega | exact qP | fail)
    refine zQ 1 qR (OLe.setN eOffer l ti ⟨(l.getD ti default).Code, (l.getD ti default).Credits, (l.getD ti default).Places, (l.getD ti default).Slots ++ [IntKind.i64.wrap (40 + (modR q.b 72).tmod 2)], (l.getD ti default).Needs⟩ rfl (fun j hj => SLe.of_eq (phF_ne hj)) (SLe.off (by rw [List.eq_nil_of_length_eq_zero g4]; exact SLe.refl _) (SLe.refl _))) ?_
    rw [hr]
    refine zN 1 qS ?_
    repeat' (first | refine zI qR ?_ | exact SLe0.pure rfl | fail)
 | raw b cap cur =>
  obtain ⟨g3, g4⟩ := g2
  repeat' (first | apply zC | apply zA | apply zB | refine zF qS qR ?_ ?_ | exact True.intro | exact rfl | fail)
  (refine zE qS ?_ ?_ <;> intro hb <;> have hc := hb <;> (try simp only [bF] at hc) <;> (try (exfalso; simp at hc; done)))
  ·have hk : k < l.length := by assumption
   repeat' (first | apply zC | apply zG | apply zD | apply zK | apply zA | apply zB | refine zF qS qR ?_ ?_ | refine zL K74 qD ?_ ⟨_, rfl, rfl⟩ qS ?_ | exact True.intro | exact rfl | exact qP | fail)
   refine zQ 1 qR (OLe.snocI (f := phF l ti (slV b (l.getD ti default).Slots.length cap)) (fun _ _ => rfl) (SLe.of_eq (phF_ne (Nat.ne_of_gt g3)).symm)) ?_
   repeat' (first | refine zR (k+1,Ph.raw b cap cur) ?_ ?_ ⟨rfl, qL, qL⟩ | omega)
   exact ⟨by simp only; omega, Nat.lt_succ_of_lt g3, g4⟩
  ·obtain rfl : k = l.length := by omega
   rcases hq with hq | hq
   ·rw [v25, if_pos hq] at hr
    have c0 : ((3:Int) == 0) = false := rfl
    repeat' (first | apply zC | apply zG | apply zD | apply zK | apply zA | apply zB | refine zF (by simp only [go_sem, hq, hmi, Int.toNat_natCast]; rfl) qR ?_ ?_ | refine zL K24 (by simp only [go_sem, hq, hmi, Int.toNat_natCast]; first | done | rfl) ?_ ⟨_, _, (by omega), rfl, rfl⟩ (by simp only [go_sem, hq, hmi, Int.toNat_natCast]; rfl) ?_ | refine stepapV 4 (hR := g4) (by simp only [go_sem, hq, hmi, Int.toNat_natCast]; rfl) (by simp only [go_sem, hq, hmi, Int.toNat_natCast]; rfl) (by simp only [go_sem, hq, hmi, Int.toNat_natCast]; rfl) qK qR (by omega) (by simp only [go_sem, hq, hmi, Int.toNat_natCast]; rfl) ?_ | (refine zE (by simp only [go_sem, hq, hmi, Int.toNat_natCast]; rfl) ?_ ?_ <;> intro hb <;> have hc := hb <;> (try simp only [bF] at hc) <;> (try (exfalso; simp at hc; done))) | refine zJ qR ?_ | exact True.intro | exact rfl | omega | exact qP | fail)
    refine zQ 1 qR (OLe.setN eOffer l ti ⟨(l.getD ti default).Code, (l.getD ti default).Credits, (l.getD ti default).Places, (l.getD ti default).Slots ++ [IntKind.i64.wrap (modR q.b 72 - 20)], (l.getD ti default).Needs⟩ rfl (fun j hj => SLe.of_eq (phF_ne hj)) (SLe.off (SLe.snocD _ _) (SLe.refl _))) ?_
    rw [hr]
    refine zN 1 qS ?_
    repeat' (first | refine zI qR ?_ | exact SLe0.pure rfl | fail)
   ·have hq3 : ¬ modR q.a 11 = 3 := by omega
    rw [v25, if_neg hq3] at hr
    repeat' (first | apply zC | apply zG | apply zD | apply zK | apply zA | apply zB | refine zF (by simp only [go_sem, hq, hmi, Int.toNat_natCast]; rfl) qR ?_ ?_ | refine zL K24 (by simp only [go_sem, hq, hmi, Int.toNat_natCast]; first | done | rfl) ?_ ⟨_, _, (by omega), rfl, rfl⟩ (by simp only [go_sem, hq, hmi, Int.toNat_natCast]; rfl) ?_ | refine stepapV 4 (hR := g4) (by simp only [go_sem, hq, hmi, Int.toNat_natCast]; rfl) (by simp only [go_sem, hq, hmi, Int.toNat_natCast]; rfl) (by simp only [go_sem, hq, hmi, Int.toNat_natCast]; rfl) qK qR (by omega) (by simp only [go_sem, hq, hmi, Int.toNat_natCast]; rfl) ?_ | (refine zE (by simp only [go_sem, hq, hmi, Int.toNat_natCast]; rfl) ?_ ?_ <;> intro hb <;> have hc := hb <;> (try simp only [bF] at hc) <;> (try (exfalso; simp at hc; done))) | refine zJ qR ?_ | exact True.intro | exact rfl | omega | exact qP | fail)
    refine zQ 1 qR (OLe.setN eOffer l ti ⟨(l.getD ti default).Code, (l.getD ti default).Credits, (l.getD ti default).Places, (l.getD ti default).Slots ++ [IntKind.i64.wrap (40 + (modR q.b 72).tmod 2)], (l.getD ti default).Needs⟩ rfl (fun j hj => SLe.of_eq (phF_ne hj)) (SLe.off (SLe.snocD _ _) (SLe.refl _))) ?_
    rw [hr]
    refine zN 1 qS ?_
    repeat' (first | refine zI qR ?_ | exact SLe0.pure rfl | fail)
end Go.Sx
