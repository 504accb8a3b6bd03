/- Part of the proof that the laws of the judge return true for every input: J64, J65. -/
import Derived.Test.YtmbocmonhcplhaaGreatJ63
import Derived.Test.YtmbocmonhcplhaaGreatS4
import Derived.Test.YtmbocmonhcplhaaGreatJ29
set_option linter.all false
namespace Go.Sx
open Go.Proofs Go.RowKit
attribute [local irreducible] Run RunL RunD OpT SLe0 SLe OLe
set_option maxHeartbeats 2000000
set_option maxRecDepth 8000
set_option maxHeartbeats 4000000
theorem accI (l : List Int) : OLe (.acc 3 1 (0 + l.length) (joinF 0 (fun _ => .any) fun i => eInt (l.getD i default))) (.acc 3 1 l.length fun i => eInt (l.getD i default)) := OLe.accS (Nat.zero_add _) fun i _ => by
 simp only [joinF, Nat.not_lt_zero, if_false, Nat.sub_zero]
theorem accT (l : List ByteArray) : OLe (.acc 9 1 (0 + l.length) (joinF 0 (fun _ => .any) fun i => eStr (l.getD i default))) (.acc 9 1 l.length fun i => eStr (l.getD i default)) := OLe.accS (Nat.zero_add _) fun i _ => by
 simp only [joinF, Nat.not_lt_zero, if_false, Nat.sub_zero]
theorem K74s : FnM Tryz.prog 74 (fun ds os d os' => ∃ o : Offer, ds = [eOffer o] ∧ os = [] ∧ d = .agg [.str o.Code, .int .i64 o.Credits, .int .i64 o.Places, .acc 2, strs o.Needs] ∧ os' = [(2, .acc 3 1 o.Slots.length fun i => eInt (o.Slots.getD i default))]) := by
 refine fn_introM Tryz.call74 Tryz.func74 rfl Tryz.ntmps74 ?_
 rintro ds os d os' ⟨o, rfl, rfl, rfl, rfl⟩
 refine ⟨by simp, fun F w0 => ?_⟩
 refine yD 0 3 rfl rfl fun h1 => ?_
 refine yD 0 4 rfl rfl fun h2 => ?_
 repeat' (first | refine zN 3 qS ?_ | apply zC | apply zA | apply zB | refine zF qS qR ?_ ?_ | exact True.intro | exact rfl | exact qP | fail)
 refine zQ (o' := .acc 3 1 o.Slots.length fun i => eInt (o.Slots.getD i default)) 2 qR (accI _) ?_
 refine yB qR qS ?_ ?_
 ·simp only [go_sem]
  refine SLe.agg ⟨SLe.refl _, SLe.refl _, SLe.refl _, SLe.refl _, SLe.list (Nat.zero_add _) fun i _ => ?_, trivial⟩
  simp only [joinF, Nat.not_lt_zero, if_false, Nat.sub_zero]
 ·(show subO _ _; simp only [go_sem]; repeat' (first | exact SLe.any1 | exact trivial | exact True.intro | exact SLe.refl _ | exact OLe.refl _ | exact ⟨_, rfl, OLe.refl _⟩ | refine ⟨_, rfl, ?_⟩ | refine OLe.var ?_ | (show SLeL _ _; refine ⟨?_, ?_⟩) | (show SLeL [] []; exact True.intro) | (refine SLe.int ?_; rw [w64]; omega) | refine SLe.int ?_ | refine SLe.bool ?_ | apply And.intro))
theorem K74n : FnM Tryz.prog 74 (fun ds os d os' => ∃ o : Offer, ds = [eOffer o] ∧ os = [] ∧ d = .agg [.str o.Code, .int .i64 o.Credits, .int .i64 o.Places, ints o.Slots, .acc 3] ∧ os' = [(3, .acc 9 1 o.Needs.length fun i => eStr (o.Needs.getD i default))]) := by
 refine fn_introM Tryz.call74 Tryz.func74 rfl Tryz.ntmps74 ?_
 rintro ds os d os' ⟨o, rfl, rfl, rfl, rfl⟩
 refine ⟨by simp, fun F w0 => ?_⟩
 refine yD 0 3 rfl rfl fun h1 => ?_
 refine yD 0 4 rfl rfl fun h2 => ?_
 repeat' (first | refine zN 2 qS ?_ | apply zC | apply zA | apply zB | refine zF qS qR ?_ ?_ | exact True.intro | exact rfl | exact qP | fail)
 refine zQ (o' := .acc 9 1 o.Needs.length fun i => eStr (o.Needs.getD i default)) 3 qR (accT _) ?_
 refine yB qR qS ?_ ?_
 ·simp only [go_sem]
  refine SLe.agg ⟨SLe.refl _, SLe.refl _, SLe.refl _, SLe.list (Nat.zero_add _) fun i _ => ?_, SLe.refl _, trivial⟩
  simp only [joinF, Nat.not_lt_zero, if_false, Nat.sub_zero]
 ·(show subO _ _; simp only [go_sem]; repeat' (first | exact SLe.any1 | exact trivial | exact True.intro | exact SLe.refl _ | exact OLe.refl _ | exact ⟨_, rfl, OLe.refl _⟩ | refine ⟨_, rfl, ?_⟩ | refine OLe.var ?_ | (show SLeL _ _; refine ⟨?_, ?_⟩) | (show SLeL [] []; exact True.intro) | (refine SLe.int ?_; rw [w64]; omega) | refine SLe.int ?_ | refine SLe.bool ?_ | apply And.intro))
end Go.Sx
namespace Go.Sx
@[go_sem] theorem tn2b : Int.toNat 2 = 2 := rfl
structure Q3 where (a b c : Int)
 deriving Inhabited
@[go_sem] def eQ (q : Q3) : SD := .agg [.int .i64 q.a, .int .i64 q.b, .int .i64 q.c]
def b8 (x : Int) : UInt8 := UInt8.ofNat (IntKind.u8.wrap x).toNat
theorem b8_eq (x : Int) : ((b8 x).toNat : Int) = IntKind.u8.wrap x := by
 have h : 0 ≤ IntKind.u8.wrap x ∧ IntKind.u8.wrap x < 256 := by
  simp only [IntKind.wrap, IntKind.signed, IntKind.bits]; constructor <;> simp <;> omega
 unfold b8
 rw [UInt8.toNat_ofNat']
 omega
theorem stepcv2 {P : Program} {F : List Nat} {w0 : Base} {s : St} {ops : Array Oper} {Q : Exit → Act → World → Prop} {rest : List Oper} {t S T te : Nat} {x1 x2 : Int} {x : Operand} {ty : Nat} {pos : String} {af : Array Edge} {s' : St} (hx : unG s x = .list 1 2 fun i => .int .u8 ([IntKind.u8.wrap x1, IntKind.u8.wrap x2].getD i 0)) (hg : allP (gCs s [x] []))
  (hS : P.underlying S = some (.slice te)) (he : P.underlying te = some (.int .u8)) (hT : P.underlying T = some .string)
  (hs : cstep s t (.str ⟨[b8 x1, b8 x2].toArray⟩) = some s') (hn : RunL P F w0 ops Q rest s') : RunL P F w0 ops Q (⟨some t, .convert S T x, ty, pos, af, none⟩ :: rest) s :=
 stepcvL [b8 x1, b8 x2] hx hg rfl (fun i hi => by
  match i, hi with
  | 0, _ => show SD.int _ _ = SD.int _ _; rw [show ([b8 x1, b8 x2].getD 0 0) = b8 x1 from rfl, b8_eq]; rfl
  | 1, _ => show SD.int _ _ = SD.int _ _; rw [show ([b8 x1, b8 x2].getD 1 0) = b8 x2 from rfl, b8_eq]; rfl
  | n + 2, h => exact absurd h (by omega)) hS he hT hs hn
theorem OLe.setE {α : Type} [Inhabited α] (enc : α → SD) (l : List α) (i : Nat) (o : α) {T es : Nat} {d : SD} (hd : SLe d (enc o)) : OLe (.acc T es l.length (setF i d fun j => enc (l.getD j default))) (.acc T es (l.set i o).length fun j => enc ((l.set i o).getD j default)) := by
 refine ⟨rfl, rfl, by simp, fun j hj hp u hu e => ?_⟩
 have hu' := hu e
 simp only [setF] at hu'
 by_cases hji : j = i
 ·subst hji
  rw [if_pos rfl] at hu'
  have : (l.set j o).getD j default = o := by simp [List.getD_eq_getElem?_getD, hj]
  show rep hp (enc ((l.set j o).getD j default)) e u
  rw [this]
  exact hd _ _ _ hu'
 ·rw [if_neg hji] at hu'
  have h' : ¬ i = j := fun hc => hji hc.symm
  have : (l.set i o).getD j default = l.getD j default := by simp [List.getD_eq_getElem?_getD, List.getElem?_set, h']
  show rep hp (enc ((l.set i o).getD j default)) e u
  rw [this]
  exact hu'
theorem OLe.setG {α : Type} [Inhabited α] (enc : α → SD) (l : List α) (i : Nat) (o : α) {g : Nat → SD} {n : Nat} (hn : n = l.length) (hg : ∀ j, j < l.length → SLe (g j) (enc (l.getD j default))) {T es : Nat} {d : SD} (hd : SLe d (enc o)) : OLe (.acc T es n (setF i d g)) (.acc T es (l.set i o).length fun j => enc ((l.set i o).getD j default)) := by
 subst hn
 refine ⟨rfl, rfl, by simp, fun j hj hp u hu e => ?_⟩
 have hu' := hu e
 simp only [setF] at hu'
 by_cases hji : j = i
 ·subst hji
  rw [if_pos rfl] at hu'
  have : (l.set j o).getD j default = o := by simp [List.getD_eq_getElem?_getD, hj]
  show rep hp (enc ((l.set j o).getD j default)) e u
  rw [this]
  exact hd _ _ _ hu'
 ·rw [if_neg hji] at hu'
  have h' : ¬ i = j := fun hc => hji hc.symm
  have : (l.set i o).getD j default = l.getD j default := by simp [List.getD_eq_getElem?_getD, h']
  show rep hp (enc ((l.set i o).getD j default)) e u
  rw [this]
  exact hg j hj _ _ _ hu'
theorem SLe.setF {α : Type} [Inhabited α] (enc : α → SD) (l : List α) (i : Nat) (o : α) {d : SD} (hd : SLe d (enc o)) (j : Nat) (hj : j < (l.set i o).length) : SLe (Sx.setF i d (fun j => enc (l.getD j default)) j) (enc ((l.set i o).getD j default)) := by
 rw [List.length_set] at hj
 simp only [Sx.setF]
 by_cases hji : j = i
 ·subst hji
  rw [if_pos rfl]
  have : (l.set j o).getD j default = o := by simp [List.getD_eq_getElem?_getD, hj]
  rw [this]; exact hd
 ·rw [if_neg hji]
  have h' : ¬ i = j := fun hc => hji hc.symm
  have : (l.set i o).getD j default = l.getD j default := by simp [List.getD_eq_getElem?_getD, h']
  rw [this]; exact SLe.refl _
theorem SLe.off {c : ByteArray} {cr pl : Int} {s : List Int} {n : List ByteArray} {d e : SD} (hs : SLe d (ints s)) (hn : SLe e (strs n)) : SLe (.agg [.str c, .int .i64 cr, .int .i64 pl, d, e]) (eOffer ⟨c, cr, pl, s, n⟩) :=
 SLe.agg ⟨SLe.refl _, SLe.refl _, SLe.refl _, hs, hn, trivial⟩
theorem SLe.tk {l : List ByteArray} {n : Nat} (h : n ≤ l.length) : SLe (.list 1 n fun i => .str (l.getD i ByteArray.empty)) (strs (l.take n)) :=
 SLe.list (by simp; omega) (fun i hi => by
  show SD.str _ = SD.str _
  congr 1
  simp [List.getD_eq_getElem?_getD, List.getElem?_take, hi]; rfl)
theorem SLe.one (x : ByteArray) : SLe (.list 1 1 fun i => .str ([x].getD i ByteArray.empty)) (strs [x]) := SLe.refl _
open Go.Proofs Go.RowKit
attribute [local irreducible] Run RunL RunD RunE SLe0 SLe OLe
set_option maxHeartbeats 2000000
set_option maxRecDepth 8000
set_option maxHeartbeats 40000000
def not4 (q : Q3) : Prop := modR q.a 11 ≠ 3 ∧ modR q.a 11 ≠ 4 ∧ modR q.a 11 ≠ 5 ∧ modR q.a 11 ≠ 7
attribute [go_sem] asA asS recAs
theorem K25a : ∃ G : List Offer × Q3 → List Offer, (∀ x : List Offer × Q3, x.1.length ≤ 6 ∧ (x.1 = [] ∨ not4 x.2) → True) ∧ FnOK Tryz.prog 25 (fun ds d => ∃ x, (x.1.length ≤ 6 ∧ (x.1 = [] ∨ not4 x.2)) ∧ ds = [eList 5 eOffer x.1, eQ x.2] ∧ d = eList 5 eOffer (G x)) := by
 refine fn_introE0 Tryz.call25 Tryz.func25 rfl Tryz.ntmps25 (α := List Offer × Q3) (β := List Offer) (fun x => x.1.length ≤ 6 ∧ (x.1 = [] ∨ not4 x.2)) (fun _ _ => True) (fun x => [eList 5 eOffer x.1, eQ x.2]) (fun _ y => eList 5 eOffer y) ?_
 rintro ⟨l, q⟩ ⟨hl, hq⟩
 simp only at hl hq
 refine ⟨by simp, ?_⟩
 repeat' (first | (refine zH (K' := ?_) (s' := ?_) (fun F w0 fn hE => ?_) ?_; rotate_left 2; focus ((first | apply zC | fail); (repeat' (first | apply zC | apply zD | apply zA | apply zB | refine zF qS qR ?_ ?_ | exact True.intro | exact rfl | exact hE | fail)))) | (refine zS qS ?_ ?_ <;> intro hb <;> have hc := hb <;> (try simp only [bF] at hc) <;> (try (exfalso; simp at hc; done))))
 refine zH (fun _ _ _ hE => yE 5 76 5 (fun i => eOffer (([] : List Offer).getD i default)) rfl rfl rfl hE) ?_
 refine runE_loop [0, 3, 5] (fun k : Nat × Unit => [(6, .int .i64 k.1)]) (fun k : Nat × Unit => [(1, .acc 76 5 (l.take k.1).length (fun i => eOffer ((l.take k.1).getD i default)))]) (fun k : Nat × Unit => k.1 ≤ l.length) (fun k : Nat × Unit => l.length - k.1) (0, ()) (fun x => qS) ?_ qE qE ?_
 ·exact Nat.zero_le _
 rintro ⟨k, _⟩ n g1 ih
 simp only at g1
 (refine zH (K' := ?_) (s' := ?_) (fun F w0 fn hE => ?_) ?_; rotate_left 2; focus ((first | apply zC | fail); (repeat' (first | apply zC | apply zA | apply zB | refine zF qS qR ?_ ?_ | exact True.intro | exact rfl | exact hE | fail))))
 refine zS qS ?_ ?_ <;> intro hb <;> have hc := hb <;> (try simp only [bF] at hc) <;> (try (exfalso; simp at hc; done))
 ·have hk : k < l.length := by assumption
  have htk : l.take (k + 1) = l.take k ++ [l.getD k default] := by rw [List.take_add_one, List.getD_eq_getElem?_getD, List.getElem?_eq_getElem hk]; rfl
  repeat' (first | (refine zH (K' := ?_) (s' := ?_) (fun F w0 fn hE => ?_) ?_; rotate_left 2; focus ((first | apply zG | fail); (repeat' (first | apply zC | apply zD | apply zK | apply zA | apply zB | refine zF qS qR ?_ ?_ | refine zL K74 qD ?_ ⟨_, rfl, rfl⟩ qS ?_ | exact True.intro | exact rfl | exact hE | exact qP | fail)))) | (refine zS qS ?_ ?_ <;> intro hb <;> have hc := hb <;> (try simp only [bF] at hc) <;> (try (exfalso; simp at hc; done))))
  refine zH (fun _ _ _ hE => zQ 1 qR (OLe.snoc eOffer (l.take k) (l.getD k default) (SLe.refl _)) hE) ?_
  rw [← htk]
  refine zX ih ((k + 1, ())) ?_ ?_ ⟨rfl, qE, qE⟩
  ·simp only; omega
  ·simp only; omega
 ·have htk : l.take k = l := List.take_of_length_le (by omega)
  rw [htk]
  have m1 := modR_bd q.b 72 (by omega) (by omega)
  (refine zH (K' := ?_) (s' := ?_) (fun F w0 fn hE => ?_) ?_; rotate_left 2; focus ((first | refine zJ qR ?_ | fail); (repeat' (first | apply zC | apply zA | apply zB | refine zF qS qR ?_ ?_ | exact True.intro | exact rfl | exact hE | fail))))
  refine zS qS ?_ ?_ <;> intro hb <;> have hc := hb <;> (try simp only [bF] at hc) <;> (try (exfalso; simp at hc; done))
  ·repeat' (first | (refine zH (K' := ?_) (s' := ?_) (fun F w0 fn hE => ?_) ?_; rotate_left 2; focus ((first | apply zC | fail); (repeat' (first | apply zA | apply zB | refine zF qS qR ?_ ?_ | exact True.intro | exact rfl | exact hE | fail)))) | (refine zS qS ?_ ?_ <;> intro hb <;> have hc := hb <;> (try simp only [bF] at hc) <;> (try (exfalso; simp at hc; done))))
   refine zH (fun _ _ _ hE => zN 1 qS hE) ?_
   repeat' (first | (refine zH (K' := ?_) (s' := ?_) (fun F w0 fn hE => ?_) ?_; rotate_left 2; focus ((first | (show Run _ _ _ _ _ _; first | apply zC | apply zG | apply zD | apply zK | apply zA | apply zO | refine zJ qR ?_) | (show RunL _ _ _ _ _ _ _; first | apply zB | refine zF qS qR ?_ ?_ | refine yF qS qZ qZ (fun bn hbn => ?_) | refine stepnif qF qR qS ?_) | (show RunD _ _ _ _ _ _ _ _ _ _; first | refine zT qS qR ?_ ?_ | refine zP qK qK ?_) | exact True.intro | exact rfl | exact SLe.refl _ | exact SLe0.bool rfl | refine SLe0.bool ?_ | refine SLe0.int ?_ | refine SLe0.str ?_ | exact SLe0.pure rfl | (show SLe _ _; simp only [go_sem]; repeat' (first | exact trivial | exact True.intro | exact SLe.refl _ | exact OLe.refl _ | exact ⟨_, rfl, OLe.refl _⟩ | refine ⟨_, rfl, ?_⟩ | refine OLe.var ?_ | (show SLeL _ _; refine ⟨?_, ?_⟩) | (show SLeL [] []; exact True.intro) | (refine SLe.int ?_; rw [w64]; omega) | refine SLe.int ?_ | refine SLe.bool ?_ | apply And.intro)) | (show subO _ _; simp only [go_sem]; repeat' (first | exact trivial | exact True.intro | exact SLe.refl _ | exact OLe.refl _ | exact ⟨_, rfl, OLe.refl _⟩ | refine ⟨_, rfl, ?_⟩ | refine OLe.var ?_ | (show SLeL _ _; refine ⟨?_, ?_⟩) | (show SLeL [] []; exact True.intro) | (refine SLe.int ?_; rw [w64]; omega) | refine SLe.int ?_ | refine SLe.bool ?_ | apply And.intro)) | exact qP | fail); (repeat' (first | (show Run _ _ _ _ _ _; first | apply zC | apply zG | apply zD | apply zK | apply zA | apply zO | refine zJ qR ?_) | (show RunL _ _ _ _ _ _ _; first | apply zB | refine zF qS qR ?_ ?_ | refine yF qS qZ qZ (fun bn hbn => ?_) | refine stepnif qF qR qS ?_) | (show RunD _ _ _ _ _ _ _ _ _ _; first | refine zT qS qR ?_ ?_ | refine zP qK qK ?_) | exact True.intro | exact rfl | exact SLe.refl _ | exact hE | omega | exact SLe0.bool rfl | refine SLe0.bool ?_ | refine SLe0.int ?_ | refine SLe0.str ?_ | exact SLe0.pure rfl | (show SLe _ _; simp only [go_sem]; repeat' (first | exact trivial | exact True.intro | exact SLe.refl _ | exact OLe.refl _ | exact ⟨_, rfl, OLe.refl _⟩ | refine ⟨_, rfl, ?_⟩ | refine OLe.var ?_ | (show SLeL _ _; refine ⟨?_, ?_⟩) | (show SLeL [] []; exact True.intro) | (refine SLe.int ?_; rw [w64]; omega) | refine SLe.int ?_ | refine SLe.bool ?_ | apply And.intro)) | (show subO _ _; simp only [go_sem]; repeat' (first | exact trivial | exact True.intro | exact SLe.refl _ | exact OLe.refl _ | exact ⟨_, rfl, OLe.refl _⟩ | refine ⟨_, rfl, ?_⟩ | refine OLe.var ?_ | (show SLeL _ _; refine ⟨?_, ?_⟩) | (show SLeL [] []; exact True.intro) | (refine SLe.int ?_; rw [w64]; omega) | refine SLe.int ?_ | refine SLe.bool ?_ | apply And.intro)) | exact qP | fail)))) | (refine zS qS ?_ ?_ <;> intro hb <;> have hc := hb <;> (try simp only [bF] at hc) <;> (try (exfalso; simp at hc; done))))
   (refine zY (ds := ?ds2) (⟨l, trivial⟩ : {y : List Offer // True}) qR ?qa2 ?qb2; (case qa2 => (simp only [go_sem]; rfl)); case' qb2 => (refine SLe0.le qZ ?_; simp only [go_sem]; repeat' (first | exact trivial | exact True.intro | exact SLe.refl _ | exact OLe.refl _ | exact ⟨_, rfl, OLe.refl _⟩ | refine ⟨_, rfl, ?_⟩ | refine OLe.var ?_ | (show SLeL _ _; refine ⟨?_, ?_⟩) | (show SLeL [] []; exact True.intro) | (refine SLe.int ?_; rw [w64]; omega) | refine SLe.int ?_ | refine SLe.bool ?_ | apply And.intro | exact OLe.snoc1 _ _ | exact OLe.snoc2 _ _ | exact SLe.nil0 | exact SLe.nils | exact SLe.take8 _ _ | exact SLe.lit1 _ | exact SLe.needs _ | exact SLe.pair1 _ _ _ _ | exact SLe.refl _ | refine SLe.agg ?_ | refine SLe.tup ?_)))
  ·have hl0 : 0 < l.length := by
    have : ((l.length : Int) == 0) = false := hb
    rw [beq_eq_false_iff_ne] at this; omega
   have hq : not4 q := hq.resolve_left (fun h => by subst h; simp at hl0)
   have c3 : (modR q.a 11 == 3) = false := by rw [beq_eq_false_iff_ne]; exact hq.1
   have c4 : (modR q.a 11 == 4) = false := by rw [beq_eq_false_iff_ne]; exact hq.2.1
   have c5 : (modR q.a 11 == 5) = false := by rw [beq_eq_false_iff_ne]; exact hq.2.2.1
   have c7 : (modR q.a 11 == 7) = false := by rw [beq_eq_false_iff_ne]; exact hq.2.2.2
   have m2 := modR_bd q.c l.length (by omega) (by omega)
   generalize hn1 : modR q.b 72 = z at m1
   generalize hi1 : modR q.c l.length = ti at m2
   have t8 := Int.tmod_nonneg 8 m1.1
   have t8' := Int.tmod_lt_of_pos z (show (0:Int) < 8 by omega)
   have t4 := Int.tmod_nonneg 4 m1.1
   have t4' := Int.tmod_lt_of_pos z (show (0:Int) < 4 by omega)
   have t6 := Int.tmod_nonneg 6 m1.1
   have t6' := Int.tmod_lt_of_pos z (show (0:Int) < 6 by omega)
   have t7 := Int.tmod_nonneg 7 m1.1
   have t7' := Int.tmod_lt_of_pos z (show (0:Int) < 7 by omega)
   have tl := Int.tmod_nonneg (l.length : Int) m1.1
   have tl' := Int.tmod_lt_of_pos z (show (0:Int) < l.length by omega)
   repeat' (first | (refine zH (K' := ?_) (s' := ?_) (fun F w0 fn hE => ?_) ?_; rotate_left 2; focus ((first | apply zC | apply zG | apply zD | apply zA | fail); (repeat' (first | apply zC | apply zD | apply zK | apply zA | apply zO | apply zB | refine zF (by simp only [go_sem, c3, c4, c5, c7, hn1, hi1]; rfl) qR ?_ ?_ | refine zT (by simp only [go_sem, c3, c4, c5, c7, hn1, hi1]; rfl) qR ?_ ?_ | refine zP qK qK ?_ | refine runDas (by simp only [go_sem, c3, c4, c5, c7, hn1, hi1]; rfl) (by simp only [go_sem, c3, c4, c5, c7, hn1, hi1]; rfl) ?_ | refine zL K75 (by simp only [go_sem, c3, c4, c5, c7, hn1, hi1]; first | done | rfl) ?_ ⟨rfl, rfl⟩ (by simp only [go_sem, c3, c4, c5, c7, hn1, hi1]; rfl) ?_ | refine zL K24 (by simp only [go_sem, c3, c4, c5, c7, hn1, hi1]; first | done | rfl) ?_ ⟨_, _, (by omega), rfl, rfl⟩ (by simp only [go_sem, c3, c4, c5, c7, hn1, hi1]; rfl) ?_ | exact True.intro | exact rfl | exact hE | exact qP | fail)))) | (refine zS qS ?_ ?_ <;> intro hb <;> have hc := hb <;> (try simp only [bF] at hc) <;> (try (exfalso; simp at hc; done))))
   ·refine zH (fun _ _ _ hE => zQ 1 qR (OLe.setE eOffer l ti.toNat ⟨_, (l.getD ti.toNat default).Credits, (l.getD ti.toNat default).Places, (l.getD ti.toNat default).Slots, (l.getD ti.toNat default).Needs⟩ (SLe.off (SLe.refl _) (SLe.refl _))) hE) ?_
    refine zH (fun _ _ _ hE => zN 1 qS hE) ?_
    (refine zY (ds := ?ds4) (⟨l.set ti.toNat ?u4, trivial⟩ : {y : List Offer // True}) qR ?qa4 ?qb4; (case qa4 => (simp only [go_sem]; rfl)); case' qb4 => (refine SLe0.le qZ ?_; simp only [go_sem]; repeat' (first | exact trivial | exact True.intro | exact SLe.refl _ | exact OLe.refl _ | exact ⟨_, rfl, OLe.refl _⟩ | refine ⟨_, rfl, ?_⟩ | refine OLe.var ?_ | (show SLeL _ _; refine ⟨?_, ?_⟩) | (show SLeL [] []; exact True.intro) | (refine SLe.int ?_; rw [w64]; omega) | refine SLe.int ?_ | refine SLe.bool ?_ | apply And.intro | exact OLe.snoc1 _ _ | exact OLe.snoc2 _ _ | exact SLe.nil0 | exact SLe.nils | exact SLe.take8 _ _ | exact SLe.lit1 _ | exact SLe.needs _ | exact SLe.pair1 _ _ _ _ | exact SLe.refl _ | refine SLe.agg ?_ | refine SLe.tup ?_)))
   ·refine zH (fun _ _ _ hE => zQ 1 qR (OLe.setE eOffer l ti.toNat ⟨(l.getD ti.toNat default).Code, _, (l.getD ti.toNat default).Places, (l.getD ti.toNat default).Slots, (l.getD ti.toNat default).Needs⟩ (SLe.off (SLe.refl _) (SLe.refl _))) hE) ?_
    refine zH (fun _ _ _ hE => zN 1 qS hE) ?_
    (refine zY (ds := ?ds6) (⟨l.set ti.toNat ?u6, trivial⟩ : {y : List Offer // True}) qR ?qa6 ?qb6; (case qa6 => (simp only [go_sem]; rfl)); case' qb6 => (refine SLe0.le qZ ?_; simp only [go_sem]; repeat' (first | exact trivial | exact True.intro | exact SLe.refl _ | exact OLe.refl _ | exact ⟨_, rfl, OLe.refl _⟩ | refine ⟨_, rfl, ?_⟩ | refine OLe.var ?_ | (show SLeL _ _; refine ⟨?_, ?_⟩) | (show SLeL [] []; exact True.intro) | (refine SLe.int ?_; rw [w64]; omega) | refine SLe.int ?_ | refine SLe.bool ?_ | apply And.intro | exact OLe.snoc1 _ _ | exact OLe.snoc2 _ _ | exact SLe.nil0 | exact SLe.nils | exact SLe.take8 _ _ | exact SLe.lit1 _ | exact SLe.needs _ | exact SLe.pair1 _ _ _ _ | exact SLe.refl _ | refine SLe.agg ?_ | refine SLe.tup ?_)))
   ·refine zH (fun _ _ _ hE => zQ 1 qR (OLe.setE eOffer l ti.toNat ⟨(l.getD ti.toNat default).Code, (l.getD ti.toNat default).Credits, _, (l.getD ti.toNat default).Slots, (l.getD ti.toNat default).Needs⟩ (SLe.off (SLe.refl _) (SLe.refl _))) hE) ?_
    refine zH (fun _ _ _ hE => zN 1 qS hE) ?_
    (refine zY (ds := ?ds8) (⟨l.set ti.toNat ?u8, trivial⟩ : {y : List Offer // True}) qR ?qa8 ?qb8; (case qa8 => (simp only [go_sem]; rfl)); case' qb8 => (refine SLe0.le qZ ?_; simp only [go_sem]; repeat' (first | exact trivial | exact True.intro | exact SLe.refl _ | exact OLe.refl _ | exact ⟨_, rfl, OLe.refl _⟩ | refine ⟨_, rfl, ?_⟩ | refine OLe.var ?_ | (show SLeL _ _; refine ⟨?_, ?_⟩) | (show SLeL [] []; exact True.intro) | (refine SLe.int ?_; rw [w64]; omega) | refine SLe.int ?_ | refine SLe.bool ?_ | apply And.intro | exact OLe.snoc1 _ _ | exact OLe.snoc2 _ _ | exact SLe.nil0 | exact SLe.nils | exact SLe.take8 _ _ | exact SLe.lit1 _ | exact SLe.needs _ | exact SLe.pair1 _ _ _ _ | exact SLe.refl _ | refine SLe.agg ?_ | refine SLe.tup ?_)))
   ·refine zH (fun _ _ _ hE => zQ 1 qR (OLe.setE eOffer l ti.toNat ⟨(l.getD ti.toNat default).Code, (l.getD ti.toNat default).Credits, (l.getD ti.toNat default).Places, (l.getD ti.toNat default).Slots, [codes6.getD (z.tmod 6).toNat default]⟩ (SLe.off (SLe.refl _) (SLe.one _))) hE) ?_
    refine zH (fun _ _ _ hE => zN 1 qS hE) ?_
    (refine zY (ds := ?ds10) (⟨l.set ti.toNat ?u10, trivial⟩ : {y : List Offer // True}) qR ?qa10 ?qb10; (case qa10 => (simp only [go_sem]; rfl)); case' qb10 => (refine SLe0.le qZ ?_; simp only [go_sem]; repeat' (first | exact trivial | exact True.intro | exact SLe.refl _ | exact OLe.refl _ | exact ⟨_, rfl, OLe.refl _⟩ | refine ⟨_, rfl, ?_⟩ | refine OLe.var ?_ | (show SLeL _ _; refine ⟨?_, ?_⟩) | (show SLeL [] []; exact True.intro) | (refine SLe.int ?_; rw [w64]; omega) | refine SLe.int ?_ | refine SLe.bool ?_ | apply And.intro | exact OLe.snoc1 _ _ | exact OLe.snoc2 _ _ | exact SLe.nil0 | exact SLe.nils | exact SLe.take8 _ _ | exact SLe.lit1 _ | exact SLe.needs _ | exact SLe.pair1 _ _ _ _ | exact SLe.refl _ | refine SLe.agg ?_ | refine SLe.tup ?_)))
   ·refine zH (fun _ _ _ hE => zQ 1 qR (OLe.setE eOffer l ti.toNat ⟨(l.getD ti.toNat default).Code, (l.getD ti.toNat default).Credits, (l.getD ti.toNat default).Places, (l.getD ti.toNat default).Slots, _⟩ (SLe.off (SLe.refl _) (SLe.tk (by simp; omega)))) hE) ?_
    refine zH (fun _ _ _ hE => zN 1 qS hE) ?_
    (refine zY (ds := ?ds12) (⟨l.set ti.toNat ?u12, trivial⟩ : {y : List Offer // True}) qR ?qa12 ?qb12; (case qa12 => (simp only [go_sem]; rfl)); case' qb12 => (refine SLe0.le qZ ?_; simp only [go_sem]; repeat' (first | exact trivial | exact True.intro | exact SLe.refl _ | exact OLe.refl _ | exact ⟨_, rfl, OLe.refl _⟩ | refine ⟨_, rfl, ?_⟩ | refine OLe.var ?_ | (show SLeL _ _; refine ⟨?_, ?_⟩) | (show SLeL [] []; exact True.intro) | (refine SLe.int ?_; rw [w64]; omega) | refine SLe.int ?_ | refine SLe.bool ?_ | apply And.intro | exact OLe.snoc1 _ _ | exact OLe.snoc2 _ _ | exact SLe.nil0 | exact SLe.nils | exact SLe.take8 _ _ | exact SLe.lit1 _ | exact SLe.needs _ | exact SLe.pair1 _ _ _ _ | exact SLe.refl _ | refine SLe.agg ?_ | refine SLe.tup ?_)))
   ·refine zH (fun _ _ _ hE => zQ 1 qR (OLe.setG eOffer (l.set ti.toNat (l.getD (z.tmod l.length).toNat default)) (z.tmod l.length).toNat (l.getD ti.toNat default) (by simp) (SLe.setF eOffer l ti.toNat (l.getD (z.tmod l.length).toNat default) (SLe.refl _)) (SLe.refl _)) hE) ?_
    refine zH (fun _ _ _ hE => zN 1 qS hE) ?_
    (refine zY (ds := ?ds13) (⟨(l.set ti.toNat (l.getD (z.tmod l.length).toNat default)).set (z.tmod l.length).toNat (l.getD ti.toNat default), trivial⟩ : {y : List Offer // True}) qR ?qa13 ?qb13; (case qa13 => (simp only [go_sem]; rfl)); case' qb13 => (refine SLe0.le qZ ?_; simp only [go_sem]; repeat' (first | exact trivial | exact True.intro | exact SLe.refl _ | exact OLe.refl _ | exact ⟨_, rfl, OLe.refl _⟩ | refine ⟨_, rfl, ?_⟩ | refine OLe.var ?_ | (show SLeL _ _; refine ⟨?_, ?_⟩) | (show SLeL [] []; exact True.intro) | (refine SLe.int ?_; rw [w64]; omega) | refine SLe.int ?_ | refine SLe.bool ?_ | apply And.intro | exact OLe.snoc1 _ _ | exact OLe.snoc2 _ _ | exact SLe.nil0 | exact SLe.nils | exact SLe.take8 _ _ | exact SLe.lit1 _ | exact SLe.needs _ | exact SLe.pair1 _ _ _ _ | exact SLe.refl _ | refine SLe.agg ?_ | refine SLe.tup ?_)))
   ·have t2 := Int.tmod_nonneg 2 m1.1
    have t2' := Int.tmod_lt_of_pos z (show (0:Int) < 2 by omega)
    refine runE_loop [0, 3, 5, 7] (fun x : List Offer × Unit => []) (fun x : List Offer × Unit => [(1, .acc 76 5 x.1.length (fun i => eOffer (x.1.getD i default)))]) (fun x : List Offer × Unit => x.1.length ≤ 61) (fun x : List Offer × Unit => 62 - x.1.length) (l, ()) (fun x => qS) ?_ qE qE ?_
    ·simp only; omega
    rintro ⟨l2, _⟩ n2 g2 ih2
    simp only at g2
    (refine zH (K' := ?_) (s' := ?_) (fun F w0 fn hE => ?_) ?_; rotate_left 2; focus ((first | apply zC | fail); (repeat' (first | apply zC | apply zA | apply zB | refine zF qS qR ?_ ?_ | exact rfl | exact hE | exact qP | fail))))
    refine zS qS ?_ ?_ <;> intro hb <;> have hc := hb <;> (try simp only [bF] at hc) <;> (try (exfalso; simp at hc; done))
    ·have ew : IntKind.i64.wrap (60 + z.tmod 2) = 60 + z.tmod 2 := by rw [w64]; omega
     rw [ew] at hc
     have hk2 : l2.length ≤ 60 := by omega
     repeat' (first | (refine zH (K' := ?_) (s' := ?_) (fun F w0 fn hE => ?_) ?_; rotate_left 2; focus ((first | apply zG | fail); (repeat' (first | apply zD | apply zK | apply zA | apply zB | refine zF qS qR ?_ ?_ | refine stepcv2 qS qZ (by first | exact tU140 | exact tU9s | exact tU5) (by first | exact tU140 | exact tU9s | exact tU5) (by first | exact tU140 | exact tU9s | exact tU5) qS ?_ | exact rfl | exact hE | exact qP | fail)))) | (refine zS qS ?_ ?_ <;> intro hb <;> have hc := hb <;> (try simp only [bF] at hc) <;> (try (exfalso; simp at hc; done))))
     refine zH (fun _ _ _ hE => zQ 1 qR (OLe.snocF eOffer l2 ⟨_, _, _, [], []⟩ (SLe.off SLe.nil0 SLe.nil0)) hE) ?_
     refine zX ih2 ((l2 ++ [⟨?u15, ?u16, ?u17, ?u18, ?u19⟩], ())) ?_ ?_ ⟨rfl, qE, qE⟩
     ·simp; omega
     ·simp; omega
    ·repeat' (first | (refine zH (K' := ?_) (s' := ?_) (fun F w0 fn hE => ?_) ?_; rotate_left 2; focus ((first | refine zJ qR ?_ | fail); (repeat' (first | apply zC | apply zK | apply zA | apply zB | refine zF qS qR ?_ ?_ | exact True.intro | exact rfl | exact hE | fail)))) | (refine zS qS ?_ ?_ <;> intro hb <;> have hc := hb <;> (try simp only [bF] at hc) <;> (try (exfalso; simp at hc; done))))
     refine zH (fun _ _ _ hE => zN 1 qS hE) ?_
     repeat' (first | (refine zH (K' := ?_) (s' := ?_) (fun F w0 fn hE => ?_) ?_; rotate_left 2; focus ((first | (show Run _ _ _ _ _ _; first | apply zC | apply zG | apply zD | apply zK | apply zA | apply zO | refine zJ qR ?_) | (show RunL _ _ _ _ _ _ _; first | apply zB | refine zF qS qR ?_ ?_ | refine yF qS qZ qZ (fun bn hbn => ?_) | refine stepnif qF qR qS ?_) | (show RunD _ _ _ _ _ _ _ _ _ _; first | refine zT qS qR ?_ ?_ | refine zP qK qK ?_) | exact True.intro | exact rfl | exact SLe.refl _ | exact SLe0.bool rfl | refine SLe0.bool ?_ | refine SLe0.int ?_ | refine SLe0.str ?_ | exact SLe0.pure rfl | (show SLe _ _; simp only [go_sem]; repeat' (first | exact trivial | exact True.intro | exact SLe.refl _ | exact OLe.refl _ | exact ⟨_, rfl, OLe.refl _⟩ | refine ⟨_, rfl, ?_⟩ | refine OLe.var ?_ | (show SLeL _ _; refine ⟨?_, ?_⟩) | (show SLeL [] []; exact True.intro) | (refine SLe.int ?_; rw [w64]; omega) | refine SLe.int ?_ | refine SLe.bool ?_ | apply And.intro)) | (show subO _ _; simp only [go_sem]; repeat' (first | exact trivial | exact True.intro | exact SLe.refl _ | exact OLe.refl _ | exact ⟨_, rfl, OLe.refl _⟩ | refine ⟨_, rfl, ?_⟩ | refine OLe.var ?_ | (show SLeL _ _; refine ⟨?_, ?_⟩) | (show SLeL [] []; exact True.intro) | (refine SLe.int ?_; rw [w64]; omega) | refine SLe.int ?_ | refine SLe.bool ?_ | apply And.intro)) | exact qP | fail); (repeat' (first | (show Run _ _ _ _ _ _; first | apply zC | apply zG | apply zD | apply zK | apply zA | apply zO | refine zJ qR ?_) | (show RunL _ _ _ _ _ _ _; first | apply zB | refine zF qS qR ?_ ?_ | refine yF qS qZ qZ (fun bn hbn => ?_) | refine stepnif qF qR qS ?_) | (show RunD _ _ _ _ _ _ _ _ _ _; first | refine zT qS qR ?_ ?_ | refine zP qK qK ?_) | exact True.intro | exact rfl | exact SLe.refl _ | exact hE | omega | exact SLe0.bool rfl | refine SLe0.bool ?_ | refine SLe0.int ?_ | refine SLe0.str ?_ | exact SLe0.pure rfl | (show SLe _ _; simp only [go_sem]; repeat' (first | exact trivial | exact True.intro | exact SLe.refl _ | exact OLe.refl _ | exact ⟨_, rfl, OLe.refl _⟩ | refine ⟨_, rfl, ?_⟩ | refine OLe.var ?_ | (show SLeL _ _; refine ⟨?_, ?_⟩) | (show SLeL [] []; exact True.intro) | (refine SLe.int ?_; rw [w64]; omega) | refine SLe.int ?_ | refine SLe.bool ?_ | apply And.intro)) | (show subO _ _; simp only [go_sem]; repeat' (first | exact trivial | exact True.intro | exact SLe.refl _ | exact OLe.refl _ | exact ⟨_, rfl, OLe.refl _⟩ | refine ⟨_, rfl, ?_⟩ | refine OLe.var ?_ | (show SLeL _ _; refine ⟨?_, ?_⟩) | (show SLeL [] []; exact True.intro) | (refine SLe.int ?_; rw [w64]; omega) | refine SLe.int ?_ | refine SLe.bool ?_ | apply And.intro)) | exact qP | fail)))) | (refine zS qS ?_ ?_ <;> intro hb <;> have hc := hb <;> (try simp only [bF] at hc) <;> (try (exfalso; simp at hc; done))))
     (refine zY (ds := ?ds20) (⟨l2, trivial⟩ : {y : List Offer // True}) qR ?qa20 ?qb20; (case qa20 => (simp only [go_sem]; rfl)); case' qb20 => (refine SLe0.le qZ ?_; simp only [go_sem]; repeat' (first | exact trivial | exact True.intro | exact SLe.refl _ | exact OLe.refl _ | exact ⟨_, rfl, OLe.refl _⟩ | refine ⟨_, rfl, ?_⟩ | refine OLe.var ?_ | (show SLeL _ _; refine ⟨?_, ?_⟩) | (show SLeL [] []; exact True.intro) | (refine SLe.int ?_; rw [w64]; omega) | refine SLe.int ?_ | refine SLe.bool ?_ | apply And.intro | exact OLe.snoc1 _ _ | exact OLe.snoc2 _ _ | exact SLe.nil0 | exact SLe.nils | exact SLe.take8 _ _ | exact SLe.lit1 _ | exact SLe.needs _ | exact SLe.pair1 _ _ _ _ | exact SLe.refl _ | refine SLe.agg ?_ | refine SLe.tup ?_)))
   ·refine zH (fun _ _ _ hE => zN 1 qS hE) ?_
    (refine zY (ds := ?ds21) (⟨l, trivial⟩ : {y : List Offer // True}) qR ?qa21 ?qb21; (case qa21 => (simp only [go_sem]; rfl)); case' qb21 => (refine SLe0.le qZ ?_; simp only [go_sem]; repeat' (first | exact trivial | exact True.intro | exact SLe.refl _ | exact OLe.refl _ | exact ⟨_, rfl, OLe.refl _⟩ | refine ⟨_, rfl, ?_⟩ | refine OLe.var ?_ | (show SLeL _ _; refine ⟨?_, ?_⟩) | (show SLeL [] []; exact True.intro) | (refine SLe.int ?_; rw [w64]; omega) | refine SLe.int ?_ | refine SLe.bool ?_ | apply And.intro | exact OLe.snoc1 _ _ | exact OLe.snoc2 _ _ | exact SLe.nil0 | exact SLe.nils | exact SLe.take8 _ _ | exact SLe.lit1 _ | exact SLe.needs _ | exact SLe.pair1 _ _ _ _ | exact SLe.refl _ | refine SLe.agg ?_ | refine SLe.tup ?_)))
end Go.Sx
