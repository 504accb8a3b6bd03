/- Lemmas on the judge: P5, P6, P7, P8. -/
import Derived.Test.YtmbocmonhcplhaaGreatP3
import Derived.Test.YtmbocmonhcplhaaGreatP4
import Derived.Test.YtmbocmonhcplhaaGreatJ61
set_option linter.all false
set_option maxHeartbeats 20000000
set_option maxRecDepth 8000
namespace Go.Sx
open Go.Proofs Tryz Go.RowKit
attribute [local irreducible] Run zAg zAs OpT zAc SLe OLe
attribute [go_sem] zC7
theorem yC4 : ∀ (S L : List ByteArray), S.Nodup -> (∀ x ∈ S, x ∈ L) -> S.length <= L.length
 | [], _, _, _ => zz7 _
 | a :: r, L, h, hs => by
  have h2 := List.nodup_cons.1 h;have ha := hs a (by simp);have := yC4 r (L.erase a) h2.2 fun x hx => (List.mem_erase_of_ne (fun hc : x = a => h2.1 (hc ▸ hx))).2 (hs x (by simp [hx]));rw [List.length_erase_of_mem ha] at this;have := List.length_pos_of_mem ha;simp only [List.length_cons];omega
def zFu (l : List Offer) : List ByteArray := l.map Offer.Code
theorem yF7 (l : List Offer) : (zFu l).length = l.length := List.length_map ..
theorem zZd {l : List Offer} {k : Nat} (h : k < l.length) : (zFu l)[k]? = some (l.getD k default).Code := by
 rw [zFu, List.getElem?_map, zz5 h, zz2, zz5 h]; rfl
structure zL1 (l : List Offer) : Prop where
 len : l.length <= 6
 off : ∀ o ∈ l, yG1 o /\ zD1 o.Code
 asc : ∀ k, k + 1 < l.length -> Op.bytesLess (l.getD k default).Code.toList (l.getD (k + 1) default).Code.toList = true /\ (l.getD k default).Code ≠ (l.getD (k + 1) default).Code
 nd : (zFu l).Nodup
 lead : ∀ k, k < l.length -> ∀ n ∈ (l.getD k default).Needs, ∃ j, j < k /\ (l.getD j default).Code = n
def yHx (l : List Offer) (c : ByteArray) : List ByteArray := ((zDy c l).getD default).Needs
def zR5 (l : List Offer) : MK -> SD
 | .s c => strs (yHx l c)
 | .i _ => .nils
@[go_sem] def yBx (l : List Offer) : SD := .fmap none l.length (dK (zFu l)) (zR5 l)
theorem zTt {l : List Offer} (hn : (zFu l).Nodup) {k : Nat} (hk : k < l.length) : zDy (l.getD k default).Code l = some (l.getD k default) := by
 induction l generalizing k with
 | nil => cases hk
 | cons o r ih =>
  have h2 := List.nodup_cons.1 (show (o.Code :: zFu r).Nodup from hn);cases k with
  | zero => simp [zDy]
  | succ k =>
   have hk' : k < r.length := by simpa using hk
   rw [List.getD_cons_succ, zDy, if_neg, ih h2.2 hk'];intro hc;rw [beq_iff_eq] at hc;refine h2.1 ?_;rw [hc];exact List.mem_map.2 ⟨_, zAi hk', rfl⟩
theorem zLi {l : List Offer} (h : zL1 l) {k : Nat} (hk : k < l.length) : yHx l (l.getD k default).Code = (l.getD k default).Needs := by rw [yHx, zTt h.nd hk]; rfl
theorem yDg (L : List ByteArray) (c : ByteArray) : zC9 (.s c) (dK L) = dK (L ++ [c]) := by
 funext q
 cases q with
 | i z => simp [zC9, dK]
 | s b =>
  simp only [zC9, dK];rw [Bool.eq_iff_iff];simp [List.contains_iff_mem, or_comm]
theorem zR8 {l : List Offer} {k : Nat} (hk : k < l.length) : zFu (l.take (k + 1)) = zFu (l.take k) ++ [(l.getD k default).Code] := by
 simp only [zFu];rw [List.take_add_one, zz5 hk, List.map_append, zz2, zz5 hk]; rfl
theorem yFd {l : List Offer} (hn : (zFu l).Nodup) {k : Nat} (hk : k < l.length) : dK (zFu (l.take k)) (.s (l.getD k default).Code) = false := by
 have h1 : (zFu (l.take (k + 1))).Nodup := by
  have : zFu (l.take (k + 1)) = (zFu l).take (k + 1) := by simp [zFu, List.map_take]
  rw [this];exact List.Sublist.nodup (List.take_sublist _ _) hn
 rw [zR8 hk] at h1;have := (List.nodup_append.1 h1).2.2;simp only [dK];rw [<- Bool.not_eq_true, List.contains_iff_mem];intro hc;exact this _ hc _ (by simp) rfl
theorem setV {l : List Offer} (h : zL1 l) {k : Nat} (hk : k < l.length) : zJ0 (.s (l.getD k default).Code) (strs (l.getD k default).Needs) (zR5 l) = zR5 l := by
 funext q
 simp only [zJ0];split
 ·rename_i hq; subst hq; simp only [zR5]; rw [zLi h hk]
 ·rfl
theorem yDf : dK [] = fun _ => false := by funext q; cases q <;> rfl
@[go_sem] def oIx (l : List Offer) (k : Nat) : OB := .mp ⟨none, k, dK (zFu (l.take k)), zR5 l, none⟩ []
theorem K175 : FnOK prog 175 (fun ds d => ∃ l : List Offer, zL1 l /\ ds = [zAj 5 zAt l] /\ d = yBx l) := by
 refine zAb call175 func175 rfl ntmps175 ?_;rintro ds d ⟨l, h, rfl, rfl⟩;refine ⟨by simp, fun w0 => ?_⟩;have hl6 := h.len;have e0 : (.mp ⟨none, 0, fun _ => false, zR5 l, none⟩ [] : OB) = oIx l 0 := by simp only [oIx, List.take_zero, zFu, List.map_nil, yDf]
 repeat' (first | refine wA ?_ | refine zFe ((zR5 l)) qS qS ?_ | exact qT | fail)
 refine zK (o' := oIx l 0) 0 qR (zC2 e0) ?_;refine zH [0, 3, 9, 10] (fun x : Nat × Unit => [(11, .int .i64 x.1)]) (fun x => [(0, oIx l x.1)]) (fun x => x.1 <= l.length) (fun x => l.length - x.1) (0, ()) (fun x => qS) ?_ qL qL ?_
 ·exact zz7 _
 rintro ⟨k, _⟩ hk;simp only at hk
 repeat' (first | refine wA ?_ | exact qT | fail)
 (refine zAa qS qC qC ?_ ?_ <;> intro hb hc <;> try (simp at hc; done))
 ·have hkl : k < l.length := by assumption
  have u0 := yFd h.nd hkl;have u1 := setV h hkl;have u2 : zC9 (.s (l.getD k default).Code) (dK (zFu (l.take k))) = dK (zFu (l.take (k + 1))) := by rw [yDg, zR8 hkl]
  repeat' (first | refine wB ?_ | refine zC (by simp only [go_sem, u0, u1, u2]; rfl) qR ?_ ?_ | refine zE3 false (by simp only [go_sem, u0, u1, u2]; rfl) (by simp only [go_sem, u0, u1, u2]; first | done | rfl) (by simp only [go_sem, u0, u1, u2]; first | done | rfl) (by simp only [go_sem, u0, u1, u2]; first | done | rfl) (by simp only [go_sem, u0, u1, u2]; first | done | rfl) (by simp only [go_sem, u0, u1, u2]; first | done | rfl) ?_ (by simp only [go_sem, u0, u1, u2]; rfl) ?_ | exact qT | exact qP | fail)
  (refine zAa qS qC qC ?_ ?_ <;> intro hb hc <;> try (simp at hc; done))
  repeat' (first | refine wB ?_ | refine zC (by simp only [go_sem, u0, u1, u2]; rfl) qR ?_ ?_ | refine zIi (by simp only [go_sem, u0, u1, u2]; rfl) ?_ ?_ ?_ | exact qT | fail)
  ·exact ⟨Nat.lt_of_le_of_lt (show k <= 6 by omega) (by decide), trivial⟩
  refine zK (o' := oIx l (k + 1)) 0 qR (zC2 (congrArg (fun f => (.mp ⟨none, k + 1, dK (zFu (l.take (k + 1))), f, none⟩ [] : OB)) u1)) ?_;refine zL (k + 1, ()) ?_ ?_ ⟨rfl, qL, qL⟩
  ·show k + 1 <= l.length
   omega
  ·show l.length - (k + 1) < l.length - k
   omega
 ·have hkl : k = l.length := by omega
  have hT : l.take k = l := List.take_of_length_le (by omega);refine zK (o' := .mp ⟨none, l.length, dK (zFu l), zR5 l, none⟩ []) 0 qR (zC2 (by rw [hT, hkl])) ?_
  repeat' (first | refine zI 0 qS ?_ | refine wA ?_ | refine zE qR ?_ | refine zF qR ?_ | exact qT | exact zAc.pure rfl | fail)
  all_goals skip
theorem K177 : FnOK prog 177 (fun ds d => ∃ (l : List Offer) (c : ByteArray), ds = [eStr c, .fp [yBx l]] /\ d = .bool (!(zFu l).contains c)) := by
 refine zAb call177 func177 rfl ntmps177 ?_;rintro ds d ⟨l, c, rfl, rfl⟩;refine ⟨by simp, fun w0 => ?_⟩;cases hc : (zFu l).contains c
 ·have u0 : dK (zFu l) (.s c) = false := hc
  repeat' (first | refine wB ?_ | refine zC (by simp only [go_sem, u0]; rfl) qR ?_ ?_ | refine zE3 false (by simp only [go_sem, u0]; rfl) (by simp only [go_sem, u0]; first | done | rfl) (by simp only [go_sem, u0]; first | done | rfl) (by simp only [go_sem, u0]; first | done | rfl) (by simp only [go_sem, u0]; first | done | rfl) (by simp only [go_sem, u0]; first | done | rfl) ?_ (by simp only [go_sem, u0]; rfl) ?_ | refine zE qR ?_ | exact qT | exact zAc.bool rfl | fail)
 ·have u0 : dK (zFu l) (.s c) = true := hc
  have u1 : zR5 l (.s c) = strs (yHx l c) := rfl
  repeat' (first | refine wB ?_ | refine zC (by simp only [go_sem, u0, u1]; rfl) qR ?_ ?_ | refine zE3 true (by simp only [go_sem, u0, u1]; rfl) (by simp only [go_sem, u0, u1]; first | done | rfl) (by simp only [go_sem, u0, u1]; first | done | rfl) (by simp only [go_sem, u0, u1]; first | done | rfl) (by simp only [go_sem, u0, u1]; first | done | rfl) (by simp only [go_sem, u0, u1]; first | done | rfl) ?_ (by simp only [go_sem, u0, u1]; rfl) ?_ | refine zE qR ?_ | exact qT | exact zAc.bool rfl | fail)
@[go_sem] def oSn : OB := .var [.omap 1001]
@[go_sem] def oVi (l : List Offer) : OB := .var [.fn 216 [.fp [yBx l], .loc 1000 0, .loc 1002 0]]
def zMg (l : List Offer) : Nat -> List ByteArray -> ByteArray -> List ByteArray
 | 0, S, _ => S
 | f + 1, S, c => (yHx l c).foldl (fun S n => if S.contains n then S else zMg l f (S ++ [n]) n) S
def zZ0 (l : List Offer) (S : List ByteArray) : Prop := S.Nodup /\ ∀ x ∈ S, x ∈ zFu l
theorem zZ0.len {l : List Offer} {S : List ByteArray} (h : zZ0 l S) (hl : zL1 l) : S.length <= 6 := by
 have := yC4 S (zFu l) h.1 h.2;rw [yF7] at this;have := hl.len;omega
attribute [go_sem] zC7
theorem zV2 {l : List Offer} (h : zL1 l) : ∀ (f : Nat) (S : List ByteArray) (k : Nat), k < l.length -> zZ0 l S -> zZ0 l (zMg l f S (l.getD k default).Code) /\ ∀ x ∈ zMg l f S (l.getD k default).Code, x ∈ S \/ ∃ j, j < k /\ (l.getD j default).Code = x
 | 0, S, k, _, hS => ⟨hS, fun x hx => .inl hx⟩
 | f + 1, S, k, hk, hS => by
  rw [zMg, zLi h hk]
  have key : ∀ (N : List ByteArray), (∀ n ∈ N, ∃ j, j < k /\ (l.getD j default).Code = n) -> ∀ S : List ByteArray, zZ0 l S -> zZ0 l (N.foldl (fun S n => if S.contains n then S else zMg l f (S ++ [n]) n) S) /\ ∀ x ∈ N.foldl (fun S n => if S.contains n then S else zMg l f (S ++ [n]) n) S, x ∈ S \/ ∃ j, j < k /\ (l.getD j default).Code = x := by
   intro N
   induction N with
   | nil => exact fun _ S hS => ⟨hS, fun x hx => .inl hx⟩
   | cons n r ih =>
    intro hN S hS;rw [List.foldl_cons];obtain ⟨j, hj, hjn⟩ := hN n (by simp);have hr := fun m (hm : m ∈ r) => hN m (by simp [hm]);by_cases hc : S.contains n = true
    ·rw [if_pos hc]; exact ih hr S hS
    ·rw [if_neg hc]
     have hnS : n ∉ S := fun hm => hc (List.contains_iff_mem.2 hm)
     have hS2 : zZ0 l (S ++ [n]) := by
      refine ⟨List.nodup_append.2 ⟨hS.1, by simp, fun a ha b hb => ?_⟩, fun x hx => ?_⟩
      ·rw [zyh] at hb; subst hb; intro hc; exact hnS (hc ▸ ha)
      ·rcases List.mem_append.1 hx with hx | hx
       ·exact hS.2 x hx
       ·rw [zyh] at hx; subst hx
        exact List.mem_map.2 ⟨_, zAi (show j < l.length by omega), hjn⟩
     obtain ⟨g1, g2⟩ := zV2 h f (S ++ [n]) j (by omega) hS2;rw [hjn] at g1 g2;obtain ⟨q1, q2⟩ := ih hr _ g1;refine ⟨q1, fun x hx => ?_⟩
     rcases q2 x hx with hx | hx
     ·rcases g2 x hx with hx | ⟨i, hi, hix⟩
      ·rcases List.mem_append.1 hx with hx | hx
       ·exact .inl hx
       ·rw [zyh] at hx; subst hx; exact .inr ⟨j, hj, hjn⟩
      ·exact .inr ⟨i, by omega, hix⟩
     ·exact .inr hx
  exact key _ (h.lead k hk) S hS
theorem setK (q : MK) : zJ0 q (.bool true) fK = fK := by funext r; simp only [zJ0, fK]; split <;> rfl
theorem K216 (l : List Offer) (h : zL1 l) (f : Nat) : FnM prog 216 (fun ds os d os' => ∃ (S : List ByteArray) (k : Nat), (zZ0 l S /\ k < l.length /\ k <= f) /\ ds = [eStr (l.getD k default).Code, .fp [yBx l], .loc 1000 0, .loc 1002 0] /\ os = [oSn, oKm S, oVi l] /\ d = .tup [] /\ os' = zAy 1000 [oSn, oKm (zMg l (f + 1) S (l.getD k default).Code), oVi l]) := by
 induction f with
 | zero =>
  refine zA8 call216 func216 rfl ntmps216 ?_;rintro ds os d os' ⟨S, k, ⟨hS, hk, hkf⟩, rfl, rfl, rfl, rfl⟩;refine ⟨by simp, fun F w0 => ?_⟩
  have hN : (l.getD k default).Needs = [] := by
   cases hn : (l.getD k default).Needs with
   | nil => rfl
   | cons n r =>
    obtain ⟨j, hj, _⟩ := h.lead k hk n (by rw [hn]; simp);omega
  have u0 : dK (zFu l) (.s (l.getD k default).Code) = true := List.contains_iff_mem.2 (List.mem_map.2 ⟨_, zAi hk, rfl⟩);have u1 : zR5 l (.s (l.getD k default).Code) = strs [] := by rw [<- hN, <- zLi h hk]; rfl
  have hv : zMg l 1 S (l.getD k default).Code = S := by rw [zMg, zLi h hk, hN]; rfl
  rw [hv]
  repeat' (first | refine wB ?_ | refine zC (by simp only [go_sem, u0, u1]; rfl) qR ?_ ?_ | refine zE3 true (by simp only [go_sem, u0, u1]; rfl) (by simp only [go_sem, u0, u1]; first | done | rfl) (by simp only [go_sem, u0, u1]; first | done | rfl) (by simp only [go_sem, u0, u1]; first | done | rfl) (by simp only [go_sem, u0, u1]; first | done | rfl) (by simp only [go_sem, u0, u1]; first | done | rfl) ?_ (by simp only [go_sem, u0, u1]; rfl) ?_ | exact qT | fail)
  refine zH [0, 1, 2, 3, 9, 10] (fun x : Nat × Unit => [(11, .int .i64 x.1)]) (fun x => []) (fun x => x.1 <= 0) (fun x => 0 - x.1) (0, ()) (fun x => qS) ?_ qL qL ?_
  ·exact zyj _
  rintro ⟨j, _⟩ g1;simp only at g1
  repeat' (first | refine wA ?_ | exact qT | fail)
  (refine zAa qS qC qC ?_ ?_ <;> intro hb hc <;> try (simp at hc; done))
  repeat' (first | refine zF qR ?_ | fail)
  refine zBr qR ?_ ?_
  ·exact SLe.refl _
  ·exact qO
 | succ f ih =>
  refine zA8 call216 func216 rfl ntmps216 ?_;rintro ds os d os' ⟨S, k, ⟨hS, hk, hkf⟩, rfl, rfl, rfl, rfl⟩;refine ⟨by simp, fun F w0 => ?_⟩;have hO := (h.off _ (zAi hk)).1;have hL := h.lead k hk;have u0 : dK (zFu l) (.s (l.getD k default).Code) = true := List.contains_iff_mem.2 (List.mem_map.2 ⟨_, zAi hk, rfl⟩);have u1 : zR5 l (.s (l.getD k default).Code) = strs (l.getD k default).Needs := by rw [<- zLi h hk]; rfl
  have hv : zMg l (f + 1 + 1) S (l.getD k default).Code = (l.getD k default).Needs.foldl (fun S n => if S.contains n then S else zMg l (f + 1) (S ++ [n]) n) S := by rw [zMg, zLi h hk]
  rw [hv];have hnl := hO.nl;generalize (l.getD k default).Needs = N at hL u1 hnl;obtain ⟨SJ, hSJ⟩ : ∃ SJ : Nat -> List ByteArray, ∀ j, SJ j = (N.take j).foldl (fun S n => if S.contains n then S else zMg l (f + 1) (S ++ [n]) n) S := ⟨_, fun _ => rfl⟩;have hS0 : SJ 0 = S := by rw [hSJ]; rfl
  have hSe : SJ N.length = N.foldl (fun S n => if S.contains n then S else zMg l (f + 1) (S ++ [n]) n) S := by rw [hSJ, List.take_length]
  have hSs : ∀ j, j < N.length -> SJ (j + 1) = if (SJ j).contains (N.getD j default) then SJ j else zMg l (f + 1) (SJ j ++ [N.getD j default]) (N.getD j default) := fun j hj => by
   rw [hSJ, List.take_add_one, zz5 hj, List.foldl_append, hSJ, zz2, zz5 hj]; rfl
  rw [<- hSe];rw [<- hS0] at hS |-
  repeat' (first | refine wB ?_ | refine zC (by simp only [go_sem, u0, u1]; rfl) qR ?_ ?_ | refine zE3 true (by simp only [go_sem, u0, u1]; rfl) (by simp only [go_sem, u0, u1]; first | done | rfl) (by simp only [go_sem, u0, u1]; first | done | rfl) (by simp only [go_sem, u0, u1]; first | done | rfl) (by simp only [go_sem, u0, u1]; first | done | rfl) (by simp only [go_sem, u0, u1]; first | done | rfl) ?_ (by simp only [go_sem, u0, u1]; rfl) ?_ | exact qT | fail)
  refine zH [0, 1, 2, 3, 9, 10] (fun x : Nat × Unit => [(11, .int .i64 x.1)]) (fun x => [(1001, oKm (SJ x.1))]) (fun x => x.1 <= N.length /\ zZ0 l (SJ x.1)) (fun x => N.length - x.1) (0, ()) (fun x => qS) ?_ qL qL ?_
  ·exact ⟨zz7 _, hS⟩
  rintro ⟨j, _⟩ ⟨g1, g2⟩;simp only at g1 g2;have g3 := g2.len h
  repeat' (first | refine wA ?_ | exact qT | fail)
  (refine zAa qS qC qC ?_ ?_ <;> intro hb hc <;> try (simp at hc; done))
  ·have hj : j < N.length := by assumption
   obtain ⟨i, hi, hin⟩ := hL _ (zAi hj);have hs := hSs j hj;cases hc : (SJ j).contains (N.getD j default)
   ·rw [if_neg (by rw [hc]; simp)] at hs
    have w0 : dK (SJ j) (.s (N.getD j default)) = false := hc;have w1 := setK (.s (N.getD j default));have w2 := yDg (SJ j) (N.getD j default);have hnS : N.getD j default ∉ SJ j := fun hm => by rw [List.contains_iff_mem.2 hm] at hc; cases hc
    have hS2 : zZ0 l (SJ j ++ [N.getD j default]) := by
     refine ⟨List.nodup_append.2 ⟨g2.1, by simp, fun a ha b hb => ?_⟩, fun x hx => ?_⟩
     ·rw [zyh] at hb; subst hb; intro hc; exact hnS (hc ▸ ha)
     ·rcases List.mem_append.1 hx with hx | hx
      ·exact g2.2 x hx
      ·rw [zyh] at hx; subst hx
       exact List.mem_map.2 ⟨_, zAi (show i < l.length by omega), hin⟩
    have hgo := (zV2 h (f + 1) (SJ j ++ [N.getD j default]) i (by omega) hS2).1;rw [hin, <- hs] at hgo;have w3 : (oKm (SJ j ++ [N.getD j default])) = .mp ⟨none, (SJ j).length + 1, dK (SJ j ++ [N.getD j default]), fK, none⟩ [] := by simp only [oKm, zye, List.length_singleton]
    have ihj : FnM prog 216 (fun ds os d os' => ds = [eStr (N.getD j default), .fp [yBx l], .loc 1000 0, .loc 1002 0] /\ os = [oSn, .mp ⟨none, (SJ j).length + 1, dK (SJ j ++ [N.getD j default]), fK, none⟩ [], oVi l] /\ d = .tup [] /\ os' = zAy 1000 [oSn, oKm (SJ (j + 1)), oVi l]) :=
     ⟨ih.call, fun ds os d os' ⟨e1, e2, e3, e4⟩ => ih.ok ds os d os' ⟨_, i, ⟨hS2, by omega, by omega⟩, by rw [hin]; exact e1, by rw [w3]; exact e2, e3, by rw [hin, <- hs]; exact e4⟩⟩
    repeat' (first | refine wB ?_ | refine zC (by simp only [go_sem, w0, w1, w2]; rfl) qR ?_ ?_ | refine zSb (by simp only [go_sem, w0, w1, w2]; rfl) ?_ (by simp only [go_sem, w0, w1, w2]; rfl) ?_ | exact qT | exact qP | fail)
    (refine zAa qS qC qC ?_ ?_ <;> intro hb hc <;> try (simp at hc; done))
    repeat' (first | refine wB ?_ | refine zC (by simp only [go_sem, w0, w1, w2]; rfl) qR ?_ ?_ | refine zIi (by simp only [go_sem, w0, w1, w2]; rfl) ?_ ?_ ?_ | refine zB7 [1000, 1001, 1002] ihj (by first | (simp only [go_sem, w0, w1, w2]; done) | (simp only [go_sem, w0, w1, w2]; rfl)) qR (by simp only [go_sem, w0, w1, w2]; first | done | rfl) (by first | (simp only [go_sem, w0, w1, w2]; done) | rfl) (by first | (simp only [go_sem, w0, w1, w2]; done) | (simp only [go_sem, w0, w1, w2]; rfl)) ?_ ⟨rfl, rfl, rfl, rfl⟩ (by simp only [go_sem, w0, w1, w2]; rfl) ?_ | exact qT | fail)
    ·exact ⟨Nat.lt_of_le_of_lt g3 (by decide), trivial⟩
    refine zL (j + 1, ()) ?_ ?_ ⟨rfl, qL, qL⟩
    ·exact ⟨by simp only; omega, hgo⟩
    ·show N.length - (j + 1) < N.length - j
     omega
   ·rw [if_pos hc] at hs
    have w0 : dK (SJ j) (.s (N.getD j default)) = true := hc
    repeat' (first | refine wB ?_ | refine zC (by simp only [go_sem, w0]; rfl) qR ?_ ?_ | refine zSb (by simp only [go_sem, w0]; rfl) ?_ (by simp only [go_sem, w0]; rfl) ?_ | exact qT | exact qP | fail)
    (refine zAa qS qC qC ?_ ?_ <;> intro hb hc <;> try (simp at hc; done))
    repeat' (first | refine wA ?_ | exact qT | fail)
    refine zK (o' := oKm (SJ (j + 1))) 1001 qR (zC2 (by rw [hs]; rfl)) ?_;refine zL (j + 1, ()) ?_ ?_ ⟨rfl, qL, qL⟩
    ·exact ⟨by simp only; omega, by rw [hs]; exact g2⟩
    ·show N.length - (j + 1) < N.length - j
     omega
  ·have hj : j = N.length := by omega
   subst hj
   repeat' (first | refine zF qR ?_ | fail)
   refine zBr qR ?_ ?_
   ·exact SLe.refl _
   ·exact qO
theorem yFb : (.mp ⟨none, 0, fun _ => false, fK, none⟩ [] : OB) = oKm [] := by simp only [oKm, List.length_nil, yDf]
theorem K179 : zZv prog 179 h00 [] (fun ds os O => ∃ (l : List Offer) (k : Nat), (zL1 l /\ k < l.length) /\ ds = [yBx l, eStr (l.getD k default).Code] /\ os = [] /\ O = fun d o' => ∃ ks : List ByteArray, (ks.any fun y => (l.getD k default).Code == y) = false /\ d = strs ks /\ o' = []) := by
 refine zFn call179 func179 rfl ntmps179 ?_;rintro ds os O ⟨l, k, ⟨h, hk⟩, rfl, rfl, rfl⟩;refine ⟨by simp, by simp, fun F w0 han => ?_⟩;obtain ⟨hv1, hv2⟩ := zV2 h (k + 1) [] k hk ⟨List.nodup_nil, fun x hx => by cases hx⟩
 have hK : FnM prog 216 (fun ds os d os' => ds = [eStr (l.getD k default).Code, .fp [yBx l], .loc 1000 0, .loc 1002 0] /\ os = [oSn, .mp ⟨none, 0, fun _ => false, fK, none⟩ [], oVi l] /\ d = .tup [] /\ os' = zAy 1000 [oSn, oKm (zMg l (k + 1) [] (l.getD k default).Code), oVi l]) :=
  ⟨(K216 l h k).call, fun ds os d os' ⟨e1, e2, e3, e4⟩ => (K216 l h k).ok ds os d os' ⟨[], k, ⟨⟨List.nodup_nil, fun x hx => by cases hx⟩, hk, zyj _⟩, e1, by rw [<- yFb]; exact e2, e3, e4⟩⟩
 have hL : (zMg l (k + 1) [] (l.getD k default).Code).Nodup /\ (zMg l (k + 1) [] (l.getD k default).Code).length <= 10 := ⟨hv1.1, by have := hv1.len h; omega⟩
 have hne : ∀ ks : List ByteArray, ks.Perm (zMg l (k + 1) [] (l.getD k default).Code) -> (ks.any fun y => (l.getD k default).Code == y) = false := fun ks hp => by
  rw [List.any_eq_false];intro x hx hc;rw [beq_iff_eq] at hc
  rcases hv2 x (hp.mem_iff.1 hx) with hx | ⟨j, hj, hjx⟩
  ·cases hx
  ·have h1 := zZd hk
   have h2 := zZd (show j < l.length by omega);have := zIx h.nd h1 (h2.trans (by rw [hjx, <- hc]));omega
 generalize zMg l (k + 1) [] (l.getD k default).Code = L at hK hL hne
 repeat' (first | refine zBc 0 qS ?_ | refine wA ?_ | refine zFe (fK) qS qS ?_ | refine zB7 [2, 1, 3] hK qF qR qD (by first | (simp only [go_sem]; done) | rfl) qF ?_ ⟨rfl, rfl, rfl, rfl⟩ qS ?_ | exact qT | fail)
 repeat' (first | refine zBc 1 qS ?_ | refine zG K218 qD ?_ ⟨_, rfl, rfl⟩ qS ?_ | exact zz0 | fail)
 refine zIj [] K217 qR qF qR qF ?_ ⟨L, hL, rfl, rfl, rfl⟩ ?_
 ·exact trivial
 rintro d os' ⟨ks, hp, rfl, rfl⟩;refine ⟨_, by simp only [go_sem]; rfl, ?_⟩
 repeat' (first | refine wA ?_ | exact zz0 | fail)
 refine zKe (strs ks) [] ?_ qR qS ?_ ?_
 ·exact ⟨ks, hne ks hp, rfl, rfl⟩
 ·exact SLe.refl _
 ·exact qO
theorem yJt {a b : ByteArray} (h : a ≠ b) : (a == b) = false := by rw [beq_eq_false_iff_ne]; exact h
theorem yC3 {l : List Offer} (h : zL1 l) {y : ByteArray} (hy : dK (zFu l) (.s y) = true) : ∃ k, k < l.length /\ (l.getD k default).Code = y := by
 have := List.contains_iff_mem.1 (show (zFu l).contains y = true from hy);obtain ⟨o, ho, rfl⟩ := List.mem_map.1 this;obtain ⟨k, hk, rfl⟩ := List.getElem_of_mem ho;exact ⟨k, hk, by rw [zz2, zz5 hk]; rfl⟩
theorem K129 : FnOK prog 129 (fun ds d => ∃ l : List Offer, zL1 l /\ ds = [zAj 5 zAt l] /\ d = eInt 0) := by
 refine zAb call129 func129 rfl ntmps129 ?_;rintro ds d ⟨l, h, rfl, rfl⟩;refine ⟨by simp, fun w0 => ?_⟩;have f0 := zyq (show ¬ (60 : Int) < (l.length : Int) from by have := h.len; omega);refine zBf 0 rfl fun hl => ?_
 repeat' (first | refine wB ?_ | refine zC (by simp only [go_sem, f0]; rfl) qR ?_ ?_ | exact qT | fail)
 (refine zAa qS qC qC ?_ ?_ <;> intro hb hc <;> try (simp at hc; done))
 repeat' (first | refine wA ?_ | exact qT | fail)
 refine zH [0, 13, 14] (fun x : Nat × Unit => [(15, .int .i64 x.1)]) (fun x => []) (fun x => x.1 <= l.length) (fun x => l.length - x.1) (0, ()) (fun x => qS) ?_ qL qL ?_
 ·exact zz7 _
 rintro ⟨k, _⟩ hk;simp only at hk
 repeat' (first | refine wA ?_ | exact qT | fail)
 (refine zAa qS qC qC ?_ ?_ <;> intro hb hc <;> try (simp at hc; done))
 ·have hkl : k < l.length := by assumption
  obtain ⟨hg, hcd⟩ := h.off _ (zAi hkl);have c1 := hcd.code;have hav := h.asc
  rcases k with _ | k
  ·have g0 : decide ((0 : Int) < ((0 : Nat) : Int)) = false := rfl
   repeat' (first | refine wB ?_ | refine zC (by simp only [go_sem, c1, g0]; rfl) qR ?_ ?_ | refine zM (by simp only [go_sem, c1, g0]; rfl) qR ?_ ?_ | refine zJ qK qK ?_ | refine zG yKw (by simp only [go_sem, c1, g0]; first | done | rfl) ?_ ⟨(l.getD 0 default).Code, hcd.asc, rfl, rfl⟩ (by simp only [go_sem, c1, g0]; rfl) ?_ | refine zG K174 (by simp only [go_sem, c1, g0]; first | done | rfl) ?_ ⟨l.getD 0 default, hg, rfl, rfl⟩ (by simp only [go_sem, c1, g0]; rfl) ?_ | (refine zAa (by simp only [go_sem, c1, g0]; rfl) qC qC ?_ ?_ <;> intro hb hc <;> try (simp at hc; done)) | refine zL (1,()) ?_ ?_ ⟨rfl, qL, qL⟩ | exact qT | omega | exact qP | fail)
   all_goals skip
  ·obtain ⟨a1, a2⟩ := hav k hkl
   have g0 : decide ((0 : Int) < ((k + 1 : Nat) : Int)) = true := zyr (by omega);have e1 : IntKind.i64.wrap (((k + 1 : Nat) : Int) - 1) = (k : Int) := by rw [w64]; omega
   have e2 := yJt a2
   repeat' (first | refine wB ?_ | refine zC (by simp only [go_sem, c1, g0, e1, e2, a1, Bool.true_or, zya]; rfl) qR ?_ ?_ | refine zM (by simp only [go_sem, c1, g0, e1, e2, a1, Bool.true_or, zya]; rfl) qR ?_ ?_ | refine zJ qK qK ?_ | refine zG yKw (by simp only [go_sem, c1, g0, e1, e2, a1, Bool.true_or, zya]; first | done | rfl) ?_ ⟨(l.getD (k+1) default).Code, hcd.asc, rfl, rfl⟩ (by simp only [go_sem, c1, g0, e1, e2, a1, Bool.true_or, zya]; rfl) ?_ | refine zG K174 (by simp only [go_sem, c1, g0, e1, e2, a1, Bool.true_or, zya]; first | done | rfl) ?_ ⟨l.getD (k+1) default, hg, rfl, rfl⟩ (by simp only [go_sem, c1, g0, e1, e2, a1, Bool.true_or, zya]; rfl) ?_ | (refine zAa (by simp only [go_sem, c1, g0, e1, e2, a1, Bool.true_or, zya]; rfl) qC qC ?_ ?_ <;> intro hb hc <;> try (simp at hc; done)) | refine zL (k+2,()) ?_ ?_ ⟨rfl, qL, qL⟩ | exact qT | omega | exact qP | fail)
   all_goals skip
 ·repeat' (first | refine zBc 0 qS ?_ | refine wA ?_ | refine zG K175 qD ?_ ⟨l, h, rfl, rfl⟩ qS ?_ | refine zF0 qS qS qS ?_ | refine zF qR ?_ | exact qT | fail)
  refine zH [0, 6, 62] (fun x : (MK -> Bool) × Option MK × Nat => []) (fun x => [(1, .mp ⟨none, l.length, dK (zFu l), zR5 l, some (.iter x.2.2 x.1 x.2.1)⟩ [])]) (fun x => True) (fun x => x.2.2) ((fun _ => false), none, l.length) (fun x => qS) ?_ qL qL ?_
  ·exact trivial
  rintro ⟨V, cur, c⟩ _
  repeat' (first | refine wA ?_ | exact rfl | fail)
  refine zM9 qS qS qR (fun hdone => ?_) (fun y c' hlt hdom hV => ?_)
  ·repeat' (first | refine wA ?_ | exact zz0 | fail)
   (refine zAa qS qC qC ?_ ?_ <;> intro hb hc <;> try (simp at hc; done))
   repeat' (first | refine wA ?_ | refine zF0 qS qS qS ?_ | refine zF qR ?_ | exact qT | fail)
   refine zH [0, 6, 71] (fun x : (MK -> Bool) × Option MK × Nat × Unit => []) (fun x => [(2, .mp ⟨none, l.length, dK (zFu l), zR5 l, some (.iter x.2.2.1 x.1 x.2.1)⟩ [])]) (fun x => True) (fun x => x.2.2.1) ((fun _ => false), none, l.length, ()) (fun x => qS) ?_ qL qL ?_
   ·exact trivial
   rintro ⟨V2, cur2, c2, _⟩ _
   repeat' (first | refine wA ?_ | exact rfl | fail)
   refine zM9 qS qS qR (fun hdone2 => ?_) (fun y c' hlt hdom hV => ?_)
   ·repeat' (first | refine wA ?_ | exact zz0 | fail)
    (refine zAa qS qC qC ?_ ?_ <;> intro hb hc <;> try (simp at hc; done))
    repeat' (first | refine wA ?_ | refine zE qR ?_ | refine zF qR ?_ | exact qT | refine zAc.int ?_ | fail)
    all_goals skip
   ·obtain ⟨k2, hk2, hk2c⟩ := yC3 h hdom
    repeat' (first | refine wA ?_ | exact zz0 | fail)
    (refine zAa qS qC qC ?_ ?_ <;> intro hb hc <;> try (simp at hc; done))
    repeat' (first | refine wA ?_ | refine zNa qS qS qS ?_ | exact qT | fail)
    refine zIj [] K179 qR qF qR qF ?_ ⟨l, k2, ⟨h, hk2⟩, by rw [hk2c]; rfl, rfl, rfl⟩ ?_
    ·exact trivial
    rintro d os' ⟨ks, hks, rfl, rfl⟩;rw [hk2c] at hks;refine ⟨_, by simp only [go_sem]; rfl, ?_⟩
    repeat' (first | apply zA | refine zC (by simp only [go_sem, hks]; rfl) qR ?_ ?_ | refine zG K178 (by simp only [go_sem, hks]; first | done | rfl) ?_ ⟨ks, y, rfl, rfl⟩ (by simp only [go_sem, hks]; rfl) ?_ | exact zz0 | fail)
    (refine zAa qS qC qC ?_ ?_ <;> intro hb hc <;> try (simp at hc; done))
    repeat' (first | refine wA ?_ | fail)
    refine zL (zC9 (.s y) V2, some (.s y), c', ()) ?_ ?_ ⟨rfl, qL, qL⟩
    ·exact trivial
    ·exact hlt
  ·obtain ⟨k2, hk2, hk2c⟩ := yC3 h hdom
   have hvy : zR5 l (.s y) = strs (l.getD k2 default).Needs := by rw [<- hk2c, <- zLi h hk2]; rfl
   have hv : ∀ i, i < (l.getD k2 default).Needs.length -> FnV prog 177 [.fp [yBx l]] [eStr ((l.getD k2 default).Needs.getD i default)] (.bool (!(zFu l).contains ((l.getD k2 default).Needs.getD i default))) := fun i _ => ⟨_, K177, _, _, rfl, rfl⟩
   have hany : ((l.getD k2 default).Needs.any fun c => !(zFu l).contains c) = false := by
    rw [List.any_eq_false];intro x hx;obtain ⟨j, hj, hjx⟩ := h.lead k2 hk2 x hx;have : (zFu l).contains x = true := List.contains_iff_mem.2 (List.mem_map.2 ⟨_, zAi (show j < l.length by omega), hjx⟩);rw [this]; simp
   repeat' (first | refine wA ?_ | exact zz0 | fail)
   (refine zAa qS qC qC ?_ ?_ <;> intro hb hc <;> try (simp at hc; done))
   repeat' (first | refine wB ?_ | refine zC (by simp only [go_sem, hvy, hany]; rfl) qR ?_ ?_ | refine zG K176 (by simp only [go_sem, hvy, hany]; first | done | rfl) ?_ ⟨(l.getD k2 default).Needs, 177, [.fp [yBx l]], (fun c => !(zFu l).contains c), hv, rfl, rfl⟩ (by simp only [go_sem, hvy, hany]; rfl) ?_ | refine zNa (by simp only [go_sem, hvy, hany]; rfl) (by simp only [go_sem, hvy, hany]; rfl) (by simp only [go_sem, hvy, hany]; rfl) ?_ | exact qT | fail)
   (refine zAa qS qC qC ?_ ?_ <;> intro hb hc <;> try (simp at hc; done))
   repeat' (first | refine wA ?_ | fail)
   refine zL (zC9 (.s y) V, some (.s y), c') ?_ ?_ ⟨rfl, qL, qL⟩
   ·exact trivial
   ·exact hlt
end Go.Sx
namespace Go.Sx
open Go.Proofs Tryz
section
variable {P : Program} {F : List Nat} {w0 : Base} {s : St} {Q : Exit -> Act -> World -> Prop} {ops : Array Oper} {rest : List Oper}
theorem yHe {f t : Nat} {x y : Operand} {b c : ByteArray} {kr : IntKind} {n : Int} {tys : Array Nat} {ty : Nat} {pos : String} {af : Array Edge} {s' : St} (hx : unG s x = .str b) (hy : unG s y = .str c) (hg : zAl (gCs s [x, y] []))
  (hc : ∀ w, (callFunc f #[.string b, .string c]).run P w = .ok (.value (.int kr n)) w) (hs : zCp s t (.int kr n) = some s')
  (hn : zAg P F w0 ops Q rest s') : zAg P F w0 ops Q (⟨some t, .call ⟨.value (.func f), #[x, y], tys⟩, ty, pos, af, none⟩ :: rest) s := fun h e a w D => by
 obtain ⟨ht, rfl⟩ := zAp hs;have h1 : rep h (unG s x) e (a.eval x) := D.unG hg (by simp);have h2 : rep h (unG s y) e (a.eval y) := D.unG hg (by simp);rw [hx] at h1;rw [hy] at h2;simp only [rep] at h1 h2;refine zAe rfl fun K hK => ?_;unfold Oper.wp
 have hex : (execOp a.eval ⟨some t, .call ⟨.value (.func f), #[x, y], tys⟩, ty, pos, af, none⟩).run P w = .ok (.value (.int kr n)) w := by
  simp [execOp, resolve, Deferred.ofValue, Act.eval, invoke];have := hc w;rw [<- h1, <- h2] at this;simpa [Act.eval] using this
 rw [hex];exact hK _ _ (hn _ _ _ _ (D.put ht (by simp only [rep])))
end
open Go.Proofs Go.RowKit
attribute [local irreducible] Run zAg zAs OpT zAc SLe OLe
theorem zZc : ∀ a b : List UInt8, Op.bytesLess a b = true -> Lib.compareBytes a b = -1
 | [], [], h => by simp [Op.bytesLess] at h
 | [], _ :: _, _ => rfl
 | _ :: _, [], h => by simp [Op.bytesLess] at h
 | a :: x, b :: y, h => by
  simp only [Op.bytesLess, Bool.or_eq_true, zyf, zz3, beq_iff_eq] at h;unfold Lib.compareBytes
  rcases h with h | ⟨rfl, h⟩
  ·rw [if_pos h]
  ·rw [if_neg (UInt8.lt_irrefl a), if_neg (UInt8.lt_irrefl a)]
   exact zZc x y h
theorem yId (a b : ByteArray) (w : World) : (callFunc 237 #[.string a, .string b]).run prog w = .ok (.value (.int .i64 (Lib.compareBytes a.data.toList b.data.toList))) w := by
 rw [run_callFunc_extern func237 qK qK qK (e := Extern.BytealgCompare.compare) qK, Lib.run_compareString];simp [Result.andThen]
theorem K219 : FnOK prog 219 (fun ds d => ∃ a b, ds = [eStr a, eStr b] /\ d = eInt (Lib.compareBytes a.data.toList b.data.toList)) := by
 refine zAb call219 func219 rfl ntmps219 ?_;rintro ds d ⟨a, b, rfl, rfl⟩;refine ⟨by simp, fun w0 => ?_⟩
 repeat' (first | refine wA ?_ | exact qT | fail)
 refine yHe qF qF ?_ (yId a b) qS ?_
 ·exact trivial
 repeat' (first | refine wA ?_ | refine zE qR ?_ | exact qT | refine zAc.int ?_ | fail)
theorem K180 : FnOK prog 180 (fun ds d => ∃ a b, ds = [eStr a, eStr b] /\ d = eInt (Lib.compareBytes a.data.toList b.data.toList)) := by
 refine zAb call180 func180 rfl ntmps180 ?_;rintro ds d ⟨a, b, rfl, rfl⟩;refine ⟨by simp, fun w0 => ?_⟩
 repeat' (first | refine wA ?_ | refine zG K219 qD ?_ ⟨_, _, rfl, rfl⟩ qS ?_ | refine zE qR ?_ | exact qT | refine zAc.int ?_ | fail)
theorem K130 : FnOK prog 130 (fun ds d => ∃ n, ds = [eInt n] /\ d = .bool (decide (0 <= n) && decide (n <= 100000))) := by
 refine zAb call130 func130 rfl ntmps130 ?_;rintro ds d ⟨n, rfl, rfl⟩;refine ⟨by simp, fun w0 => ?_⟩
 repeat' (first | refine wA ?_ | refine zC qS qR ?_ ?_ | refine zE qR ?_ | exact qT | exact zAc.bool rfl | exact qP | fail)
structure zEw (c : Case) : Prop where
 prog : POk 4 c.Programme
 chk : zFx 4 c.Programme = 0
 scale : zA0 c.Scale = true
 cat : zL1 c.Offers
 items : c.Items.length <= 4
 has : c.Has.length <= 3
 terms : 1 <= c.Terms /\ c.Terms <= 4
 first : 0 <= c.First /\ c.First <= 900
 most : 0 <= c.Most /\ c.Most <= 600
 day : (0 <= c.Day /\ c.Day <= 100000) /\ zK3 c.Day <= c.First
 it : ∀ x ∈ c.Items, (zDy x.Code c.Offers).isSome = true /\ c.First <= x.Term /\ x.Term < c.First + c.Terms
 ord : ∀ k, k + 1 < c.Items.length -> (c.Items.getD k default).Term < (c.Items.getD (k + 1) default).Term \/ ((c.Items.getD k default).Term = (c.Items.getD (k + 1) default).Term /\ Op.bytesLess (c.Items.getD k default).Code.toList (c.Items.getD (k + 1) default).Code.toList = true)
theorem yE5 {c : Case} (h : zEw c) {k : Nat} (hk : k + 1 < c.Items.length) : decide ((0 : Int) <= if zLt (c.Items.getD k default).Term (c.Items.getD (k + 1) default).Term = 0 then Lib.compareBytes (c.Items.getD k default).Code.data.toList (c.Items.getD (k + 1) default).Code.data.toList else zLt (c.Items.getD k default).Term (c.Items.getD (k + 1) default).Term) = false := by
 apply zyq
 rcases h.ord k hk with h1 | ⟨h1, h2⟩
 ·have : zLt (c.Items.getD k default).Term (c.Items.getD (k + 1) default).Term = -1 := by unfold zLt; rw [if_pos h1]
  rw [this, if_neg (by decide)]; decide
 ·have : zLt (c.Items.getD k default).Term (c.Items.getD (k + 1) default).Term = 0 := by unfold zLt; rw [if_neg (by omega), if_neg (by omega)]
  rw [this, if_pos rfl];have h3 := zZc _ _ (show Op.bytesLess (c.Items.getD k default).Code.data.toList (c.Items.getD (k + 1) default).Code.data.toList = true from by rw [<- ByteArray.toList_eq, <- ByteArray.toList_eq]; exact h2);rw [h3]; decide
theorem K131 : FnOK prog 131 (fun ds d => ∃ c : Case, zEw c /\ ds = [zJ6 c] /\ d = eInt 0) := by
 refine zAb call131 func131 rfl ntmps131 ?_;rintro ds d ⟨c, h, rfl, rfl⟩;refine ⟨by simp, fun w0 => ?_⟩;have hl := h.items
 repeat' (first | refine wA ?_ | exact qT | fail)
 refine zH [1, 9, 10] (fun x : Nat × Unit => [(11, .int .i64 x.1)]) (fun x => []) (fun x => x.1 <= c.Items.length) (fun x => c.Items.length - x.1) (0, ()) (fun x => qS) ?_ qL qL ?_
 ·exact zz7 _
 rintro ⟨k, _⟩ hk;simp only at hk;have ht := h.terms;have hf := h.first
 repeat' (first | refine wA ?_ | exact qT | fail)
 (refine zAa qS qC qC ?_ ?_ <;> intro hb hc <;> try (simp at hc; done))
 ·have hkl : k < c.Items.length := by assumption
  obtain ⟨i1, i2, i3⟩ := h.it _ (zAi hkl);have g1 := zyq (show ¬ (c.Items.getD k default).Term < c.First by omega);have g2 : decide (IntKind.i64.wrap (c.First + c.Terms) <= (c.Items.getD k default).Term) = false := zyq (by rw [w64]; omega)
  rcases k with _ | k
  ·repeat' (first | refine wB ?_ | refine zC (by simp only [go_sem, i1, g1, g2]; rfl) qR ?_ ?_ | refine zG K28 (by simp only [go_sem, i1, g1, g2]; first | done | rfl) ?_ ⟨c.Offers, (c.Items.getD 0 default).Code, rfl, rfl⟩ (by simp only [go_sem, i1, g1, g2]; rfl) ?_ | (refine zAa (by simp only [go_sem, i1, g1, g2]; rfl) qC qC ?_ ?_ <;> intro hb hc <;> try (simp at hc; done)) | refine zF qR ?_ | refine zL (1,()) ?_ ?_ ⟨rfl, qL, qL⟩ | exact qT | omega | exact qP | fail)
   all_goals skip
  ·have hn := yE5 h hkl
   have e1 : IntKind.i64.wrap (((k + 1 : Nat) : Int) - 1) = (k : Int) := by rw [w64]; omega
   repeat' (first | refine wB ?_ | refine zC (by simp only [go_sem, i1, g1, g2, e1, hn, zya]; rfl) qR ?_ ?_ | refine zM (by simp only [go_sem, i1, g1, g2, e1, hn, zya]; rfl) qR ?_ ?_ | refine zJ qK qK ?_ | refine zG K28 (by simp only [go_sem, i1, g1, g2, e1, hn, zya]; first | done | rfl) ?_ ⟨c.Offers, (c.Items.getD (k+1) default).Code, rfl, rfl⟩ (by simp only [go_sem, i1, g1, g2, e1, hn, zya]; rfl) ?_ | refine zP yJp (by simp only [go_sem, i1, g1, g2, e1, hn, zya]; first | done | rfl) ?_ ⟨_, _, rfl, rfl⟩ (by simp only [go_sem, i1, g1, g2, e1, hn, zya]; rfl) ?_ | refine zP K180 (by simp only [go_sem, i1, g1, g2, e1, hn, zya]; first | done | rfl) ?_ ⟨_, _, rfl, rfl⟩ (by simp only [go_sem, i1, g1, g2, e1, hn, zya]; rfl) ?_ | refine zP yKx (by simp only [go_sem, i1, g1, g2, e1, hn, zya]; first | done | rfl) ?_ ⟨_, _, rfl, rfl⟩ (by simp only [go_sem, i1, g1, g2, e1, hn, zya]; rfl) ?_ | (refine zAa (by simp only [go_sem, i1, g1, g2, e1, hn, zya]; rfl) qC qC ?_ ?_ <;> intro hb hc <;> try (simp at hc; done)) | refine zF qR ?_ | refine zL (k+2,()) ?_ ?_ ⟨rfl, qL, qL⟩ | exact qT | omega | exact qP | fail)
   all_goals skip
 ·repeat' (first | refine wA ?_ | refine zE qR ?_ | refine zF qR ?_ | exact qT | refine zAc.int ?_ | fail)
  all_goals skip
theorem K67 : FnOK prog 67 (fun ds d => ∃ c : Case, zEw c /\ ds = [zJ6 c] /\ d = eInt 0) := by
 have K40x := K40 4 (by omega);refine zAb call67 func67 rfl ntmps67 ?_;rintro ds d ⟨c, h, rfl, rfl⟩;refine ⟨by simp, fun w0 => ?_⟩;have h1 := h.items;have h2 := h.has;have h3 := h.terms;have h4 := h.first;have h5 := h.most;have h6 := h.day;have f1 := zyq (show ¬ (10 : Int) < (c.Items.length : Int) by omega);have f2 : decide ((10 : Int) < IntKind.i64.wrap ((c.Has.length : Int) + (c.Items.length : Int))) = false := zyq (by rw [w64]; omega);have f3 := zyq (show ¬ c.Terms < 1 by omega);have f4 := zyq (show ¬ 4 < c.Terms by omega);have f5 := zyq (show ¬ c.First < 0 by omega);have f6 := zyq (show ¬ 900 < c.First by omega);have f7 := zyq (show ¬ c.Most < 0 by omega);have f8 := zyq (show ¬ 600 < c.Most by omega);have f9 := zyr h6.1.1;have f10 := zyr h6.1.2;have f11 := zyq (show ¬ c.First < zK3 c.Day by omega);have s1 : (if zA0 c.Scale then (0 : Int) else 10) = 0 := by rw [if_pos h.scale]
 have s2 := h.chk
 repeat' (first | refine wB ?_ | refine zC (by simp only [go_sem, s1, s2]; rfl) qR ?_ ?_ | refine zM (by simp only [go_sem, s1, s2]; rfl) qR ?_ ?_ | refine zJ qK qK ?_ | refine zP K40x (by simp only [go_sem, s1, s2]; first | done | rfl) ?_ ⟨c.Programme, h.prog, rfl, rfl⟩ (by simp only [go_sem, s1, s2]; rfl) ?_ | refine zP K41 (by simp only [go_sem, s1, s2]; first | done | rfl) ?_ ⟨c.Scale, rfl, rfl⟩ (by simp only [go_sem, s1, s2]; rfl) ?_ | refine zP K129 (by simp only [go_sem, s1, s2]; first | done | rfl) ?_ ⟨c.Offers, h.cat, rfl, rfl⟩ (by simp only [go_sem, s1, s2]; rfl) ?_ | exact qT | fail)
 refine zH [1] (fun x : Nat × Unit => [(14, ints [0, 0, 0]), (15, .int .i64 3), (16, .int .i64 x.1)]) (fun x => []) (fun x => x.1 <= 3) (fun x => 3 - x.1) (0, ()) (fun x => qS) ?_ qL qL ?_
 ·exact zz7 _
 rintro ⟨k, _⟩ hk;simp only at hk
 match k, hk with
 | 0, _ =>
  repeat' (first | refine wA ?_ | refine zC qS qR ?_ ?_ | (refine zAa qS qC qC ?_ ?_ <;> intro hb hc <;> try (simp at hc; done)) | refine zL (1,()) ?_ ?_ ⟨rfl, qL, qL⟩ | exact qT | omega | exact qP | fail)
  all_goals skip
 | 1, _ =>
  repeat' (first | refine wA ?_ | refine zC qS qR ?_ ?_ | (refine zAa qS qC qC ?_ ?_ <;> intro hb hc <;> try (simp at hc; done)) | refine zL (2,()) ?_ ?_ ⟨rfl, qL, qL⟩ | exact qT | omega | exact qP | fail)
  all_goals skip
 | 2, _ =>
  repeat' (first | refine wA ?_ | refine zC qS qR ?_ ?_ | (refine zAa qS qC qC ?_ ?_ <;> intro hb hc <;> try (simp at hc; done)) | refine zL (3,()) ?_ ?_ ⟨rfl, qL, qL⟩ | exact qT | omega | exact qP | fail)
  all_goals skip
 | 3, _ =>
  repeat' (first | refine wB ?_ | refine zC (by simp only [go_sem, f1, f2, f3, f4, f5, f6, f7, f8, f9, f10, f11]; rfl) qR ?_ ?_ | refine zM (by simp only [go_sem, f1, f2, f3, f4, f5, f6, f7, f8, f9, f10, f11]; rfl) qR ?_ ?_ | refine zJ qK qK ?_ | refine zG K130 (by simp only [go_sem, f1, f2, f3, f4, f5, f6, f7, f8, f9, f10, f11]; first | done | rfl) ?_ ⟨c.Day, rfl, rfl⟩ (by simp only [go_sem, f1, f2, f3, f4, f5, f6, f7, f8, f9, f10, f11]; rfl) ?_ | refine zP K44 (by simp only [go_sem, f1, f2, f3, f4, f5, f6, f7, f8, f9, f10, f11]; first | done | rfl) ?_ ⟨c.Day, rfl, rfl⟩ (by simp only [go_sem, f1, f2, f3, f4, f5, f6, f7, f8, f9, f10, f11]; rfl) ?_ | refine zG K131 (by simp only [go_sem, f1, f2, f3, f4, f5, f6, f7, f8, f9, f10, f11]; first | done | rfl) ?_ ⟨c, h, rfl, rfl⟩ (by simp only [go_sem, f1, f2, f3, f4, f5, f6, f7, f8, f9, f10, f11]; rfl) ?_ | (refine zAa (by simp only [go_sem, f1, f2, f3, f4, f5, f6, f7, f8, f9, f10, f11]; rfl) qC qC ?_ ?_ <;> intro hb hc <;> try (simp at hc; done)) | refine zE qR ?_ | refine zF qR ?_ | exact qT | refine zAc.int ?_ | fail)
  all_goals skip
end Go.Sx
