/- Lemmas on the judge: P20, P2, P3a, P3. -/
import Derived.Test.YtmbocmonhcplhaaGreatA3
import Derived.Test.YtmbocmonhcplhaaGreatP4
import Derived.Test.YtmbocmonhcplhaaGreatS4
import Derived.Test.YtmbocmonhcplhaaGreatJ36
import Derived.Shelf.SortM.Plain
import Derived.Shelf.SortM.SortNone
import Derived.Shelf.SlGeneric
import Derived.Ground.SlgmProg
import Derived.Test.YtmbocmonhcplhaaGreatProg
import Derived.Test.YtmbocmonhcplhaaGreatJ41
set_option linter.all false
set_option maxHeartbeats 20000000
set_option maxRecDepth 8000
namespace Go.Sx
open Go.Proofs
abbrev blC (a b : ByteArray) : Prop := Op.bytesLess a.toList b.toList = true
theorem zY6 {i j : Nat} (hij : i < j) (hj : j < 6) : blC (zGz.getD i default) (zGz.getD j default) := by
 have key : ∀ j, j < 6 -> ∀ i, i < j -> Op.bytesLess (zGz.getD i default).data.toList (zGz.getD j default).data.toList = true := by decide
 have := key j hj i hij;rw [<- ByteArray.toList_eq, <- ByteArray.toList_eq] at this;exact this
structure CAk (k : Nat) (l : List Offer) : Prop where
 off : ∀ o ∈ l, yG1 o /\ ∃ j, j < k /\ o.Code = zGz.getD j default
 asc : l.Pairwise fun a b => blC a.Code b.Code
 lead : ∀ i, i < l.length -> ∀ n ∈ (l.getD i default).Needs, ∃ j, j < i /\ (l.getD j default).Code = n
theorem CAk.nil : CAk 0 [] := ⟨fun o h => (by cases h), List.Pairwise.nil, fun i h => absurd h (zyi i)⟩
theorem CAk.up {k : Nat} {l : List Offer} (h : CAk k l) : CAk (k + 1) l := ⟨fun o ho => by
 obtain ⟨h1, j, h2, h3⟩ := h.off o ho;exact ⟨h1, j, by omega, h3⟩, h.asc, h.lead⟩
theorem zLo {α : Type} [Inhabited α] (l : List α) (a : α) {i : Nat} (hi : i < l.length) : (l ++ [a]).getD i default = l.getD i default := by
 rw [zz2, zz2, zyb hi]
theorem zYm {α : Type} [Inhabited α] (l : List α) (a : α) : (l ++ [a]).getD l.length default = a := by
 rw [zz2, List.getElem?_append_right (zyj _)]; simp
theorem CAk.snoc {k : Nat} {l : List Offer} (h : CAk k l) (hk : k < 6) {o : Offer} (ho : yG1 o) (hc : o.Code = zGz.getD k default) (hn : ∀ n ∈ o.Needs, ∃ j, j < l.length /\ (l.getD j default).Code = n) : CAk (k + 1) (l ++ [o]) := by
 refine ⟨fun x hx => ?_, ?_, fun i hi n hn2 => ?_⟩
 ·rcases List.mem_append.1 hx with hx | hx
  ·exact h.up.off x hx
  ·rw [zyh] at hx; subst hx
   exact ⟨ho, k, by omega, hc⟩
 ·rw [List.pairwise_append]
  refine ⟨h.asc, by simp, fun a ha b hb => ?_⟩;rw [zyh] at hb; subst hb;obtain ⟨_, j, h2, h3⟩ := h.off a ha;rw [h3, hc];exact zY6 h2 hk
 ·rw [zye, List.length_singleton] at hi
  by_cases hil : i < l.length
  ·rw [zLo l o hil] at hn2
   obtain ⟨j, h1, h2⟩ := h.lead i hil n hn2;exact ⟨j, h1, by rw [zLo l o (by omega)]; exact h2⟩
  ·have : i = l.length := by omega
   subst this;rw [zYm] at hn2;obtain ⟨j, h1, h2⟩ := hn n hn2;exact ⟨j, h1, by rw [zLo l o h1]; exact h2⟩
theorem zJp {α : Type} [Inhabited α] (l : List α) {i : Nat} (hi : i < l.length) : l.getD i default = l[i] := by
 rw [zz2, zz5 hi]; rfl
theorem yA9 {α : Type} [Inhabited α] {R : α -> α -> Prop} {l : List α} (h : l.Pairwise R) {k : Nat} (hk : k + 1 < l.length) : R (l.getD k default) (l.getD (k + 1) default) := by
 rw [zJp l (by omega), zJp l hk];exact List.pairwise_iff_getElem.1 h k (k + 1) (by omega) hk (by omega)
theorem zXa {α : Type} {R : α -> α -> Prop} {l : List α} (h : l.Pairwise R) {a : α} (ha : ∀ x ∈ l, R x a) : (l ++ [a]).Pairwise R := by
 rw [List.pairwise_append];exact ⟨h, by simp, fun x hx b hb => by rw [zyh] at hb; subst hb; exact ha x hx⟩
theorem yHt {α : Type} [Inhabited α] {R : α -> α -> Prop} {l : List α} (h : l.Pairwise R) {i j : Nat} (hij : i < j) (hj : j < l.length) : R (l.getD i default) (l.getD j default) := by
 rw [zJp l (by omega), zJp l hj];exact List.pairwise_iff_getElem.1 h i j (by omega) hj hij
theorem yFa {c : ByteArray} {i j : Nat} {S : List Int} {N : List ByteArray} (h1 : ∀ x ∈ S, 1 <= x /\ x <= 4) (h2 : S.Pairwise (· < ·)) (h3 : N.length <= 2) (h4 : N.Pairwise blC) (hi : i < 6) : yG1 ⟨c, ([5, 6, 3, 10, 5, 20] : List Int).getD i 0, ([2, 1, 0, 30, 200, 3] : List Int).getD j 0, S, N⟩ :=
 ⟨getD_in (P := fun x : Int => 1 <= x /\ x <= 60) (by decide) hi, zI7 (P := fun x : Int => 0 <= x /\ x <= 200) (by decide) (by decide) j, h1, fun _ hk => yA9 h2 hk, h3, fun _ hk => yA9 h4 hk⟩
open Go.Proofs Go.RowKit
attribute [local irreducible] Run zAg zAs zH9 zAc SLe OLe
theorem K76h : ∃ G : List Int -> List Offer, (∀ x : List Int, True -> CAk 6 (G x) /\ (G x).length <= 6) /\ FnOK Tryz.prog 76 (fun ds d => ∃ x, True /\ ds = [lngs x] /\ d = zAj 5 zAt (G x)) := by
 refine zEg Tryz.call76 Tryz.func76 rfl Tryz.ntmps76 (α := List Int) (β := List Offer) (fun _ => True) (fun _ y => CAk 6 y /\ y.length <= 6) (fun x => [lngs x]) (fun _ y => zAj 5 zAt y) ?_;rintro L _;refine ⟨by simp, ?_⟩
 repeat' (first | (refine zD (K' := ?_) (s' := ?_) (fun F w0 fn hE => ?_) ?_; rotate_left 2; focus ((first | apply zB | fail); (repeat' (first | refine wA ?_ | refine zG K75 qD ?_ ⟨rfl, rfl⟩ qS ?_ | exact qT | exact hE | fail)))) | (refine zA3 qS qC qC ?_ ?_ <;> intro hb hc <;> try (simp at hc; done)))
 refine zD (fun _ _ _ hE => zX 4 76 5 (fun i => zAt (([] : List Offer).getD i default)) rfl rfl rfl hE) ?_;refine zDc [0, 2, 3, 4, 5] (fun x : List Offer × Nat × Nat => [(6, .int .i64 x.2.2)]) (fun x => [(0, zD0 L x.2.1), (1, .acc 76 5 x.1.length (fun i => zAt (x.1.getD i default)))]) (fun x => (x.2.2 <= 6 /\ x.1.length <= x.2.2) /\ CAk x.2.2 x.1) (fun x => 6 - x.2.2) ([], 0, 0) (fun x => qS) ?_ qE qE ?_
 ·exact ⟨⟨by simp, by simp⟩, CAk.nil⟩
 rintro ⟨acc, p, k⟩ n ⟨⟨h1, h2⟩, hof⟩ ih;simp only at h1 h2 hof
 repeat' (first | (refine zD (K' := ?_) (s' := ?_) (fun F w0 fn hE => ?_) ?_; rotate_left 2; focus ((first | refine wA ?_ | refine zF qR ?_ | fail); (repeat' (first | refine wA ?_ | refine zC qS qR ?_ ?_ | refine zM qS qR ?_ ?_ | refine zJ qK qK ?_ | refine zO [0] K77 qR qD qZ qF ?_ ⟨L, _, _, (by decide), rfl, rfl, rfl, rfl⟩ qS ?_ | refine zB3 [0] K77 qR qD qZ qF ?_ ⟨L, _, _, (by decide), rfl, rfl, rfl, rfl⟩ qS ?_ | exact hE | (show zAl _; simp only [zAl, go_sem, zB2]; (repeat' apply And.intro) <;> first | exact zz0 | exact (zA7 _ _ _ (by omega)).1 | exact (zA7 _ _ _ (by omega)).2 | (refine Int.lt_of_lt_of_le (zA7 _ _ _ (by omega)).2 (by omega)) | (intros; omega)) | exact qT | exact qP | fail)))) | (refine zA3 qS qC qC ?_ ?_ <;> intro hb hc <;> try (simp at hc; done)))
 ·have := zB2
  refine zQ ih ((acc, ?u2, k + 1)) ?_ ?_ ⟨rfl, qE, qE⟩
  ·exact ⟨⟨by simp only; omega, by simp only; omega⟩, hof.up⟩
  ·simp only; omega
 ·have := zB2
  have b4 := zA7 L (nxA L (nxA L (nxA L p))) 4 (by omega);have b6 := zA7 L (nxA L p) 6 (by omega);generalize nxN L (nxA L (nxA L (nxA L p))) 4 = z at b4 |-;refine zD (fun _ _ _ hE => zCe 2 3 3 1 (fun i => eInt (([] : List Int).getD i default)) rfl rfl (by simp only [List.set]; rfl) rfl hE) ?_;refine zDc [0, 2, 3, 4, 5, 6, 7] (fun x : List Int × Nat × Int => [(8, .int .i64 x.2.2)]) (fun x => [(0, zD0 L x.2.1), (3, .acc 3 1 x.1.length (fun i => eInt (x.1.getD i default)))]) (fun x => (0 <= x.2.2 /\ x.2.2 <= 4) /\ (x.1.length <= 4 /\ (0 < x.2.2 -> (x.1.length : Int) + 1 <= x.2.2)) /\ (∀ y ∈ x.1, (1 <= y /\ y <= 4) /\ (0 < x.2.2 -> y < x.2.2)) /\ x.1.Pairwise (· < ·)) (fun x => (if x.2.2 <= 0 then 0 else (6 - x.2.2).toNat)) ([], nxA L (nxA L (nxA L (nxA L p))), z) (fun x => qS) ?_ qE qE ?_
  ·exact ⟨⟨by simp only; omega, by simp only; omega⟩, ⟨by simp, by simp; omega⟩, fun y hy => (by cases hy), List.Pairwise.nil⟩
  rintro ⟨ls, q, sl⟩ n2 ⟨⟨g1, g2⟩, ⟨g3, g4⟩, g6, g7⟩ ih2;simp only at g1 g2 g3 g4 g6 g7;have e1 : IntKind.i64.wrap (((ls.length + 1 : Nat) : Int) - 1) = (ls.length : Int) := by rw [w64]; omega
  repeat' (first | (refine zD (K' := ?_) (s' := ?_) (fun F w0 fn hE => ?_) ?_; rotate_left 2; focus ((first | refine wB ?_ | refine zF qR ?_ | fail); (repeat' (first | refine wB ?_ | refine zC (by simp only [go_sem, e1, Nat.lt_irrefl, if_false, Nat.sub_self, zya]; rfl) qR ?_ ?_ | refine zO [0] K77 qR (by simp only [go_sem, e1, Nat.lt_irrefl, if_false, Nat.sub_self, zya]; first | done | rfl) (by simp only [go_sem, e1, Nat.lt_irrefl, if_false, Nat.sub_self, zya]) (by first | (simp only [go_sem, e1, Nat.lt_irrefl, if_false, Nat.sub_self, zya]; done) | (simp only [go_sem, e1, Nat.lt_irrefl, if_false, Nat.sub_self, zya]; rfl)) ?_ ⟨L, _, _, (by decide), rfl, rfl, rfl, rfl⟩ (by simp only [go_sem, e1, Nat.lt_irrefl, if_false, Nat.sub_self, zya]; rfl) ?_ | exact hE | (show zAl _; simp only [zAl, go_sem, zB2]; (repeat' apply And.intro) <;> first | exact zz0 | exact (zA7 _ _ _ (by omega)).1 | exact (zA7 _ _ _ (by omega)).2 | (refine Int.lt_of_lt_of_le (zA7 _ _ _ (by omega)).2 (by omega)) | (intros; omega)) | exact qT | exact qP | fail)))) | (refine zA3 qS qC qC ?_ ?_ <;> intro hb hc <;> try (simp at hc; done)))
  ·simp only [zz3, zyf] at hb
   have hsl : 0 < sl := by assumption
   have g5 := g4 hsl;have e5 : IntKind.i64.wrap (sl + 1) = sl + 1 := by rw [w64]; omega
   have h5 : sl < 4 := by
    have := hb.2;simpa using this
   refine zQ ih2 ((ls ++ [sl], ?u4, IntKind.i64.wrap (sl + 1))) ?_ ?_ ⟨rfl, qE, qE⟩
   ·rw [e5]
    refine ⟨⟨by simp only; omega, by simp only; omega⟩, ⟨by simp; omega, by simp; omega⟩, fun y hy => ?_, zXa g7 fun x hx => (g6 x hx).2 hsl⟩
    rcases List.mem_append.1 hy with hy | hy
    ·have := g6 y hy
     exact ⟨this.1, fun _ => by have := this.2 hsl; simp only; omega⟩
    ·rw [zyh] at hy; subst hy; simp only; omega
   ·rw [e5]; simp only; rw [if_neg (by omega), if_neg (by omega)]; omega
  ·have hsl : 0 < sl := by assumption
   have g5 := g4 hsl;refine zQ ih2 ((ls ++ [sl], ?u6, 0)) ?_ ?_ ⟨rfl, qE, qE⟩
   ·refine ⟨⟨by simp only; omega, by simp only; omega⟩, ⟨by simp; omega, by simp⟩, fun y hy => ?_, zXa g7 fun x hx => (g6 x hx).2 hsl⟩
    rcases List.mem_append.1 hy with hy | hy
    ·exact ⟨(g6 y hy).1, fun h => absurd h (by simp)⟩
    ·rw [zyh] at hy; subst hy
     exact ⟨by omega, fun h => absurd h (by simp)⟩
   ·simp only; rw [if_pos (by omega), if_neg (by omega)]; omega
  ·refine zD (fun _ _ _ hE => zCe 2 4 9 1 (fun i => eStr (([] : List ByteArray).getD i default)) rfl rfl (by simp only [List.set]; rfl) rfl hE) ?_
   refine zDc [0, 2, 3, 4, 5, 6, 7] (fun x : List ByteArray × Nat × Nat => [(9, .int .i64 x.2.2)]) (fun x => [(0, zD0 L x.2.1), (4, .acc 9 1 x.1.length (fun i => eStr (x.1.getD i default)))]) (fun x => (x.2.2 <= acc.length /\ x.1.length <= 2) /\ (∀ y ∈ x.1, ∃ j, j < x.2.2 /\ (acc.getD j default).Code = y) /\ x.1.Pairwise blC) (fun x => acc.length - x.2.2) ([], q, 0) (fun x => qS) ?_ qE qE ?_
   ·exact ⟨⟨by simp, by simp⟩, fun y hy => (by cases hy), List.Pairwise.nil⟩
   rintro ⟨nd, r, i⟩ n3 ⟨⟨f1, f2⟩, f3, f4⟩ ih3;simp only at f1 f2 f3 f4
   have f5 : ∀ y ∈ nd, ∃ j, j < i + 1 /\ (acc.getD j default).Code = y := fun y hy => by
    obtain ⟨j, q1, q2⟩ := f3 y hy;exact ⟨j, by omega, q2⟩
   (refine zD (K' := ?_) (s' := ?_) (fun F w0 fn hE => ?_) ?_; rotate_left 2; focus ((first | apply zB | fail); (repeat' (first | refine wA ?_ | exact qT | exact hE | fail))))
   refine zA3 qS qC qC ?_ ?_ <;> intro hb hc <;> try (simp at hc; done)
   ·have hi : i < acc.length := by assumption
    repeat' (first | (refine zD (K' := ?_) (s' := ?_) (fun F w0 fn hE => ?_) ?_; rotate_left 2; focus ((first | refine wA ?_ | fail); (repeat' (first | refine wA ?_ | refine zC qS qR ?_ ?_ | refine zM qS qR ?_ ?_ | refine zJ qK qK ?_ | refine zF3 qS ?_ qS ?_ | refine zO [0] K77 qR qD qZ qF ?_ ⟨L, _, _, (by decide), rfl, rfl, rfl, rfl⟩ qS ?_ | exact hE | (show zAl _; simp only [zAl, go_sem, zB2]; (repeat' apply And.intro) <;> first | exact zz0 | exact (zA7 _ _ _ (by omega)).1 | exact (zA7 _ _ _ (by omega)).2 | (refine Int.lt_of_lt_of_le (zA7 _ _ _ (by omega)).2 (by omega)) | (intros; omega)) | exact qT | exact qP | fail)))) | (refine zA3 qS qC qC ?_ ?_ <;> intro hb hc <;> try (simp at hc; done)))
    ·simp only [zz3, zyf] at hb
     refine zD (fun _ _ _ hE => zHz 5 4 qS hE) ?_;refine zQ ih3 ((nd ++ [(acc.getD i default).Code], ?u8, i + 1)) ?_ ?_ ⟨rfl, qE, qE⟩
     ·refine ⟨⟨by simp only; omega, by simp; omega⟩, fun y hy => ?_, zXa f4 fun x hx => ?_⟩
      ·rcases List.mem_append.1 hy with hy | hy
       ·exact f5 y hy
       ·rw [zyh] at hy; subst hy
        exact ⟨i, by simp only; omega, rfl⟩
      ·obtain ⟨j, q1, rfl⟩ := f3 x hx
       exact yHt hof.asc q1 hi
     ·simp only; omega
    ·refine zQ ih3 ((nd, ?u10, i + 1)) ?_ ?_ ⟨rfl, qE, qE⟩
     ·exact ⟨⟨by simp only; omega, by simp only; omega⟩, f5, f4⟩
     ·simp only; omega
   ·refine zD (fun _ _ _ hE => zI 3 qS hE) ?_
    refine zD (fun _ _ _ hE => zI 4 qS hE) ?_
    repeat' (first | (refine zD (K' := ?_) (s' := ?_) (fun F w0 fn hE => ?_) ?_; rotate_left 2; focus ((first | refine zF qR ?_ | fail); (repeat' (first | refine wA ?_ | refine zC qS qR ?_ ?_ | exact qT | exact hE | exact qP | fail)))) | (refine zA3 qS qC qC ?_ ?_ <;> intro hb hc <;> try (simp at hc; done)))
    refine zQ ih ((acc ++ [⟨?u12, ?u13, ?u14, ?u15, ?u16⟩], ?u17, k + 1)) ?_ ?_ ⟨rfl, qEo, qEo⟩
    ·refine ⟨⟨by simp only; omega, by simp; omega⟩, hof.snoc (by omega) (yFa (fun x hx => (g6 x hx).1) g7 f2 f4 (by omega)) rfl fun y hy => ?_⟩
     obtain ⟨j, q1, q2⟩ := f3 y hy;exact ⟨j, by omega, q2⟩
    ·simp only; omega
 ·have := zB2
  refine zD (fun _ _ _ hE => zI 1 qS hE) ?_
  (refine zR (ds := ?ds18) (⟨acc, ⟨by rw [show (6 : Nat) = k by omega]; exact hof, by omega⟩⟩ : {y : List Offer // CAk 6 y /\ y.length <= 6}) qR ?qa18 ?qb18; (case qa18 => (simp only [go_sem]; rfl)); case' qb18 => (refine zAc.le qZ ?_; exact qE))
end Go.Sx
namespace Go.Sx
open Go.Proofs Go.RowKit
attribute [local irreducible] Run zAg zAs OpT zAc SLe OLe
def dK (L : List ByteArray) : MK -> Bool
 | .s b => L.contains b
 | .i _ => false
def fK : MK -> SD := fun _ => .bool true
@[go_sem] def zVe (L : List ByteArray) : SD := .fmap none L.length (dK L) fK
@[go_sem] def oKm (L : List ByteArray) : OB := .mp ⟨none, L.length, dK L, fK, none⟩ []
@[go_sem] def oVs : OB := .var [.acc 1001]
@[go_sem] def oKs (l : List ByteArray) : OB := .acc 9 1 l.length (fun i => eStr (l.getD i default))
abbrev YK (r : LR) (bl : List Nat) (h0 : Hp) : Prop := zR2 Tryz.prog r.l h0 bl (fun ds os d os' => ∃ (ks : List ByteArray) (k : ByteArray), ks.length <= 10 /\ ds = [eStr k] /\ os = [oVs, oKs ks, zDi r .ready none] /\ d = .bool true /\ os' = zAy 1000 [oVs, oKs (ks ++ [k]), zDi r .ready none])
theorem K236 (r : LR) (h0 : Hp) (bl : List Nat) (hbl : bl.length = 3) (Y : YK r bl h0) (L : List ByteArray) (hL : L.Nodup /\ L.length <= 10) : zZv Tryz.prog 236 h0 bl (fun ds os O => ds = [.yld r.l, .fp [zVe L]] /\ os = [oVs, oKs []] ++ [zDi r .ready none] /\ O = fun d o' => ∃ ks : List ByteArray, ks.Perm L /\ d = .tup [] /\ o' = zAy 1000 ([oVs, oKs ks] ++ [zDi r .ready none])) := by
 obtain ⟨b0, b1, b2, rfl⟩ : ∃ b0 b1 b2, bl = [b0, b1, b2] := by
  match bl, hbl with
  | [b0, b1, b2], _ => exact ⟨b0, b1, b2, rfl⟩
 refine zFn Tryz.call236 Tryz.func236 rfl Tryz.ntmps236 ?_;rintro ds os O ⟨rfl, rfl, rfl⟩;refine ⟨by simp, by simp, fun F w0 han => ?_⟩
 repeat' (first | refine wA ?_ | refine zF0 qS qS qS ?_ | exact qT | fail)
 refine zH [0, 1, 5] (fun x : (MK -> Bool) × Option MK × Nat × List ByteArray => []) (fun x => [(0, .mp ⟨none, L.length, dK L, fK, some (.iter x.2.2.1 x.1 x.2.1)⟩ []), (1001, oKs x.2.2.2)]) (fun x => (x.2.2.2.Nodup /\ ∀ k ∈ x.2.2.2, k ∈ L) /\ (∀ k, x.1 (.s k) = x.2.2.2.contains k) /\ x.2.2.2.length + x.2.2.1 <= 10) (fun x => x.2.2.1) ((fun _ => false), none, L.length, []) (fun x => qS) ?_ qL qL ?_
 ·exact ⟨⟨List.nodup_nil, fun k hk => by cases hk⟩, fun k => rfl, by simpa using hL.2⟩
 rintro ⟨V, cur, c, ks⟩ ⟨⟨g1, g2⟩, g3, g4⟩;simp only at g1 g2 g3 g4
 repeat' (first | refine wA ?_ | exact rfl | fail)
 refine zM9 qS qS qR (fun hdone => ?_) (fun y c' hlt hdom hV => ?_)
 ·have hp : ks.Perm L := by
   refine (List.perm_ext_iff_of_nodup g1 hL.1).2 fun k => ⟨g2 k, fun hk => ?_⟩;have := hdone (.s k) (by simpa [dK] using hk);rw [g3] at this;simpa using this
  repeat' (first | refine wA ?_ | exact zz0 | fail)
  (refine zAa qS qC qC ?_ ?_ <;> intro hb hc <;> try (simp at hc; done))
  repeat' (first | refine zF qR ?_ | fail)
  refine yAu (.tup []) (zAy 1000 ([oVs, oKs ks] ++ [zDi r .ready none])) ?_ (l := []) qR qR ?_ ?_
  ·exact ⟨ks, hp, rfl, rfl⟩
  ·exact SLe.refl _
  ·exact qO
 ·have hy : y ∈ L := by simpa [dK] using hdom
  have hny : y ∉ ks := by rw [g3] at hV; simpa using hV
  repeat' (first | refine wA ?_ | exact zz0 | fail)
  (refine zAa qS qC qC ?_ ?_ <;> intro hb hc <;> try (simp at hc; done))
  repeat' (first | refine wA ?_ | refine zNa qS qS qS ?_ | refine zFf [1000, 1001, 1002] Y qF han qR qR qD (by first | (simp only [go_sem]; done) | rfl) qF ?_ ⟨ks, y, by omega, rfl, rfl, rfl, rfl⟩ qS ?_ | exact qT | fail)
  (refine zAa qS qC qC ?_ ?_ <;> intro hb hc <;> try (simp at hc; done))
  repeat' (first | refine wA ?_ | fail)
  refine zL (zC9 (.s y) V, some (.s y), c', ks ++ [y]) ?_ ?_ ⟨rfl, qL, qL⟩
  ·refine ⟨⟨List.nodup_append.2 ⟨g1, by simp, fun a ha b hb => ?_⟩, fun k hk => ?_⟩, fun k => ?_, by simp; omega⟩
   ·rw [zyh] at hb; subst hb; intro hc; exact hny (hc ▸ ha)
   ·rcases List.mem_append.1 hk with hk | hk
    ·exact g2 k hk
    ·rw [zyh] at hk; subst hk; exact hy
   ·simp only [zC9, g3]
    rw [Bool.eq_iff_iff];simp [List.contains_iff_mem, or_comm]
  ·exact hlt
theorem yH4 (t : List ByteArray) (a : ByteArray) {f : Nat -> SD} (h : f 0 = eStr a) : OLe (.acc 9 1 (t.length + 1) (zBm t.length (fun i => eStr (t.getD i default)) f)) (oKs (t ++ [a])) := OLe.accS (by simp) fun i hi => by
 simp only [zBm];by_cases hh : i < t.length
 ·rw [if_pos hh]
  simp [zz2, zyb hh]
 ·have : i = t.length := by omega
  subst this;rw [if_neg hh, Nat.sub_self, h];simp [zz2]
theorem K240 : zZv Tryz.prog 240 h00 [] (fun ds os O => ∃ L : List ByteArray, (L.Nodup /\ L.length <= 10) /\ ds = [.nils, .fn 236 [.fp [zVe L]]] /\ os = [] /\ O = fun d o' => ∃ ks : List ByteArray, ks.Perm L /\ d = .acc 1 /\ o' = [(1, oKs ks)]) := by
 refine zFn Tryz.call240 Tryz.func240 rfl Tryz.ntmps240 ?_;rintro ds os O ⟨L, hL, rfl, rfl, rfl⟩;refine ⟨by simp, by simp, fun F w0 han => ?_⟩
 repeat' (first | refine wA ?_ | exact qT | fail)
 refine zCe 0 0 9 1 (fun i => eStr (([] : List ByteArray).getD i default)) rfl rfl (by simp only [List.set]; rfl) rfl ?_;refine zNj [2, 6] qS ?_;refine zL7 (fun ks : List ByteArray => ks.Perm L) [0, 1] (gf := 236) (os := [oVs, oKs []]) (osu' := fun ks => [oVs, oKs ks]) rfl qS qR qR qR qR (fun r K => by rfl) (fun h1 bl r hps has hbd htm hbl1 hle hfx hsl => ?hit) (fun x r K => by simp only [go_sem]; rfl) (fun x r K => by rfl) (fun ks hks r K => ?hk)
 case hk =>
  refine zSh (s' := ?_) qS ?_;simp only [zVh];change Run _ _ ⟨w0, none, [{ target := .collected K, args := #[] }]⟩ _ _ _
  repeat' (first | refine wA ?_ | exact qT | fail)
  refine zWr 2 K (.acc 1) [(1, oKs ks)] ?_ qR qR qS ?_ ?_
  ·exact ⟨ks, hks, rfl, rfl⟩
  ·exact SLe.refl _
  ·exact qO
 case hit =>
  refine (K236 r h1 bl (by simpa using hbl1) ?Y L hL).weaken ?w
  case w =>
   rintro ds os O ⟨rfl, rfl, rfl⟩;exact ⟨_, ⟨rfl, rfl, rfl⟩, fun d o h => h⟩
  case Y =>
   obtain ⟨c0, c1, c2, rfl⟩ : ∃ b0 b1 b2, bl = [b0, b1, b2] := by
    match bl, hbl1 with
    | [b0, b1, b2], _ => exact ⟨b0, b1, b2, rfl⟩
   refine zKx r [(2, .loc 1000 0)] 13 r.l rfl htm (by rw [hps]; simp) (fun h e hl hb t => by
    by_cases ht : t = 2
    ·subst ht; exact hsl h e hl hb 2
    ·have : lkp [(2, SD.loc 1000 0)] t = .any := by
      simp only [lkp]; rw [zHi (fun hc => ht hc.symm)]; rfl
     rw [this]; simp only [rep]) ?_
   rintro ds os v os' ⟨ks, k, hkl, rfl, rfl, rfl, rfl⟩;refine ⟨[oVs, oKs ks], [oVs, oKs (ks ++ [k])], none, ?sA, rfl, rfl, rfl, rfl, rfl, by rw [hps]; rfl, fun F w0 han2 => ?g1, ?g2, fun F w0 han2 => ?g3⟩
   case g1 =>
    rw [has, hps];change Run _ F _ _ _ ⟨13, 0, upd [(2, .loc 1000 0)] 7 (eStr k), _⟩
    repeat' (first | refine wA ?_ | exact qT | fail)
    exact zIp
   case g2 => rfl
   case g3 =>
    rw [hbd]
    repeat' (first | refine wA ?_ | refine zC qS qR ?_ ?_ | exact rfl | exact qP | fail)
    refine zK (o' := oKs (ks ++ [k])) 1001 qR (yH4 ks k rfl) ?_;refine zD6 ?_;exact qO
end Go.Sx
namespace Go.Proofs
open Go.Shelf
def Tryz.sort7_ren : Go.Shelf.Ren := ⟨fun | 6 => 235 | 8 => 167 | 9 => 241 | 19 => 209 | 20 => 210 | 21 => 242 | 22 => 243 | 23 => 244 | 24 => 245 | 25 => 246 | 26 => 247 | 27 => 248 | 28 => 249 | 29 => 250 | 36 => 251 | 31 => 230 | 32 => 231 | 37 => 252 | 38 => 253 | 39 => 196 | 41 => 254 | n => n, fun | 27 => 74 | 29 => 9 | 3 => 3 | 32 => 191 | 26 => 74 | 0 => 0 | 44 => 237 | 46 => 239 | 4 => 4 | 36 => 258 | 35 => 257 | 41 => 262 | 5 => 5 | 9 => 9 | 53 => 279 | 57 => 283 | 63 => 287 | 64 => 288 | n => n, fun | n => n⟩
theorem Tryz.sort7 : Go.Proofs.SlLaysM.n6 Tryz.prog Tryz.sort7_ren := {
 mixed := by kernel_rfl
 f6 := ⟨Tryz.f235.name, by decide, Tryz.func235.trans (congrArg some (by kernel_rfl))⟩
 f8 := Tryz.func167.trans (congrArg some (by kernel_rfl))
 f9 := ⟨Tryz.f241.name, by decide, Tryz.func241.trans (congrArg some (by kernel_rfl))⟩
 f19 := Tryz.func209.trans (congrArg some (by kernel_rfl))
 f20 := Tryz.func210.trans (congrArg some (by kernel_rfl))
 f21 := ⟨Tryz.f242.name, by decide, Tryz.func242.trans (congrArg some (by kernel_rfl))⟩
 f22 := ⟨Tryz.f243.name, by decide, Tryz.func243.trans (congrArg some (by kernel_rfl))⟩
 f23 := ⟨Tryz.f244.name, by decide, Tryz.func244.trans (congrArg some (by kernel_rfl))⟩
 f24 := ⟨Tryz.f245.name, by decide, Tryz.func245.trans (congrArg some (by kernel_rfl))⟩
 f25 := ⟨Tryz.f246.name, by decide, Tryz.func246.trans (congrArg some (by kernel_rfl))⟩
 f26 := ⟨Tryz.f247.name, by decide, Tryz.func247.trans (congrArg some (by kernel_rfl))⟩
 f27 := ⟨Tryz.f248.name, by decide, Tryz.func248.trans (congrArg some (by kernel_rfl))⟩
 f28 := ⟨Tryz.f249.name, by decide, Tryz.func249.trans (congrArg some (by kernel_rfl))⟩
 f29 := ⟨Tryz.f250.name, by decide, Tryz.func250.trans (congrArg some (by kernel_rfl))⟩
 f31 := Tryz.func230.trans (congrArg some (by kernel_rfl))
 f32 := Tryz.func231.trans (congrArg some (by kernel_rfl))
 f36 := ⟨Tryz.f251.name, by decide, Tryz.func251.trans (congrArg some (by kernel_rfl))⟩
 f37 := ⟨Tryz.f252.name, by decide, Tryz.func252.trans (congrArg some (by kernel_rfl))⟩
 f38 := ⟨Tryz.f253.name, by decide, Tryz.func253.trans (congrArg some (by kernel_rfl))⟩
 f39 := ⟨Tryz.f196.name, by decide, Tryz.func196.trans (congrArg some (by kernel_rfl))⟩
 f41 := ⟨Tryz.f254.name, by decide, Tryz.func254.trans (congrArg some (by kernel_rfl))⟩
 t0 := Tryz.underlying0
 a0 := Tryz.isAgg0
 z0 := Tryz.sizeOf0
 v0 := Tryz.zeroValue0
 t3 := Tryz.underlying3
 a3 := Tryz.isAgg3
 z3 := Tryz.sizeOf3
 v3 := Tryz.zeroValue3
 t4 := Tryz.underlying4
 a4 := Tryz.isAgg4
 z4 := Tryz.sizeOf4
 v4 := Tryz.zeroValue4
 t5 := Tryz.underlying5
 a5 := Tryz.isAgg5
 z5 := Tryz.sizeOf5
 v5 := Tryz.zeroValue5
 t9 := Tryz.underlying9
 a9 := Tryz.isAgg9
 z9 := Tryz.sizeOf9
 v9 := Tryz.zeroValue9
 t26 := Tryz.underlying74
 a26 := Tryz.isAgg74
 z26 := Tryz.sizeOf74
 v26 := Tryz.zeroValue74
 t27 := Tryz.underlying74
 a27 := Tryz.isAgg74
 z27 := Tryz.sizeOf74
 v27 := Tryz.zeroValue74
 t29 := Tryz.underlying9
 a29 := Tryz.isAgg9
 z29 := Tryz.sizeOf9
 v29 := Tryz.zeroValue9
 t32 := Tryz.underlying191
 a32 := Tryz.isAgg191
 z32 := Tryz.sizeOf191
 v32 := Tryz.zeroValue191
 t35 := Tryz.underlying257
 a35 := Tryz.isAgg257
 z35 := Tryz.sizeOf257
 v35 := Tryz.zeroValue257
 t36 := Tryz.underlying258
 a36 := Tryz.isAgg258
 z36 := Tryz.sizeOf258
 v36 := Tryz.zeroValue258
 t41 := Tryz.underlying262
 a41 := Tryz.isAgg262
 z41 := Tryz.sizeOf262
 v41 := Tryz.zeroValue262
 t44 := Tryz.underlying237
 a44 := Tryz.isAgg237
 z44 := Tryz.sizeOf237
 v44 := Tryz.zeroValue237
 t46 := Tryz.underlying239
 a46 := Tryz.isAgg239
 z46 := Tryz.sizeOf239
 v46 := Tryz.zeroValue239
 t53 := Tryz.underlying279
 a53 := Tryz.isAgg279
 z53 := Tryz.sizeOf279
 v53 := Tryz.zeroValue279
 t57 := Tryz.underlying283
 a57 := Tryz.isAgg283
 z57 := Tryz.sizeOf283
 v57 := Tryz.zeroValue283
 t63 := Tryz.underlying287
 a63 := Tryz.isAgg287
 z63 := Tryz.sizeOf287
 v63 := Tryz.zeroValue287
 t64 := Tryz.underlying288
 a64 := Tryz.isAgg288
 z64 := Tryz.sizeOf288
 v64 := Tryz.zeroValue288 }
end Go.Proofs
namespace Go.Sx
open Go.Proofs Go.Sort
def ksB (l : List ByteArray) : List (List UInt8) := l.map fun b => b.data.toList
def zSf (l : List ByteArray) : List (List UInt8) := (ksB l).mergeSort fun x y => decide (x <= y)
def zQi (l : List ByteArray) : List ByteArray := (zSf l).map fun x => ⟨x.toArray⟩
theorem zO5 (l : List ByteArray) : (zQi l).Perm l := by
 have h := ((List.mergeSort_perm (ksB l) fun x y => decide (x <= y)).map fun x => (⟨x.toArray⟩ : ByteArray));have e : (ksB l).map (fun x => (⟨x.toArray⟩ : ByteArray)) = l := by simp [ksB, Function.comp_def]
 rw [e] at h;exact h
theorem zNd (l : List ByteArray) : (zQi l).length = l.length := (zO5 l).length_eq
theorem yAj {l : List ByteArray} {j : Nat} (hj : j < l.length) : encStr ((zSf l).toArray[j]!) = .string ((zQi l).getD j default) := by
 have h1 : (zSf l).length = l.length := by have := zNd l; rwa [zQi, List.length_map] at this
 rw [getElem!_pos _ j (by simpa [h1] using hj)];simp only [encStr, zQi, zz2, List.getElem?_map, List.getElem_toArray];rw [zz5 (by omega)];rfl
theorem zUl {h : Hp} {e : Nm} {w : World} {k : Nat} {l : List ByteArray} (h0 : 0 < l.length) (ho : zD8 h e w k (oKs l)) :
  ∃ b, (oKs l).blk e k = some b /\ Calls Tryz.prog 235 #[e.hd k] w fun en w' => en = .returned (.tuple #[]) /\ ∃ w1, zD8 h e w1 k (oKs (zQi l)) /\ (∀ b', b' ≠ b -> w1.heap[b']? = w.heap[b']?) /\ w1.os = w.os /\ w1.tape = w.tape /\ w1.output = w.output /\ w1.heap.size = w.heap.size /\ w.drawn <= w1.drawn /\ Below w1.heap.size w1 w' := by
 obtain ⟨xs, ⟨x1, x2⟩, x3, x4⟩ := ho
 rcases x2 with ⟨_, hn⟩ | ⟨b, cap, cur, e1, _, e3, e4, e5, e6, e7⟩
 ·omega
 have hblt : b < w.heap.size := (Array.getElem?_eq_some_iff.1 e3).1;have hmx : l.length <= maxN := x3;have hkl : (ksB l).length = l.length := List.length_map ..
 have hcur : ∀ j, j < l.length -> cur[j]? = some (.string (l.getD j default)) := fun j hj => by
  obtain ⟨u, u1, u2, u3, u4⟩ := x4 j hj;have hu := u1 e;simp only at hu;subst hu;have h3 : cut xs (j * 1) 1 = [Value.string (l.getD j default)] := u2.symm;have h4 : (cut xs (j * 1) 1)[0]? = some (Value.string (l.getD j default)) := by rw [h3]; rfl
  rw [<- e7] at h4;simp only [cut, Nat.mul_one, List.getElem?_take, List.getElem?_drop] at h4;simp only [Nat.zero_lt_one, if_true, Nat.add_zero] at h4;rw [if_pos hj] at h4;rw [<- Array.getElem?_toList];exact h4
 have hH : Holds encStr w b 0 (ksB l).toArray := fun j hj => by
  have hj2 : j < l.length := by simpa [hkl] using hj
  refine ⟨?_, ?_⟩
  ·unfold World.cell?
   simp only [e3, Option.isSome_none, Bool.false_eq_true, if_false, Nat.zero_add];rw [hcur j hj2]
   congr 1
   rw [getElem!_pos _ j hj];simp only [encStr, ksB, List.getElem_toArray, List.getElem_map];rw [zz2, zz5 hj2];rfl
  ·unfold World.frozen?
   simp only [e3];simp
 refine ⟨b, by simp [OB.blk, oKs, e1, Value.ownBlock], ?_⟩;rw [show #[e.hd k] = #[Value.slice (some ⟨b, 0, none⟩) (ksB l).length cap] by rw [hkl, <- e1]];refine (AnyM.slices_Sort_string Tryz.sort7 b 0 cap (ksB l) w hH hblt (by rw [hkl]; have : maxN = 68719476736 := rfl; omega)).mono fun en w' hq => ?_;obtain ⟨rfl, n, os, hw⟩ := hq;change w' = grow (putRow encStr (Sort.ahead w n) b 0 (zSf l).toArray) os at hw;have hlen := zNd l;have hsz : (zSf l).toArray.size = l.length := by have := zNd l; rw [zQi, List.length_map] at this; simpa using this
 have hput : ∀ j, j < l.length -> (putCells encStr 0 (zSf l).toArray cur)[j]? = some (.string ((zQi l).getD j default)) := fun j hj => by
  unfold putCells;rw [Array.getElem?_mapIdx, hcur j hj];simp only [Option.map_some];rw [if_pos ⟨zz7 _, by omega⟩, Nat.sub_zero, yAj hj]
 have hps : (putCells encStr 0 (zSf l).toArray cur).size = cur.size := by simp [putCells]
 have hmine : (putRow encStr (Sort.ahead w n) b 0 (zSf l).toArray).heap[b]? = some (.cells (putCells encStr 0 (zSf l).toArray cur) 9 (0, 0)) := by
  simp only [putRow, mapBlock, Sort.ahead];rw [Array.getElem?_modify, if_pos rfl, e3];rfl
 refine ⟨rfl, putRow encStr (Sort.ahead w n) b 0 (zSf l).toArray, ?_, fun b' hb' => ?_, rfl, rfl, rfl, by simp [putRow, mapBlock, Sort.ahead], Nat.le_add_right _ _, ?_⟩
 ·refine ⟨(putCells encStr 0 (zSf l).toArray cur).toList.take ((zQi l).length * 1), ⟨?_, .inr ⟨b, cap, _, by rw [hlen]; exact e1, zz7 _, hmine, by omega, e5, by rw [hps]; exact e6, rfl⟩⟩, by rw [hlen]; exact x3, fun i hi => ?_⟩
  ·have hpl : (putCells encStr 0 (zSf l).toArray cur).toList.length = cur.size := by rw [Array.length_toList, hps]
   rw [zyl, hpl]; omega
  ·have hi2 : i < l.length := by omega
   refine ⟨.string ((zQi l).getD i default), fun e' => rfl, ?_, rfl, fun c hc => ?_⟩
   ·show [Value.string ((zQi l).getD i default)] = cut _ (i * 1) 1
    have h5 : (putCells encStr 0 (zSf l).toArray cur).toList[i]? = some (.string ((zQi l).getD i default)) := by rw [Array.getElem?_toList]; exact hput i hi2
    apply List.ext_getElem?;intro j;simp only [cut, Nat.mul_one, List.getElem?_take, List.getElem?_drop];cases j with
    | zero => simp only [Nat.zero_lt_one, if_true, Nat.add_zero]; rw [if_pos (by omega), h5]; rfl
    | succ j => rw [if_neg (by omega)]; rfl
   ·have : c = .string ((zQi l).getD i default) := by simpa [Value.cells] using hc
    rw [this]; rfl
 ·simp only [putRow, mapBlock, Sort.ahead]
  rw [Array.getElem?_modify, if_neg (fun hc => hb' hc.symm)]
 ·rw [hw]
  refine ⟨⟨rfl, rfl, rfl, by simp [grow], fun k hk => ?_⟩, zyj _⟩;show ((putRow encStr (Sort.ahead w n) b 0 (zSf l).toArray).heap ++ os)[k]? = _;rw [Array.getElem?_append_left hk]
section
variable {F : List Nat} {w0 : Base} {s : St} {Q : Exit -> Act -> World -> Prop} {ops : Array Oper} {rest : List Oper}
set_option maxRecDepth 8000 in
theorem zWa (k : Nat) (l : List ByteArray) {t : Nat} {x : Operand} {tys : Array Nat} {ty : Nat} {pos : String} {af : Array Edge} {s' : St} (ho : lkO s.ow k = some (oKs l)) (h0 : 0 < l.length) (hx : ev s x = .acc k)
  (hs : zCp ⟨s.n, s.nx, s.sl, upd s.ow k (oKs (zQi l))⟩ t (.tup []) = some s') (hn : zAg Tryz.prog F w0 ops Q rest s') : zAg Tryz.prog F w0 ops Q (⟨some t, .call ⟨.value (.func 235), #[x], tys⟩, ty, pos, af, none⟩ :: rest) s := fun h e a w D => by
 obtain ⟨ht, rfl⟩ := zAp hs;refine zAe rfl fun K hK => ?_;have hv := D.ev x;rw [hx] at hv;simp only [rep] at hv;obtain ⟨b, hb, hc⟩ := zUl h0 (D.own k _ ho);unfold Oper.wp
 have hrun : (execOp a.eval ⟨some t, .call ⟨.value (.func 235), #[x], tys⟩, ty, pos, af, none⟩).run Tryz.prog w = .ok (.enter 235 #[e.hd k]) w := by
  simp [execOp, resolve, Deferred.ofValue, Act.eval, invoke, Tryz.call235, <- hv.1]
 rw [hrun];refine hc.mono fun en w' hq => ?_;obtain ⟨rfl, w1, q1, q2, q3, q4, q5, q6, q7, q8⟩ := hq;have D1 := D.setOwn (o' := oKs (zQi l)) (w' := w1) ho rfl q1 (fun b' hb' => q2 b' (fun hc => hb' (by rw [hc]; exact hb))) q3 q4 q5 q6 q7;exact hK _ _ (hn _ _ _ _ ((D1.lent q8).put (i := t) (d := .tup []) (v := .tuple #[]) ht ⟨[], rfl, rfl⟩))
set_option maxRecDepth 8000 in
theorem zUi (k : Nat) {t : Nat} {x : Operand} {tys : Array Nat} {ty : Nat} {pos : String} {af : Array Edge} {s' : St} (ho : lkO s.ow k = some (oKs [])) (hx : ev s x = .acc k)
  (hs : zCp s t (.tup []) = some s') (hn : zAg Tryz.prog F w0 ops Q rest s') : zAg Tryz.prog F w0 ops Q (⟨some t, .call ⟨.value (.func 235), #[x], tys⟩, ty, pos, af, none⟩ :: rest) s := fun h e a w D => by
 obtain ⟨ht, rfl⟩ := zAp hs;refine zAe rfl fun K hK => ?_;have hv := D.ev x;rw [hx] at hv;simp only [rep] at hv;obtain ⟨xs, ⟨x1, x2⟩, x3, x4⟩ := D.own k _ ho
 have hd : ∃ p cap, e.hd k = .slice p 0 cap := by
  rcases x2 with ⟨h1, _⟩ | ⟨b, cap, cur, e1, _⟩
  ·exact ⟨_, _, h1⟩
  ·exact ⟨_, _, e1⟩
 obtain ⟨p, cap, hd⟩ := hd;unfold Oper.wp
 have hrun : (execOp a.eval ⟨some t, .call ⟨.value (.func 235), #[x], tys⟩, ty, pos, af, none⟩).run Tryz.prog w = .ok (.enter 235 #[.slice p 0 cap]) w := by
  have he : a.eval x = .slice p 0 cap := hv.1.trans hd;rw [<- he];simp [execOp, resolve, Deferred.ofValue, Act.eval, invoke, Tryz.call235]
 rw [hrun];refine (AnyM.slices_Sort_string_none Tryz.sort7 p cap w).mono fun en w' hq => ?_;obtain ⟨rfl, rfl⟩ := hq;exact hK _ _ (hn _ _ _ _ (D.put (i := t) (d := .tup []) (v := .tuple #[]) ht ⟨[], rfl, rfl⟩))
end
open Go.Proofs Go.RowKit
attribute [local irreducible] Run zAg zAs OpT zAc SLe OLe
theorem K234 : zZv Tryz.prog 234 h00 [] (fun ds os O => ∃ L : List ByteArray, (L.Nodup /\ L.length <= 10) /\ ds = [.fn 236 [.fp [zVe L]]] /\ os = [] /\ O = fun d o' => ∃ ks : List ByteArray, ks.Perm L /\ d = .acc 1 /\ o' = [(1, oKs ks)]) := by
 refine zFn Tryz.call234 Tryz.func234 rfl Tryz.ntmps234 ?_;rintro ds os O ⟨L, hL, rfl, rfl, rfl⟩;refine ⟨by simp, by simp, fun F w0 han => ?_⟩
 repeat' (first | refine wA ?_ | exact qT | fail)
 refine zIj [] K240 qR qF qR qF ?_ ⟨L, hL, rfl, rfl, rfl⟩ ?_
 ·exact trivial
 rintro d os' ⟨ks, hp, rfl, rfl⟩;refine ⟨_, by simp only [go_sem]; rfl, ?_⟩
 repeat' (first | refine wA ?_ | exact zz0 | fail)
 refine zKe (.acc 1) [(1, oKs ks)] ?_ qR qS ?_ ?_
 ·exact ⟨ks, hp, rfl, rfl⟩
 ·exact SLe.refl _
 ·exact qO
theorem K217 : zZv Tryz.prog 217 h00 [] (fun ds os O => ∃ L : List ByteArray, (L.Nodup /\ L.length <= 10) /\ ds = [.fn 236 [.fp [zVe L]]] /\ os = [] /\ O = fun d o' => ∃ ks : List ByteArray, ks.Perm L /\ d = strs ks /\ o' = []) := by
 refine zFn Tryz.call217 Tryz.func217 rfl Tryz.ntmps217 ?_;rintro ds os O ⟨L, hL, rfl, rfl, rfl⟩;refine ⟨by simp, by simp, fun F w0 han => ?_⟩
 repeat' (first | refine wA ?_ | exact qT | fail)
 refine zIj [] K234 qR qF qR qF ?_ ⟨L, hL, rfl, rfl, rfl⟩ ?_
 ·exact trivial
 rintro d os' ⟨ks, hp, rfl, rfl⟩;refine ⟨_, by simp only [go_sem]; rfl, ?_⟩
 repeat' (first | refine wA ?_ | exact qT | fail)
 rcases ks with _ | ⟨k0, kr⟩
 ·refine zUi 1 qR qF qS ?_
  repeat' (first | refine zI 1 qS ?_ | refine wA ?_ | exact qT | fail)
  refine zKe (strs []) [] ?_ qR qS ?_ ?_
  ·exact ⟨[], hp, rfl, rfl⟩
  ·exact SLe.refl _
  ·exact qO
 ·refine zWa 1 (k0 :: kr) qR (by simp) qF qS ?_
  generalize hk2 : zQi (k0 :: kr) = k2;have hp2 : k2.Perm (k0 :: kr) := hk2 ▸ zO5 _
  repeat' (first | refine zI 1 qS ?_ | refine wA ?_ | exact qT | fail)
  refine zKe (strs k2) [] ?_ qR qS ?_ ?_
  ·exact ⟨k2, hp2.trans hp, rfl, rfl⟩
  ·exact SLe.refl _
  ·exact qO
theorem K218 : FnOK Tryz.prog 218 (fun ds d => ∃ L : List ByteArray, ds = [zVe L] /\ d = .fn 236 [.fp [zVe L]]) := by
 refine zAb Tryz.call218 Tryz.func218 rfl Tryz.ntmps218 ?_;rintro ds d ⟨L, rfl, rfl⟩;refine ⟨by simp, fun w0 => ?_⟩
 repeat' (first | refine zI 0 qS ?_ | refine wA ?_ | refine zE qR ?_ | exact qT | exact zAc.pure rfl | fail)
end Go.Sx
