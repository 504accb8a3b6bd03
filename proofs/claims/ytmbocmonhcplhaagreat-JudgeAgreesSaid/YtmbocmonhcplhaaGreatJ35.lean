/- Part of the proof that the laws of the judge return true for every input: J32, J34, J35. -/
import Derived.Test.YtmbocmonhcplhaaGreatJ29
import Derived.Test.YtmbocmonhcplhaaGreatJ13
import Derived.Test.YtmbocmonhcplhaaGreatS4
set_option linter.all false
namespace Go.Sx
theorem SLe.ifc {t : Nat} {d d' : SD} (h : SLe d d') : SLe (.iface t d) (.iface t d') := fun h0 e v hv => by
 simp only [rep] at hv ⊢
 obtain ⟨u, hu, hd⟩ := hv
 exact ⟨u, hu, h _ _ _ hd⟩
open Go.Proofs Go.RowKit
attribute [local irreducible] Run zAi zAy OpT zAc SLe OLe
set_option maxHeartbeats 2000000
set_option maxRecDepth 8000
set_option maxHeartbeats 20000000
def zA6 (n : Need) (s : Scale) : List Ach → Nat → List Int
 | [], _ => []
 | a :: r, k => (if zIz n s a then [(k : Int)] else []) ++ zA6 n s r (k + 1)
def zC5 (l : List Ach) : List Int := l.map (·.Credits)
def wT (n : Need) : Nat := if n.Kind = 1 then 175 else if n.Kind = 2 then 177 else 179
def wL (s : Scale) (l : List Ach) : Nat → Need → List SD
 | 0, n => if n.Kind = 1 then [ints (zA6 n s l 0)] else if n.Kind = 2 then [ints (zA6 n s l 0), ints (zC5 l), .int .i64 n.N] else [.list 1 0 fun _ => .any, .int .i64 (if n.Kind = 3 then 0 else n.N)]
 | d + 1, n => if n.Kind = 1 then [ints (zA6 n s l 0)] else if n.Kind = 2 then [ints (zA6 n s l 0), ints (zC5 l), .int .i64 n.N] else [.list 1 n.L.length fun i => .iface (wT (n.L.getD i default)) (.agg (wL s l d (n.L.getD i default))), .int .i64 (if n.Kind = 3 then (n.L.length : Int) else n.N)]
@[go_sem] def zBk (s : Scale) (l : List Ach) (d : Nat) (n : Need) : SD := .iface (wT n) (.agg (wL s l d n))
@[go_sem] theorem wL_men (s : Scale) (l : List Ach) (d : Nat) (n : Need) (k : Nat) : zGy k (wL s l d n) = false := by
 cases d <;> simp only [wL] <;> split <;> first | rfl | (split <;> rfl)
@[go_sem] theorem wL_pure (s : Scale) (l : List Ach) (d : Nat) (n : Need) : zGs (wL s l d n) = true := by
 cases d <;> simp only [wL] <;> split <;> first | rfl | (split <;> rfl)
@[go_sem] theorem wL_all (s : Scale) (l : List Ach) (d : Nat) (n : Need) (pb ph : Nat → Bool) : zC6 pb ph (wL s l d n) = true := by
 cases d <;> simp only [wL] <;> split <;> first | rfl | (split <;> rfl)
@[go_sem] theorem wL_ren (s : Scale) (l : List Ach) (d : Nat) (n : Need) (σ : Nat → Nat) : zI7 σ (wL s l d n) = wL s l d n := by
 cases d <;> simp only [wL] <;> split <;> first | rfl | (split <;> rfl)
@[go_sem] theorem wL_frz (s : Scale) (l : List Ach) (d : Nat) (n : Need) (k : Nat) (d0 : SD) (L : Nat → SD) (dm : SD) : zOn k d0 L dm (wL s l d n) = wL s l d n := by
 cases d <;> simp only [wL] <;> split <;> first | rfl | (split <;> rfl)
@[go_sem] theorem wL_pur (s : Scale) (l : List Ach) (d : Nat) (n : Need) (k : Nat) : zGw k (wL s l d n) = wL s l d n := by
 cases d <;> simp only [wL] <;> split <;> first | rfl | (split <;> rfl)
theorem zOt (n : Need) (s : Scale) : ∀ (l : List Ach) (k : Nat), (zA6 n s l k).length ≤ l.length
 | [], _ => Nat.le_refl _
 | a :: r, k => by
  have := zOt n s r (k + 1);simp only [zA6, List.length_append, List.length_cons];split <;> simp <;> omega
theorem zBn (n : Need) (s : Scale) (a : Ach) : ((n.Set.any fun y => zEk a.Course y) && reaches s a.Grade n.Min) = zIz n s a := by
 have : (fun y => zEk a.Course y) = fun c => zEk c a.Course := funext fun y => by rw [zN2, zN2]; exact decide_eq_decide.2 ⟨Eq.symm, Eq.symm⟩
 rw [this]; rfl
theorem yBt {T es k : Nat} {f g : Nat → SD} (h : g 0 = f k) : OLe (.acc T es (k + 1) (zA3 k f g)) (.acc T es (k + 1) f) := OLe.accS rfl fun i hi => by
 simp only [zA3]
 by_cases hik : i < k
 ·rw [if_pos hik]
 ·have : i = k := by omega
  subst this;rw [if_neg hik, Nat.sub_self, h]
theorem K45 (d : Nat) : FnOK Tryz.prog 45 (fun ds v => ∃ (n : Need) (s : Scale) (l : List Ach), (MOk d n ∧ l.length ≤ 10) ∧ ds = [zAb n, zDm s, zAo 8 zBp l] ∧ v = zBk s l d n) := by
 induction d with
 | zero =>
  refine zAa Tryz.call45 Tryz.func45 rfl Tryz.ntmps45 ?_;rintro ds d ⟨n, s, l, ⟨hn, hl⟩, rfl, rfl⟩;refine ⟨by simp, fun w0 => ?_⟩;have hL : n.L = [] := hn
  repeat' (first | apply zC | apply zD | apply zA | apply zB | refine zF (by simp only [go_sem, hL]; rfl) qR ?_ ?_ | exact zz0 | exact rfl | fail)
  refine yF 7 3 1 (fun i => eInt (([] : List Int).getD i default)) rfl rfl rfl ?_;refine yF 8 3 1 (fun i => eInt (([] : List Int).getD i default)) rfl rfl rfl ?_;refine zN [0, 1, 2, 3, 4, 6, 7, 8, 14, 15] (fun x : Nat × List Int × List Int => [(16, .int .i64 x.1)]) (fun x : Nat × List Int × List Int => [(2, .acc 3 1 x.2.1.length (fun i => eInt (x.2.1.getD i default))), (3, .acc 3 1 x.2.2.length (fun i => eInt (x.2.2.getD i default)))]) (fun x : Nat × List Int × List Int => (x.1 ≤ l.length ∧ x.2.1.length ≤ x.1 ∧ x.2.2.length ≤ x.1) ∧ zA6 n s l 0 = x.2.1 ++ zA6 n s (l.drop x.1) x.1 ∧ zC5 l = x.2.2 ++ zC5 (l.drop x.1)) (fun x : Nat × List Int × List Int => l.length - x.1) (0, [], []) (fun x => qS) ?_ qL qL ?_
  ·exact ⟨⟨Nat.zero_le _, Nat.zero_le _, Nat.zero_le _⟩, rfl, rfl⟩
  rintro ⟨k, fs, cs⟩ ⟨⟨g1, g2, g3⟩, g4, g5⟩;simp only at g1 g2 g3 g4 g5
  repeat' (first | apply zC | apply zA | apply zB | refine zF (by simp only [go_sem, hL]; rfl) qR ?_ ?_ | exact zz0 | exact rfl | fail)
  (refine zE qS ?_ ?_ <;> intro hb <;> have hc := hb <;> (try simp only [bF] at hc) <;> (try (exfalso; simp at hc; done)))
  ·have hk : k < l.length := by assumption
   have hf : zA6 n s (l.drop k) k = (if zIz n s (l.getD k default) then [(k : Int)] else []) ++ zA6 n s (l.drop (k + 1)) (k + 1) := by rw [zAv _ _ hk, zA6]
   have hc2 : zC5 (l.drop k) = (l.getD k default).Credits :: zC5 (l.drop (k + 1)) := by rw [zAv _ _ hk]; rfl
   cases hfit : zIz n s (l.getD k default)
   ·rw [hfit] at hf
    repeat' (first | apply zC | apply zG | apply zD | apply zL | apply zA | apply zB | refine zF (by simp only [go_sem, hL, zBn, hfit]; rfl) qR ?_ ?_ | refine zM yFn (by simp only [go_sem, hL, zBn, hfit]; first | done | rfl) ?_ ⟨_, _, rfl, rfl⟩ (by simp only [go_sem, hL, zBn, hfit]; rfl) ?_ | refine zV 31 qR (by simp only [go_sem, hL, zBn, hfit]; rfl) yFm (by simp only [go_sem, hL, zBn, hfit]; first | done | rfl) (fun hg => ?_) (fun _ => ⟨_, _, _, rfl, rfl⟩) (by simp only [go_sem, hL, zBn, hfit]; rfl) ?_ | (refine zE (by simp only [go_sem, hL, zBn, hfit]; rfl) ?_ ?_ <;> intro hb <;> have hc := hb <;> (try simp only [bF] at hc) <;> (try (exfalso; simp at hc; done))) | exact zz0 | exact rfl | exact qP | fail)
    refine zR (o' := .acc 3 1 (cs ++ [(l.getD k default).Credits]).length (fun i => eInt ((cs ++ [(l.getD k default).Credits]).getD i default))) 3 qR (zA4 eInt cs _ rfl) ?_;refine zS (k + 1, fs, cs ++ [(l.getD k default).Credits]) ?_ ?_ ⟨rfl, qL, qL⟩
    ·refine ⟨⟨by simp only; omega, by simp only; omega, by simp; omega⟩, ?_, ?_⟩
     ·rw [g4, hf]; simp
     ·rw [g5, hc2]; simp
    ·simp only; omega
   ·rw [hfit] at hf
    repeat' (first | apply zC | apply zG | apply zD | apply zL | apply zA | apply zB | refine zF (by simp only [go_sem, hL, zBn, hfit]; rfl) qR ?_ ?_ | refine zM yFn (by simp only [go_sem, hL, zBn, hfit]; first | done | rfl) ?_ ⟨_, _, rfl, rfl⟩ (by simp only [go_sem, hL, zBn, hfit]; rfl) ?_ | refine zV 31 qR (by simp only [go_sem, hL, zBn, hfit]; rfl) yFm (by simp only [go_sem, hL, zBn, hfit]; first | done | rfl) (fun hg => ?_) (fun _ => ⟨_, _, _, rfl, rfl⟩) (by simp only [go_sem, hL, zBn, hfit]; rfl) ?_ | (refine zE (by simp only [go_sem, hL, zBn, hfit]; rfl) ?_ ?_ <;> intro hb <;> have hc := hb <;> (try simp only [bF] at hc) <;> (try (exfalso; simp at hc; done))) | exact zz0 | exact rfl | exact qP | fail)
    refine zR (o' := .acc 3 1 (cs ++ [(l.getD k default).Credits]).length (fun i => eInt ((cs ++ [(l.getD k default).Credits]).getD i default))) 3 qR (zA4 eInt cs _ rfl) ?_;refine zR (o' := .acc 3 1 (fs ++ [(k : Int)]).length (fun i => eInt ((fs ++ [(k : Int)]).getD i default))) 2 qR (zA4 eInt fs _ rfl) ?_;refine zS (k + 1, fs ++ [(k : Int)], cs ++ [(l.getD k default).Credits]) ?_ ?_ ⟨rfl, qL, qL⟩
    ·refine ⟨⟨by simp only; omega, by simp; omega, by simp; omega⟩, ?_, ?_⟩
     ·rw [g4, hf]; simp
     ·rw [g5, hc2]; simp
    ·simp only; omega
  ·have hz1 : zA6 n s (l.drop k) k = [] := by rw [List.drop_of_length_le (by omega)]; rfl
   have hz2 : zC5 (l.drop k) = [] := by rw [List.drop_of_length_le (by omega)]; rfl
   rw [hz1, List.append_nil] at g4;rw [hz2, List.append_nil] at g5
   repeat' (first | apply zC | apply zD | apply zA | apply zB | refine zF (by simp only [go_sem, hL]; rfl) qR ?_ ?_ | refine zK qR ?_ | exact zz0 | exact rfl | fail)
   refine zN [0, 1, 2, 3, 4, 6, 7, 8, 11, 45, 46] (fun x : Nat × Unit => [(47, .int .i64 x.1)]) (fun x : Nat × Unit => []) (fun x : Nat × Unit => x.1 ≤ 0) (fun x : Nat × Unit => 0 - x.1) (0, ()) (fun x => qS) ?_ qL qL ?_
   ·exact Nat.le_refl _
   rintro ⟨j, _⟩ q1;simp only at q1
   repeat' (first | apply zC | apply zA | apply zB | refine zF (by simp only [go_sem, hL]; rfl) qR ?_ ?_ | exact zz0 | exact rfl | fail)
   (refine zE qS ?_ ?_ <;> intro hb <;> have hc := hb <;> (try simp only [bF] at hc) <;> (try (exfalso; simp at hc; done)))
   by_cases k1 : n.Kind = 1
   ·have b1 : (n.Kind == 1) = true := by simp [k1]
    have hw : zBk s l 0 n = .iface 175 (.agg [ints (zA6 n s l 0)]) := by simp only [zBk, wT, wL, if_pos k1]
    rw [hw, g4]
    repeat' (first | refine zO 2 qS ?_ | refine zO 3 qS ?_ | apply zC | apply zD | apply zA | apply zB | refine zF (by simp only [go_sem, hL, b1]; rfl) qR ?_ ?_ | (refine zE (by simp only [go_sem, hL, b1]; rfl) ?_ ?_ <;> intro hb <;> have hc := hb <;> (try simp only [bF] at hc) <;> (try (exfalso; simp at hc; done))) | refine zI qR ?_ | refine zK qR ?_ | exact zz0 | exact rfl | exact zAc.pure rfl | fail)
    all_goals exact zAc.le qZ (SLe.refl _)
   have b1 : (n.Kind == 1) = false := by simp [k1]
   by_cases k2 : n.Kind = 2
   ·have b2 : (n.Kind == 2) = true := by simp [k2]
    have hw : zBk s l 0 n = .iface 177 (.agg [ints (zA6 n s l 0), ints (zC5 l), .int .i64 n.N]) := by simp only [zBk, wT, wL, if_neg k1, if_pos k2]
    rw [hw, g4, g5]
    repeat' (first | refine zO 2 qS ?_ | refine zO 3 qS ?_ | apply zC | apply zD | apply zA | apply zB | refine zF (by simp only [go_sem, hL, b1, b2]; rfl) qR ?_ ?_ | (refine zE (by simp only [go_sem, hL, b1, b2]; rfl) ?_ ?_ <;> intro hb <;> have hc := hb <;> (try simp only [bF] at hc) <;> (try (exfalso; simp at hc; done))) | refine zI qR ?_ | refine zK qR ?_ | exact zz0 | exact rfl | exact zAc.pure rfl | fail)
    all_goals exact zAc.le qZ (SLe.refl _)
   have b2 : (n.Kind == 2) = false := by simp [k2]
   by_cases k3 : n.Kind = 3
   ·have b3 : (n.Kind == 3) = true := by simp [k3]
    have hw : zBk s l 0 n = .iface 179 (.agg [.list 1 0 fun _ => .any, .int .i64 0]) := by simp only [zBk, wT, wL, if_neg k1, if_neg k2, if_pos k3]
    rw [hw]
    repeat' (first | refine zO 2 qS ?_ | refine zO 3 qS ?_ | apply zC | apply zD | apply zA | apply zB | refine zF (by simp only [go_sem, hL, b1, b2, b3]; rfl) qR ?_ ?_ | (refine zE (by simp only [go_sem, hL, b1, b2, b3]; rfl) ?_ ?_ <;> intro hb <;> have hc := hb <;> (try simp only [bF] at hc) <;> (try (exfalso; simp at hc; done))) | refine zI qR ?_ | refine zK qR ?_ | exact zz0 | exact rfl | fail)
    all_goals (refine zAc.le qZ ?_; refine SLe.ifc (SLe.agg ?_); exact ⟨SLe.nils, SLe.refl _, trivial⟩)
   have b3 : (n.Kind == 3) = false := by simp [k3]
   have hw : zBk s l 0 n = .iface 179 (.agg [.list 1 0 fun _ => .any, .int .i64 n.N]) := by simp only [zBk, wT, wL, if_neg k1, if_neg k2, if_neg k3]
   rw [hw]
   repeat' (first | refine zO 2 qS ?_ | refine zO 3 qS ?_ | apply zC | apply zG | apply zD | apply zL | apply zA | apply zB | refine zF (by simp only [go_sem, hL, b1, b2, b3]; rfl) qR ?_ ?_ | (refine zE (by simp only [go_sem, hL, b1, b2, b3]; rfl) ?_ ?_ <;> intro hb <;> have hc := hb <;> (try simp only [bF] at hc) <;> (try (exfalso; simp at hc; done))) | refine zI qR ?_ | refine zK qR ?_ | exact zz0 | exact rfl | fail)
   all_goals (refine zAc.le qZ ?_; refine SLe.ifc (SLe.agg ?_); exact ⟨SLe.nils, SLe.refl _, trivial⟩)
 | succ d ih =>
  refine zAa Tryz.call45 Tryz.func45 rfl Tryz.ntmps45 ?_;rintro ds d ⟨n, s, l, ⟨hn, hl⟩, rfl, rfl⟩;refine ⟨by simp, fun w0 => ?_⟩
  repeat' (first | apply zC | apply zD | apply zA | apply zB | refine zF qS qR ?_ ?_ | exact zz0 | exact rfl | fail)
  refine yF 7 3 1 (fun i => eInt (([] : List Int).getD i default)) rfl rfl rfl ?_;refine yF 8 3 1 (fun i => eInt (([] : List Int).getD i default)) rfl rfl rfl ?_;refine zN [0, 1, 2, 3, 4, 6, 7, 8, 14, 15] (fun x : Nat × List Int × List Int => [(16, .int .i64 x.1)]) (fun x : Nat × List Int × List Int => [(2, .acc 3 1 x.2.1.length (fun i => eInt (x.2.1.getD i default))), (3, .acc 3 1 x.2.2.length (fun i => eInt (x.2.2.getD i default)))]) (fun x : Nat × List Int × List Int => (x.1 ≤ l.length ∧ x.2.1.length ≤ x.1 ∧ x.2.2.length ≤ x.1) ∧ zA6 n s l 0 = x.2.1 ++ zA6 n s (l.drop x.1) x.1 ∧ zC5 l = x.2.2 ++ zC5 (l.drop x.1)) (fun x : Nat × List Int × List Int => l.length - x.1) (0, [], []) (fun x => qS) ?_ qL qL ?_
  ·exact ⟨⟨Nat.zero_le _, Nat.zero_le _, Nat.zero_le _⟩, rfl, rfl⟩
  rintro ⟨k, fs, cs⟩ ⟨⟨g1, g2, g3⟩, g4, g5⟩;simp only at g1 g2 g3 g4 g5
  repeat' (first | apply zC | apply zA | apply zB | refine zF qS qR ?_ ?_ | exact zz0 | exact rfl | fail)
  (refine zE qS ?_ ?_ <;> intro hb <;> have hc := hb <;> (try simp only [bF] at hc) <;> (try (exfalso; simp at hc; done)))
  ·have hk : k < l.length := by assumption
   have hf : zA6 n s (l.drop k) k = (if zIz n s (l.getD k default) then [(k : Int)] else []) ++ zA6 n s (l.drop (k + 1)) (k + 1) := by rw [zAv _ _ hk, zA6]
   have hc2 : zC5 (l.drop k) = (l.getD k default).Credits :: zC5 (l.drop (k + 1)) := by rw [zAv _ _ hk]; rfl
   cases hfit : zIz n s (l.getD k default)
   ·rw [hfit] at hf
    repeat' (first | apply zC | apply zG | apply zD | apply zL | apply zA | apply zB | refine zF (by simp only [go_sem, zBn, hfit]; rfl) qR ?_ ?_ | refine zM yFn (by simp only [go_sem, zBn, hfit]; first | done | rfl) ?_ ⟨_, _, rfl, rfl⟩ (by simp only [go_sem, zBn, hfit]; rfl) ?_ | refine zV 31 qR (by simp only [go_sem, zBn, hfit]; rfl) yFm (by simp only [go_sem, zBn, hfit]; first | done | rfl) (fun hg => ?_) (fun _ => ⟨_, _, _, rfl, rfl⟩) (by simp only [go_sem, zBn, hfit]; rfl) ?_ | (refine zE (by simp only [go_sem, zBn, hfit]; rfl) ?_ ?_ <;> intro hb <;> have hc := hb <;> (try simp only [bF] at hc) <;> (try (exfalso; simp at hc; done))) | exact zz0 | exact rfl | exact qP | fail)
    refine zR (o' := .acc 3 1 (cs ++ [(l.getD k default).Credits]).length (fun i => eInt ((cs ++ [(l.getD k default).Credits]).getD i default))) 3 qR (zA4 eInt cs _ rfl) ?_;refine zS (k + 1, fs, cs ++ [(l.getD k default).Credits]) ?_ ?_ ⟨rfl, qL, qL⟩
    ·refine ⟨⟨by simp only; omega, by simp only; omega, by simp; omega⟩, ?_, ?_⟩
     ·rw [g4, hf]; simp
     ·rw [g5, hc2]; simp
    ·simp only; omega
   ·rw [hfit] at hf
    repeat' (first | apply zC | apply zG | apply zD | apply zL | apply zA | apply zB | refine zF (by simp only [go_sem, zBn, hfit]; rfl) qR ?_ ?_ | refine zM yFn (by simp only [go_sem, zBn, hfit]; first | done | rfl) ?_ ⟨_, _, rfl, rfl⟩ (by simp only [go_sem, zBn, hfit]; rfl) ?_ | refine zV 31 qR (by simp only [go_sem, zBn, hfit]; rfl) yFm (by simp only [go_sem, zBn, hfit]; first | done | rfl) (fun hg => ?_) (fun _ => ⟨_, _, _, rfl, rfl⟩) (by simp only [go_sem, zBn, hfit]; rfl) ?_ | (refine zE (by simp only [go_sem, zBn, hfit]; rfl) ?_ ?_ <;> intro hb <;> have hc := hb <;> (try simp only [bF] at hc) <;> (try (exfalso; simp at hc; done))) | exact zz0 | exact rfl | exact qP | fail)
    refine zR (o' := .acc 3 1 (cs ++ [(l.getD k default).Credits]).length (fun i => eInt ((cs ++ [(l.getD k default).Credits]).getD i default))) 3 qR (zA4 eInt cs _ rfl) ?_;refine zR (o' := .acc 3 1 (fs ++ [(k : Int)]).length (fun i => eInt ((fs ++ [(k : Int)]).getD i default))) 2 qR (zA4 eInt fs _ rfl) ?_;refine zS (k + 1, fs ++ [(k : Int)], cs ++ [(l.getD k default).Credits]) ?_ ?_ ⟨rfl, qL, qL⟩
    ·refine ⟨⟨by simp only; omega, by simp; omega, by simp; omega⟩, ?_, ?_⟩
     ·rw [g4, hf]; simp
     ·rw [g5, hc2]; simp
    ·simp only; omega
  ·have hz1 : zA6 n s (l.drop k) k = [] := by rw [List.drop_of_length_le (by omega)]; rfl
   have hz2 : zC5 (l.drop k) = [] := by rw [List.drop_of_length_le (by omega)]; rfl
   rw [hz1, List.append_nil] at g4;rw [hz2, List.append_nil] at g5
   repeat' (first | apply zC | apply zD | apply zA | apply zB | refine zF qS qR ?_ ?_ | refine zK qR ?_ | exact zz0 | exact rfl | fail)
   refine yF 11 99 1 (fun i => zBk s l d (n.L.getD i default)) rfl rfl rfl ?_;refine zN [0, 1, 2, 3, 4, 6, 7, 8, 11, 45, 46] (fun x : Nat × Unit => [(47, .int .i64 x.1)]) (fun x : Nat × Unit => [(4, .acc 99 1 x.1 (fun i => zBk s l d (n.L.getD i default)))]) (fun x : Nat × Unit => x.1 ≤ n.L.length) (fun x : Nat × Unit => n.L.length - x.1) (0, ()) (fun x => qS) ?_ qL qL ?_
   ·exact Nat.zero_le _
   rintro ⟨j, _⟩ q1;simp only at q1;have h3 := hn.1
   repeat' (first | apply zC | apply zA | apply zB | refine zF qS qR ?_ ?_ | exact zz0 | exact rfl | fail)
   (refine zE qS ?_ ?_ <;> intro hb <;> have hc := hb <;> (try simp only [bF] at hc) <;> (try (exfalso; simp at hc; done)))
   ·have hj : j < n.L.length := by assumption
    have hx := hn.2.2 _ (zAk hj);have en : zBc (zB9 n.L) j = zAb (n.L.getD j default) := by rw [zBs _ _ hj, zDz, zB5]; rfl
    repeat' (first | apply zC | apply zG | apply zD | apply zL | apply zA | apply zB | refine zF (by simp only [go_sem, en]; rfl) qR ?_ ?_ | refine zM ih (by simp only [go_sem, en]; first | done | rfl) ?_ ⟨n.L.getD j default, s, l, ⟨hx, hl⟩, rfl, rfl⟩ (by simp only [go_sem, en]; rfl) ?_ | exact zz0 | exact rfl | exact qP | fail)
    refine zR (o' := .acc 99 1 (j + 1) (fun i => zBk s l d (n.L.getD i default))) 4 qR (yBt rfl) ?_;refine zS (j + 1, ()) ?_ ?_ ⟨rfl, qL, qL⟩
    ·simp only; omega
    ·simp only; omega
   ·have hje : j = n.L.length := by omega
    subst hje;by_cases k1 : n.Kind = 1
    ·have b1 : (n.Kind == 1) = true := by simp [k1]
     have hw : zBk s l (d + 1) n = .iface 175 (.agg [ints (zA6 n s l 0)]) := by simp only [zBk, wT, wL, if_pos k1]
     rw [hw, g4]
     repeat' (first | refine zO 2 qS ?_ | refine zO 3 qS ?_ | refine zO 4 qS ?_ | apply zC | apply zD | apply zA | apply zB | refine zF (by simp only [go_sem, b1]; rfl) qR ?_ ?_ | (refine zE (by simp only [go_sem, b1]; rfl) ?_ ?_ <;> intro hb <;> have hc := hb <;> (try simp only [bF] at hc) <;> (try (exfalso; simp at hc; done))) | refine zI qR ?_ | refine zK qR ?_ | exact zz0 | exact rfl | exact zAc.pure rfl | fail)
     all_goals exact zAc.le qZ (SLe.refl _)
    have b1 : (n.Kind == 1) = false := by simp [k1]
    by_cases k2 : n.Kind = 2
    ·have b2 : (n.Kind == 2) = true := by simp [k2]
     have hw : zBk s l (d + 1) n = .iface 177 (.agg [ints (zA6 n s l 0), ints (zC5 l), .int .i64 n.N]) := by simp only [zBk, wT, wL, if_neg k1, if_pos k2]
     rw [hw, g4, g5]
     repeat' (first | refine zO 2 qS ?_ | refine zO 3 qS ?_ | refine zO 4 qS ?_ | apply zC | apply zD | apply zA | apply zB | refine zF (by simp only [go_sem, b1, b2]; rfl) qR ?_ ?_ | (refine zE (by simp only [go_sem, b1, b2]; rfl) ?_ ?_ <;> intro hb <;> have hc := hb <;> (try simp only [bF] at hc) <;> (try (exfalso; simp at hc; done))) | refine zI qR ?_ | refine zK qR ?_ | exact zz0 | exact rfl | exact zAc.pure rfl | fail)
     all_goals exact zAc.le qZ (SLe.refl _)
    have b2 : (n.Kind == 2) = false := by simp [k2]
    by_cases k3 : n.Kind = 3
    ·have b3 : (n.Kind == 3) = true := by simp [k3]
     have hw : zBk s l (d + 1) n = .iface 179 (.agg [.list 1 n.L.length fun i => zBk s l d (n.L.getD i default), .int .i64 (n.L.length : Int)]) := by simp only [zBk, wT, wL, if_neg k1, if_neg k2, if_pos k3]
     rw [hw]
     repeat' (first | refine zO 2 qS ?_ | refine zO 3 qS ?_ | refine zO 4 qS ?_ | apply zC | apply zD | apply zA | apply zB | refine zF (by simp only [go_sem, b1, b2, b3]; rfl) qR ?_ ?_ | (refine zE (by simp only [go_sem, b1, b2, b3]; rfl) ?_ ?_ <;> intro hb <;> have hc := hb <;> (try simp only [bF] at hc) <;> (try (exfalso; simp at hc; done))) | refine zI qR ?_ | refine zK qR ?_ | exact zz0 | exact rfl | exact zAc.pure rfl | fail)
     all_goals exact zAc.le qZ (SLe.refl _)
    have b3 : (n.Kind == 3) = false := by simp [k3]
    have hw : zBk s l (d + 1) n = .iface 179 (.agg [.list 1 n.L.length fun i => zBk s l d (n.L.getD i default), .int .i64 n.N]) := by simp only [zBk, wT, wL, if_neg k1, if_neg k2, if_neg k3]
    rw [hw]
    repeat' (first | refine zO 2 qS ?_ | refine zO 3 qS ?_ | refine zO 4 qS ?_ | apply zC | apply zG | apply zD | apply zL | apply zA | apply zB | refine zF (by simp only [go_sem, b1, b2, b3]; rfl) qR ?_ ?_ | (refine zE (by simp only [go_sem, b1, b2, b3]; rfl) ?_ ?_ <;> intro hb <;> have hc := hb <;> (try simp only [bF] at hc) <;> (try (exfalso; simp at hc; done))) | refine zI qR ?_ | refine zK qR ?_ | exact zz0 | exact rfl | exact zAc.pure rfl | fail)
    all_goals exact zAc.le qZ (SLe.refl _)
end Go.Sx
namespace Go.Sx
open Go.Proofs Go.RowKit
attribute [local irreducible] Run zAi zAy OpT zAc SLe OLe
set_option maxHeartbeats 2000000
set_option maxRecDepth 8000
set_option maxHeartbeats 20000000
def dM (S : Nat → Bool) : MK → Bool
 | .i z => decide (0 ≤ z) && decide (z < 1024) && S z.toNat
 | .s _ => false
def cM (S : Nat → Bool) : Nat := (List.range 1024).countP S
def fT : MK → SD := fun _ => .bool true
def zFt (S : Nat → Bool) : SD := .fmap (some .i64) (cM S) (dM S) fT
def zGt (S : Nat → Bool) : OB := .mp ⟨some .i64, cM S, dM S, fT, none⟩ []
def zJw (z : Nat) (S : Nat → Bool) : Nat → Bool := fun y => y == z || S y
attribute [go_sem] zFt zGt
theorem zR8 (S : Nat → Bool) (z : Nat) (hz : z < 1024) : dM S (.i (z : Int)) = S z := by
 simp only [dM, Int.toNat_natCast]
 rw [decide_eq_true (by omega), decide_eq_true (by omega)]; rfl
theorem zWo {S S' : Nat → Bool} (h : ∀ z, z < 1024 → S z = S' z) : dM S = dM S' := by
 funext q
 cases q with
 | s b => rfl
 | i z =>
  simp only [dM];by_cases h1 : 0 ≤ z ∧ z < 1024
  ·rw [h z.toNat (by omega)]
  ·have : (decide (0 ≤ z) && decide (z < 1024)) = false := by
    rw [← Bool.not_eq_true, zz3, decide_eq_true_eq, decide_eq_true_eq]; exact h1
   rw [this]; rfl
theorem zSf {S S' : Nat → Bool} (h : ∀ z, z < 1024 → S z = S' z) : cM S = cM S' := List.countP_congr fun z hz => by rw [h z (List.mem_range.1 hz)]
theorem zLz {S : Nat → Bool} {q : MK} (h : dM S q = true) : ∃ z : Nat, z < 1024 ∧ q = .i (z : Int) ∧ S z = true := by
 cases q with
 | s b => cases h
 | i z =>
  simp only [dM, zz3, decide_eq_true_eq] at h;exact ⟨z.toNat, by omega, by congr 1; omega, h.2⟩
theorem zL3 (S : Nat → Bool) (z : Nat) (hz : z < 1024) : zFl (.i (z : Int)) (dM S) = dM (zJw z S) := by
 funext q
 simp only [zFl]
 cases q with
 | s b => simp [dM]
 | i y =>
  by_cases h : y = (z : Int)
  ·subst h
   have hI : dM (zJw z S) (.i (z : Int)) = true := by rw [zR8 _ _ hz]; simp [zJw]
   rw [hI]; simp
  ·have h2 : decide (MK.i y = MK.i (z : Int)) = false := decide_eq_false (by simpa using h)
   rw [h2, Bool.false_or];simp only [dM, zJw];by_cases h1 : 0 ≤ y ∧ y < 1024
   ·have : (y.toNat == z) = false := by rw [beq_eq_false_iff_ne]; omega
    rw [this, Bool.false_or]
   ·have : (decide (0 ≤ y) && decide (y < 1024)) = false := by
     rw [← Bool.not_eq_true, zz3, decide_eq_true_eq, decide_eq_true_eq]; exact h1
    rw [this]; rfl
theorem zL0 (S : Nat → Bool) (z : Nat) : ∀ l : List Nat, l.Nodup → z ∈ l → S z = false → l.countP (zJw z S) = l.countP S + 1
 | [], _, h, _ => by cases h
 | x :: r, hn, h, hs => by
  have hn2 := List.nodup_cons.1 hn;by_cases hx : x = z
  ·subst hx
   have hr : r.countP (zJw x S) = r.countP S := List.countP_congr fun y hy => by
    have : y ≠ x := fun hc => hn2.1 (hc ▸ hy);simp [zJw, this]
   rw [List.countP_cons, List.countP_cons, hr];simp [zJw, hs]
  ·have hz : z ∈ r := by
    rcases List.mem_cons.1 h with h | h
    ·exact absurd h.symm hx
    ·exact h
   rw [List.countP_cons, List.countP_cons, zL0 S z r hn2.2 hz hs];have : zJw z S x = S x := by simp [zJw, hx]
   rw [this]; omega
theorem zL4 (S : Nat → Bool) (z : Nat) (hz : z < 1024) : (bif dM S (.i (z : Int)) then cM S else cM S + 1) = cM (zJw z S) := by
 rw [zR8 _ _ hz]
 cases hs : S z
 ·simp only [cond_false, cM]
  exact (zL0 S z _ List.nodup_range (List.mem_range.2 hz) hs).symm
 ·simp only [cond_true]
  exact zSf fun y _ => by
   simp only [zJw];by_cases hy : y = z
   ·subst hy; simp [hs]
   ·simp [hy]
@[go_sem] theorem set_fT (q : MK) : zNn q (.bool true) fT = fT := by
 funext r; simp only [zNn, fT]; split <;> rfl
theorem zWy (S : Nat → Bool) : cM S ≤ 1024 := by
 have := List.countP_le_length (p := S) (l := List.range 1024)
 simpa [cM] using this
def zMl (fs : List Int) (y z : Nat) : Bool := fs.any fun k => !y.testBit k.toNat && (y ||| 2 ^ k.toNat) == z
def unV (V : MK → Bool) (S : Nat → Bool) (C : Nat → Nat → Bool) (z : Nat) : Bool := (List.range 1024).any fun y => V (.i (y : Int)) && S y && C y z
def stepS (S : Nat → Bool) (C : Nat → Nat → Bool) (z : Nat) : Bool := (List.range 1024).any fun y => S y && C y z
theorem zHl (S : Nat → Bool) (C : Nat → Nat → Bool) (z : Nat) : unV (fun _ => false) S C z = false := by simp [unV]
theorem zHm {V : MK → Bool} {S : Nat → Bool} (C : Nat → Nat → Bool) (h : ∀ q, dM S q = true → V q = true) (z : Nat) : unV V S C z = stepS S C z := by
 simp only [unV, stepS]
 rw [Bool.eq_iff_iff, List.any_eq_true, List.any_eq_true]
 constructor
 ·rintro ⟨y, h1, h2⟩
  simp only [zz3] at h2;exact ⟨y, h1, by simp [h2]⟩
 ·rintro ⟨y, h1, h2⟩
  simp only [zz3] at h2;exact ⟨y, h1, by simp [h2, h (.i (y : Int)) (by rw [zR8 _ _ (List.mem_range.1 h1)]; exact h2.1)]⟩
theorem zJ2 {V : MK → Bool} {S : Nat → Bool} (C : Nat → Nat → Bool) {n : Nat} (hn : n < 1024) (hS : S n = true) (z : Nat) : unV (zFl (.i (n : Int)) V) S C z = (unV V S C z || C n z) := by
 simp only [unV, zFl]
 rw [Bool.eq_iff_iff, Bool.or_eq_true, List.any_eq_true, List.any_eq_true]
 constructor
 ·rintro ⟨y, h1, h2⟩
  simp only [zz3, Bool.or_eq_true, decide_eq_true_eq, MKi] at h2;obtain ⟨⟨h3 | h3, h4⟩, h5⟩ := h2
  ·have : y = n := by omega
   subst this; exact .inr h5
  ·exact .inl ⟨y, h1, by simp [h3, h4, h5]⟩
 ·rintro (⟨y, h1, h2⟩ | h)
  ·simp only [zz3] at h2
   exact ⟨y, h1, by simp [h2]⟩
  ·exact ⟨n, List.mem_range.2 hn, by simp [hS, h]⟩
theorem zGx {o o' : OB} (h : o = o') : OLe o o' := h ▸ OLe.refl _
theorem zVm (fs : List Int) (n z i : Nat) (hi : i < fs.length) : zMl (fs.take (i + 1)) n z = (zMl (fs.take i) n z || (!n.testBit (fs.getD i default).toNat && (n ||| 2 ^ (fs.getD i default).toNat) == z)) := by
 simp only [zMl]
 rw [List.take_add_one, List.getElem?_eq_getElem hi, List.any_append, zz2, List.getElem?_eq_getElem hi]
 simp
theorem K270 : FnOK Tryz.prog 270 (fun ds v => ∃ (fs : List Int) (S : Nat → Bool), ((∀ x ∈ fs, 0 ≤ x ∧ x < 10) ∧ fs.length ≤ 10) ∧ ds = [.agg [ints fs], zFt S] ∧ v = zFt (stepS S (zMl fs))) := by
 refine zAa Tryz.call270 Tryz.func270 rfl Tryz.ntmps270 ?_
 rintro ds d ⟨fs, S, ⟨hf, hfl⟩, rfl, rfl⟩
 refine ⟨by simp, fun w0 => ?_⟩
 have e0 : (.mp ⟨some .i64, 0, fun _ => false, fT, none⟩ [] : OB) = zGt (fun _ => false) := by
  simp only [zGt]
  congr 2
  all_goals first | (funext q; cases q <;> simp [dM]; done) | (simp [cM]; done)
 repeat' (first | apply zC | apply zD | apply zA | apply zB | refine zF qS qR ?_ ?_ | refine zHp (fT) qS qS ?_ | refine zIm qS qS qS ?_ | exact zz0 | exact rfl | fail)
 refine zR (o' := zGt (fun _ => false)) 1 qR (zGx e0) ?_
 refine zN [0, 1, 2, 4, 5, 11] (fun x : (MK → Bool) × Option MK × Nat × (Nat → Bool) => []) (fun x : (MK → Bool) × Option MK × Nat × (Nat → Bool) => [(1, zGt x.2.2.2), (2, .mp ⟨some .i64, cM S, dM S, fT, some (.iter x.2.2.1 x.1 x.2.1)⟩ [])]) (fun x : (MK → Bool) × Option MK × Nat × (Nat → Bool) => ∀ z, z < 1024 → x.2.2.2 z = unV x.1 S (zMl fs) z) (fun x : (MK → Bool) × Option MK × Nat × (Nat → Bool) => x.2.2.1) ((fun _ => false), none, cM S, fun _ => false) (fun x => qS) ?_ qL qL ?_
 ·intro z _; exact (zHl _ _ _).symm
 rintro ⟨V, cur, c, T⟩ g1
 simp only at g1
 repeat' (first | apply zC | apply zA | exact rfl | fail)
 refine zIn qS qS qR (fun hdone => ?_) (fun y c' hlt hdom hV => ?_)
 ·have hT : ∀ z, z < 1024 → T z = stepS S (zMl fs) z := fun z hz => by rw [g1 z hz, zHm _ hdone]
  have hE : zFt (stepS S (zMl fs)) = zFt T := by simp only [zFt]; rw [zWo hT, zSf hT]
  rw [hE]
  repeat' (first | refine zO 1 qS ?_ | apply zC | apply zA | apply zB | refine zF qS qR ?_ ?_ | (refine zE qS ?_ ?_ <;> intro hb <;> have hc := hb <;> (try simp only [bF] at hc) <;> (try (exfalso; simp at hc; done))) | refine zI qR ?_ | refine zK qR ?_ | exact zz0 | exact rfl | exact zAc.pure rfl | fail)
  all_goals skip
 ·obtain ⟨n, hn, hy, hS⟩ := zLz hdom
  obtain rfl : y = (n : Int) := by simpa using hy
  repeat' (first | apply zC | apply zB | refine zF qS qR ?_ ?_ | exact zz0 | fail)
  (refine zE qS ?_ ?_ <;> intro hb <;> have hc := hb <;> (try simp only [bF] at hc) <;> (try (exfalso; simp at hc; done)))
  repeat' (first | apply zC | apply zG | apply zD | apply zA | apply zB | refine zF qS qR ?_ ?_ | refine zIo qS qS qS ?_ | exact zz0 | exact rfl | fail)
  refine zN [0, 1, 2, 4, 5, 6, 11, 17, 18] (fun x : Nat × (Nat → Bool) => [(19, .int .i64 x.1)]) (fun x : Nat × (Nat → Bool) => [(1, zGt x.2)]) (fun x : Nat × (Nat → Bool) => x.1 ≤ fs.length ∧ ∀ z, z < 1024 → x.2 z = (T z || zMl (fs.take x.1) n z)) (fun x : Nat × (Nat → Bool) => fs.length - x.1) (0, T) (fun x => qS) ?_ qL qL ?_
  ·exact ⟨Nat.zero_le _, fun z _ => by simp [zMl]⟩
  rintro ⟨i, T2⟩ ⟨q1, q2⟩;simp only at q1 q2
  repeat' (first | apply zC | apply zA | apply zB | refine zF qS qR ?_ ?_ | exact zz0 | exact rfl | fail)
  (refine zE qS ?_ ?_ <;> intro hb <;> have hc := hb <;> (try simp only [bF] at hc) <;> (try (exfalso; simp at hc; done)))
  ·have hi : i < fs.length := by assumption
   obtain ⟨k, hk⟩ : ∃ k : Nat, fs.getD i default = (k : Int) := ⟨(fs.getD i default).toNat, by have := hf _ (zAk hi); omega⟩;have hk10 : k < 10 := by have := hf _ (zAk hi); omega
   have ek := zZc n k (by omega) (by omega);have h2k : (2 : Nat) ^ k ≤ 2 ^ 9 := Nat.pow_le_pow_right (by omega) (by omega);have htk : ∀ z, zMl (fs.take (i + 1)) n z = (zMl (fs.take i) n z || (!n.testBit k && (n ||| 2 ^ k) == z)) := fun z => by rw [zVm _ _ _ _ hi, hk, Int.toNat_natCast]
   cases hbit : n.testBit k
   ·rw [hbit] at ek htk
    have e1 := yCu k (by omega);have e2 := bor n (2 ^ k) (by omega) (by omega);have hzz : n ||| 2 ^ k < 1024 := Nat.or_lt_two_pow (n := 10) (by omega) (by omega);have u1 := zL3 T2 _ hzz;have u2 := zL4 T2 _ hzz
    repeat' (first | apply zC | apply zG | apply zD | apply zL | apply zA | apply zB | refine zF (by simp only [go_sem, hk, ek, e1, e2, u1, u2]; rfl) qR ?_ ?_ | refine zJ4 (by simp only [go_sem, hk, ek, e1, e2, u1, u2]; rfl) ?_ ?_ ?_ | (refine zE (by simp only [go_sem, hk, ek, e1, e2, u1, u2]; rfl) ?_ ?_ <;> intro hb <;> have hc := hb <;> (try simp only [bF] at hc) <;> (try (exfalso; simp at hc; done))) | refine zS (i+1,zJw (n ||| 2^k) T2) ?_ ?_ ⟨rfl, qL, qL⟩ | exact zz0 | exact rfl | omega | exact qP | fail)
    ·have := zWy T2
     show zAn [cM T2 < maxN];exact ⟨Nat.lt_of_le_of_lt this (by decide), trivial⟩
    ·refine ⟨by simp only; omega, fun z hz => ?_⟩
     simp only [zJw];rw [q2 z hz, htk z];simp only [Bool.not_false, Bool.true_and];rw [show (z == n ||| 2 ^ k) = (n ||| 2 ^ k == z) from by rw [Bool.eq_iff_iff, beq_iff_eq, beq_iff_eq]; exact ⟨Eq.symm, Eq.symm⟩];cases T z <;> cases zMl (fs.take i) n z <;> cases (n ||| 2 ^ k == z) <;> rfl
   ·rw [hbit] at ek htk
    repeat' (first | apply zC | apply zG | apply zD | apply zL | apply zA | apply zB | refine zF (by simp only [go_sem, hk, ek]; rfl) qR ?_ ?_ | (refine zE (by simp only [go_sem, hk, ek]; rfl) ?_ ?_ <;> intro hb <;> have hc := hb <;> (try simp only [bF] at hc) <;> (try (exfalso; simp at hc; done))) | refine zS (i+1,T2) ?_ ?_ ⟨rfl, qL, qL⟩ | exact zz0 | exact rfl | omega | exact qP | fail)
    refine ⟨by simp only; omega, fun z hz => ?_⟩;simp only;rw [q2 z hz, htk z];simp
  ·have hz : fs.take i = fs := List.take_of_length_le (by omega)
   rw [hz] at q2
   repeat' (first | apply zL | refine zK qR ?_ | refine zS (zFl (.i (n:Int)) V,some (.i (n:Int)),c',T2) ?_ ?_ ⟨rfl, qL, qL⟩ | omega)
   ·intro z hz
    simp only;rw [q2 z hz, g1 z hz, zJ2 _ hn hS]
   all_goals skip
end Go.Sx
namespace Go.Sx
open Go.Proofs Go.RowKit
attribute [local irreducible] Run zAi zAy OpT zAc SLe OLe
set_option maxHeartbeats 2000000
set_option maxRecDepth 8000
set_option maxHeartbeats 20000000
attribute [go_sem] zC4
def chs (cr : List Int) (N : Int) (set : Nat) : List Int → Nat → Int → Nat → Bool
 | [], next, c, z => (next != set && decide (N ≤ c)) && (z == next)
 | i :: r, next, c, z => chs cr N set r next c z || (!set.testBit i.toNat && chs cr N set r (next ||| 2 ^ i.toNat) (IntKind.i64.wrap (c + cr.getD i.toNat default)) z)
@[go_sem] def oW (fs cr : List Int) (N : Int) : OB := .var [ints fs, ints cr, .int .i64 N]
@[go_sem] def oCh : OB := .var [.fn 272 [.loc 1000 0, .loc 1001 0, .loc 1002 0, .loc 1003 0]]
theorem zJq {S S' : Nat → Bool} (h : ∀ z, z < 1024 → S z = S' z) : zGt S = zGt S' := by simp only [zGt]; rw [zWo h, zSf h]
theorem zM7 {S S' : Nat → Bool} (h : ∀ z, z < 1024 → S z = S' z) : zFt S = zFt S' := by simp only [zFt]; rw [zWo h, zSf h]
theorem K272 (m : Nat) : FnM Tryz.prog 272 (fun ds os v os' => ∃ (fs cr : List Int) (N : Int) (set : Nat) (T : Nat → Bool) (k next : Nat) (c : Int), ((∀ x ∈ fs, 0 ≤ x ∧ x < 10 ∧ x < cr.length) ∧ fs.length ≤ 10 ∧ k + m = fs.length ∧ next < 1024 ∧ set < 1024) ∧ ds = [eInt (k : Nat), eInt (next : Nat), eInt c, .loc 1000 0, .loc 1001 0, .loc 1002 0, .loc 1003 0] ∧ os = [oW fs cr N, .var [.int .i64 (set : Nat)], .var [.omap 1004], oCh, zGt T] ∧ v = .tup [] ∧ os' = zB6 1000 [oW fs cr N, .var [.int .i64 (set : Nat)], .var [.omap 1004], oCh, zGt fun z => T z || chs cr N set (fs.drop k) next c z]) := by
 induction m with
 | zero =>
  refine zBq Tryz.call272 Tryz.func272 rfl Tryz.ntmps272 ?_;rintro ds os d os' ⟨fs, cr, N, set, T, k, next, c, ⟨hf, hfl, hk, hn, hs⟩, rfl, rfl, rfl, rfl⟩;refine ⟨by simp, fun F w0 => ?_⟩;have hkf : k = fs.length := by omega
  have b1 : (((k : Nat) : Int) == ((fs.length : Nat) : Int)) = true := by rw [hkf]; simp
  have hd : fs.drop k = [] := by rw [hkf]; simp
  have u1 := zL3 T next hn;have u2 := zL4 T next hn;rw [hd]
  have bne : (((next : Nat) : Int) != ((set : Nat) : Int)) = (next != set) := by
   rw [bne, bne]; congr 1; rw [Bool.eq_iff_iff, beq_iff_eq, beq_iff_eq]; omega
  cases hcd : (next != set && decide (N ≤ c))
  ·repeat' (first | apply zC | apply zG | apply zA | apply zB | refine zF (by simp only [go_sem, b1, bne, hcd]; rfl) qR ?_ ?_ | (refine zE (by simp only [go_sem, b1, bne, hcd]; rfl) ?_ ?_ <;> intro hb <;> have hc := hb <;> (try simp only [bF] at hc) <;> (try (exfalso; simp at hc; done))) | exact zz0 | exact rfl | exact qP | fail)
   refine zR (o' := zGt fun z => T z || chs cr N set [] next c z) 1004 qR (zGx (zJq fun z _ => ?_)) ?_
   ·simp only [chs, hcd]; simp
   refine yC qR qS ?_ ?_
   ·exact SLe.refl _
   ·(show zC2 _ _; simp only [go_sem]; repeat' (first | exact SLe.any1 | exact trivial | exact zz0 | exact SLe.refl _ | exact OLe.refl _ | exact ⟨_, rfl, OLe.refl _⟩ | refine ⟨_, rfl, ?_⟩ | refine OLe.var ?_ | (show zAh _ _; refine ⟨?_, ?_⟩) | (show zAh [] []; exact zz0) | (refine SLe.int ?_; rw [w64]; omega) | refine SLe.int ?_ | refine SLe.bool ?_ | apply And.intro))
  ·repeat' (first | apply zC | apply zA | apply zB | refine zF (by simp only [go_sem, b1, bne, hcd, u1, u2]; rfl) qR ?_ ?_ | refine zJ4 (by simp only [go_sem, b1, bne, hcd, u1, u2]; rfl) ?_ ?_ ?_ | (refine zE (by simp only [go_sem, b1, bne, hcd, u1, u2]; rfl) ?_ ?_ <;> intro hb <;> have hc := hb <;> (try simp only [bF] at hc) <;> (try (exfalso; simp at hc; done))) | exact zz0 | exact rfl | exact qP | fail)
   ·exact ⟨Nat.lt_of_le_of_lt (zWy T) (by decide), trivial⟩
   refine zR (o' := zGt fun z => T z || chs cr N set [] next c z) 1004 qR (zGx (zJq (S := zJw next T) fun z _ => ?_)) ?_
   ·simp only [chs, hcd, zJw]; rw [Bool.true_and, Bool.or_comm]
   refine yC qR qS ?_ ?_
   ·exact SLe.refl _
   ·(show zC2 _ _; simp only [go_sem]; repeat' (first | exact SLe.any1 | exact trivial | exact zz0 | exact SLe.refl _ | exact OLe.refl _ | exact ⟨_, rfl, OLe.refl _⟩ | refine ⟨_, rfl, ?_⟩ | refine OLe.var ?_ | (show zAh _ _; refine ⟨?_, ?_⟩) | (show zAh [] []; exact zz0) | (refine SLe.int ?_; rw [w64]; omega) | refine SLe.int ?_ | refine SLe.bool ?_ | apply And.intro))
 | succ m ih =>
  refine zBq Tryz.call272 Tryz.func272 rfl Tryz.ntmps272 ?_;rintro ds os d os' ⟨fs, cr, N, set, T, k, next, c, ⟨hf, hfl, hk, hn, hs⟩, rfl, rfl, rfl, rfl⟩;refine ⟨by simp, fun F w0 => ?_⟩;have b1 : (((k : Nat) : Int) == ((fs.length : Nat) : Int)) = false := by rw [beq_eq_false_iff_ne]; omega
  have e1 : IntKind.i64.wrap ((k : Int) + 1) = ((k + 1 : Nat) : Int) := by rw [w64]; omega
  obtain ⟨i, hi⟩ : ∃ i : Nat, fs.getD k default = (i : Int) := ⟨(fs.getD k default).toNat, by have := hf _ (zAk (show k < fs.length by omega)); omega⟩;have hi10 : i < 10 ∧ i < cr.length := by have := hf _ (zAk (show k < fs.length by omega)); omega
  have hdr : fs.drop k = (i : Int) :: fs.drop (k + 1) := by rw [zAv _ _ (show k < fs.length by omega), hi]
  have ek := zZc set i (by omega) (by omega);have h2k : (2 : Nat) ^ i ≤ 2 ^ 9 := Nat.pow_le_pow_right (by omega) (by omega);have e2 := yCu i (by omega);have e3 := bor next (2 ^ i) (by omega) (by omega);have hzz : next ||| 2 ^ i < 1024 := Nat.or_lt_two_pow (n := 10) (by omega) (by omega);obtain ⟨T1, hT1⟩ : ∃ T1 : Nat → Bool, (fun z => T z || chs cr N set (fs.drop (k + 1)) next c z) = T1 := ⟨_, rfl⟩;cases hbit : set.testBit i
  ·rw [hbit] at ek
   have hfin : ∀ z, z < 1024 → (T1 z || chs cr N set (fs.drop (k + 1)) (next ||| 2 ^ i) (IntKind.i64.wrap (c + cr.getD i default)) z) = (T z || chs cr N set (fs.drop k) next c z) := fun z _ => by
    rw [← hT1, hdr]; simp only [chs, Int.toNat_natCast, hbit, Bool.not_false, Bool.true_and, Bool.or_assoc]
   repeat' (first | apply zC | apply zG | apply zA | apply zP | apply zB | refine zF (by simp only [go_sem, b1, e1, hi, ek, hT1, e2, e3]; rfl) qR ?_ ?_ | refine zU (by simp only [go_sem, b1, e1, hi, ek, hT1, e2, e3]; rfl) qR ?_ ?_ | refine zD0 [1000, 1001, 1002, 1003, 1004] ih (by first | (simp only [go_sem, b1, e1, hi, ek, hT1, e2, e3]; done) | (simp only [go_sem, b1, e1, hi, ek, hT1, e2, e3]; rfl)) qR (by simp only [go_sem, b1, e1, hi, ek, hT1, e2, e3]; first | done | rfl) (by first | (simp only [go_sem, b1, e1, hi, ek, hT1, e2, e3]; done) | rfl) (by first | (simp only [go_sem, b1, e1, hi, ek, hT1, e2, e3]; done) | (simp only [go_sem, b1, e1, hi, ek, hT1, e2, e3]; rfl)) ?_ ⟨fs, cr, N, set, T, k+1, next, c, ⟨hf, hfl, by omega, hn, hs⟩, rfl, rfl, rfl, rfl⟩ (by simp only [go_sem, b1, e1, hi, ek, hT1, e2, e3]; rfl) ?_ | refine yBk qK qR (zS4 [1000, 1001, 1002, 1003, 1004] ih (by first | (simp only [go_sem, b1, e1, hi, ek, hT1, e2, e3]; done) | (simp only [go_sem, b1, e1, hi, ek, hT1, e2, e3]; rfl)) qR (by simp only [go_sem, b1, e1, hi, ek, hT1, e2, e3]; first | done | rfl) (by first | (simp only [go_sem, b1, e1, hi, ek, hT1, e2, e3]; done) | rfl) (by first | (simp only [go_sem, b1, e1, hi, ek, hT1, e2, e3]; done) | (simp only [go_sem, b1, e1, hi, ek, hT1, e2, e3]; rfl)) ?_ ⟨fs, cr, N, set, T1, k+1, next ||| 2^i, IntKind.i64.wrap (c+cr.getD i default), ⟨hf, hfl, by omega, hzz, hs⟩, rfl, rfl, rfl, rfl⟩ (by simp only [go_sem, b1, e1, hi, ek, hT1, e2, e3]; rfl)) (by simp only [go_sem, b1, e1, hi, ek, hT1, e2, e3]; rfl) ?_ qK qR ?_ | (refine zE (by simp only [go_sem, b1, e1, hi, ek, hT1, e2, e3]; rfl) ?_ ?_ <;> intro hb <;> have hc := hb <;> (try simp only [bF] at hc) <;> (try (exfalso; simp at hc; done))) | exact zz0 | exact rfl | exact qP | fail)
   refine zR (o' := zGt fun z => T z || chs cr N set (fs.drop k) next c z) 1004 qR (zGx (zJq hfin)) ?_;refine zEd qR ?_ ?_
   ·exact SLe.refl _
   ·(show zC2 _ _; simp only [go_sem]; repeat' (first | exact SLe.any1 | exact trivial | exact zz0 | exact SLe.refl _ | exact OLe.refl _ | exact ⟨_, rfl, OLe.refl _⟩ | refine ⟨_, rfl, ?_⟩ | refine OLe.var ?_ | (show zAh _ _; refine ⟨?_, ?_⟩) | (show zAh [] []; exact zz0) | (refine SLe.int ?_; rw [w64]; omega) | refine SLe.int ?_ | refine SLe.bool ?_ | apply And.intro))
  ·rw [hbit] at ek
   have hfin : ∀ z, z < 1024 → T1 z = (T z || chs cr N set (fs.drop k) next c z) := fun z _ => by
    rw [← hT1, hdr]; simp only [chs, Int.toNat_natCast, hbit, Bool.not_true, Bool.false_and, Bool.or_false]
   repeat' (first | apply zC | apply zG | apply zA | apply zB | refine zF (by simp only [go_sem, b1, e1, hi, ek, hT1]; rfl) qR ?_ ?_ | refine zD0 [1000, 1001, 1002, 1003, 1004] ih (by first | (simp only [go_sem, b1, e1, hi, ek, hT1]; done) | (simp only [go_sem, b1, e1, hi, ek, hT1]; rfl)) qR (by simp only [go_sem, b1, e1, hi, ek, hT1]; first | done | rfl) (by first | (simp only [go_sem, b1, e1, hi, ek, hT1]; done) | rfl) (by first | (simp only [go_sem, b1, e1, hi, ek, hT1]; done) | (simp only [go_sem, b1, e1, hi, ek, hT1]; rfl)) ?_ ⟨fs, cr, N, set, T, k+1, next, c, ⟨hf, hfl, by omega, hn, hs⟩, rfl, rfl, rfl, rfl⟩ (by simp only [go_sem, b1, e1, hi, ek, hT1]; rfl) ?_ | (refine zE (by simp only [go_sem, b1, e1, hi, ek, hT1]; rfl) ?_ ?_ <;> intro hb <;> have hc := hb <;> (try simp only [bF] at hc) <;> (try (exfalso; simp at hc; done))) | exact zz0 | exact rfl | exact qP | fail)
   refine zR (o' := zGt fun z => T z || chs cr N set (fs.drop k) next c z) 1004 qR (zGx (zJq hfin)) ?_;refine zEd qR ?_ ?_
   ·exact SLe.refl _
   ·(show zC2 _ _; simp only [go_sem]; repeat' (first | exact SLe.any1 | exact trivial | exact zz0 | exact SLe.refl _ | exact OLe.refl _ | exact ⟨_, rfl, OLe.refl _⟩ | refine ⟨_, rfl, ?_⟩ | refine OLe.var ?_ | (show zAh _ _; refine ⟨?_, ?_⟩) | (show zAh [] []; exact zz0) | (refine SLe.int ?_; rw [w64]; omega) | refine SLe.int ?_ | refine SLe.bool ?_ | apply And.intro))
end Go.Sx
