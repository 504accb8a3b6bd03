/- Part of the proof that the laws of the judge return true for every input: J32, J33. -/
import Derived.Test.YtmbocmonhcplhaaGreatJ26
import Derived.Test.YtmbocmonhcplhaaGreatJ11
import Derived.Test.YtmbocmonhcplhaaGreatS4
set_option linter.all false
namespace Go.Sx
theorem SLe.ifc {t : Nat} {d d' : SD} (h : SLe d d') : SLe (.iface t d) (.iface t d') := fun h0 e v hv => by
 simp only [rep] at hv ⊢
 obtain ⟨u, hu, hd⟩ := hv
 exact ⟨u, hu, h _ _ _ hd⟩
open Go.Proofs Go.RowKit
attribute [local irreducible] Run RunL RunD OpT SLe0 SLe OLe
set_option maxHeartbeats 2000000
set_option maxRecDepth 8000
set_option maxHeartbeats 20000000
def fitsL (n : Need) (s : Scale) : List Ach → Nat → List Int
 | [], _ => []
 | a :: r, k => (if isFit n s a then [(k : Int)] else []) ++ fitsL n s r (k + 1)
def credL (l : List Ach) : List Int := l.map (·.Credits)
def wT (n : Need) : Nat := if n.Kind = 1 then 175 else if n.Kind = 2 then 177 else 179
def wL (s : Scale) (l : List Ach) : Nat → Need → List SD
 | 0, n => if n.Kind = 1 then [ints (fitsL n s l 0)] else if n.Kind = 2 then [ints (fitsL n s l 0), ints (credL l), .int .i64 n.N] else [.list 1 0 fun _ => .any, .int .i64 (if n.Kind = 3 then 0 else n.N)]
 | d + 1, n => if n.Kind = 1 then [ints (fitsL n s l 0)] else if n.Kind = 2 then [ints (fitsL n s l 0), ints (credL l), .int .i64 n.N] else [.list 1 n.L.length fun i => .iface (wT (n.L.getD i default)) (.agg (wL s l d (n.L.getD i default))), .int .i64 (if n.Kind = 3 then (n.L.length : Int) else n.N)]
@[go_sem] def wantF (s : Scale) (l : List Ach) (d : Nat) (n : Need) : SD := .iface (wT n) (.agg (wL s l d n))
@[go_sem] theorem wL_men (s : Scale) (l : List Ach) (d : Nat) (n : Need) (k : Nat) : menL k (wL s l d n) = false := by
 cases d <;> simp only [wL] <;> split <;> first | rfl | (split <;> rfl)
@[go_sem] theorem wL_pure (s : Scale) (l : List Ach) (d : Nat) (n : Need) : pureL (wL s l d n) = true := by
 cases d <;> simp only [wL] <;> split <;> first | rfl | (split <;> rfl)
@[go_sem] theorem wL_all (s : Scale) (l : List Ach) (d : Nat) (n : Need) (pb ph : Nat → Bool) : allNL pb ph (wL s l d n) = true := by
 cases d <;> simp only [wL] <;> split <;> first | rfl | (split <;> rfl)
@[go_sem] theorem wL_ren (s : Scale) (l : List Ach) (d : Nat) (n : Need) (σ : Nat → Nat) : renL σ (wL s l d n) = wL s l d n := by
 cases d <;> simp only [wL] <;> split <;> first | rfl | (split <;> rfl)
@[go_sem] theorem wL_frz (s : Scale) (l : List Ach) (d : Nat) (n : Need) (k : Nat) (d0 : SD) (L : Nat → SD) (dm : SD) : frzL k d0 L dm (wL s l d n) = wL s l d n := by
 cases d <;> simp only [wL] <;> split <;> first | rfl | (split <;> rfl)
@[go_sem] theorem wL_pur (s : Scale) (l : List Ach) (d : Nat) (n : Need) (k : Nat) : purgeL k (wL s l d n) = wL s l d n := by
 cases d <;> simp only [wL] <;> split <;> first | rfl | (split <;> rfl)
theorem fitsL_len (n : Need) (s : Scale) : ∀ (l : List Ach) (k : Nat), (fitsL n s l k).length ≤ l.length
 | [], _ => Nat.le_refl _
 | a :: r, k => by
  have := fitsL_len n s r (k + 1)
  simp only [fitsL, List.length_append, List.length_cons]
  split <;> simp <;> omega
theorem fit_eq (n : Need) (s : Scale) (a : Ach) : ((n.Set.any fun y => sameC a.Course y) && reaches s a.Grade n.Min) = isFit n s a := by
 have : (fun y => sameC a.Course y) = fun c => sameC c a.Course := funext fun y => by rw [sameC_iff, sameC_iff]; exact decide_eq_decide.2 ⟨Eq.symm, Eq.symm⟩
 rw [this]; rfl
theorem ole_app {T es k : Nat} {f g : Nat → SD} (h : g 0 = f k) : OLe (.acc T es (k + 1) (joinF k f g)) (.acc T es (k + 1) f) := OLe.accS rfl fun i hi => by
 simp only [joinF]
 by_cases hik : i < k
 ·rw [if_pos hik]
 ·have : i = k := by omega
  subst this
  rw [if_neg hik, Nat.sub_self, h]
theorem K45 (d : Nat) : FnOK Tryz.prog 45 (fun ds v => ∃ (n : Need) (s : Scale) (l : List Ach), (MOk d n ∧ l.length ≤ 10) ∧ ds = [eNeedU n, eScale s, eList 8 eAch l] ∧ v = wantF s l d n) := by
 induction d with
 | zero =>
  refine fn_intro Tryz.call45 Tryz.func45 rfl Tryz.ntmps45 ?_
  rintro ds d ⟨n, s, l, ⟨hn, hl⟩, rfl, rfl⟩
  refine ⟨by simp, fun w0 => ?_⟩
  have hL : n.L = [] := hn
  repeat' (first | apply zC | apply zD | apply zA | apply zB | refine zF (by simp only [go_sem, hL]; rfl) qR ?_ ?_ | exact True.intro | exact rfl | fail)
  refine yF 7 3 1 (fun i => eInt (([] : List Int).getD i default)) rfl rfl rfl ?_
  refine yF 8 3 1 (fun i => eInt (([] : List Int).getD i default)) rfl rfl rfl ?_
  refine zN [0, 1, 2, 3, 4, 6, 7, 8, 14, 15] (fun x : Nat × List Int × List Int => [(16, .int .i64 x.1)]) (fun x : Nat × List Int × List Int => [(2, .acc 3 1 x.2.1.length (fun i => eInt (x.2.1.getD i default))), (3, .acc 3 1 x.2.2.length (fun i => eInt (x.2.2.getD i default)))]) (fun x : Nat × List Int × List Int => (x.1 ≤ l.length ∧ x.2.1.length ≤ x.1 ∧ x.2.2.length ≤ x.1) ∧ fitsL n s l 0 = x.2.1 ++ fitsL n s (l.drop x.1) x.1 ∧ credL l = x.2.2 ++ credL (l.drop x.1)) (fun x : Nat × List Int × List Int => l.length - x.1) (0, [], []) (fun x => qS) ?_ qL qL ?_
  ·exact ⟨⟨Nat.zero_le _, Nat.zero_le _, Nat.zero_le _⟩, rfl, rfl⟩
  rintro ⟨k, fs, cs⟩ ⟨⟨g1, g2, g3⟩, g4, g5⟩
  simp only at g1 g2 g3 g4 g5
  repeat' (first | apply zC | apply zA | apply zB | refine zF (by simp only [go_sem, hL]; rfl) qR ?_ ?_ | exact True.intro | exact rfl | fail)
  (refine zE qS ?_ ?_ <;> intro hb <;> have hc := hb <;> (try simp only [bF] at hc) <;> (try (exfalso; simp at hc; done)))
  ·have hk : k < l.length := by assumption
   have hf : fitsL n s (l.drop k) k = (if isFit n s (l.getD k default) then [(k : Int)] else []) ++ fitsL n s (l.drop (k + 1)) (k + 1) := by rw [drop_get _ _ hk, fitsL]
   have hc2 : credL (l.drop k) = (l.getD k default).Credits :: credL (l.drop (k + 1)) := by rw [drop_get _ _ hk]; rfl
   cases hfit : isFit n s (l.getD k default)
   ·rw [hfit] at hf
    repeat' (first | apply zC | apply zG | apply zD | apply zL | apply zA | apply zB | refine zF (by simp only [go_sem, hL, fit_eq, hfit]; rfl) qR ?_ ?_ | refine zM K103 (by simp only [go_sem, hL, fit_eq, hfit]; first | done | rfl) ?_ ⟨_, _, rfl, rfl⟩ (by simp only [go_sem, hL, fit_eq, hfit]; rfl) ?_ | refine zV 31 qR (by simp only [go_sem, hL, fit_eq, hfit]; rfl) K104 (by simp only [go_sem, hL, fit_eq, hfit]; first | done | rfl) (fun hg => ?_) (fun _ => ⟨_, _, _, rfl, rfl⟩) (by simp only [go_sem, hL, fit_eq, hfit]; rfl) ?_ | (refine zE (by simp only [go_sem, hL, fit_eq, hfit]; rfl) ?_ ?_ <;> intro hb <;> have hc := hb <;> (try simp only [bF] at hc) <;> (try (exfalso; simp at hc; done))) | exact True.intro | exact rfl | exact qP | fail)
    refine zR (o' := .acc 3 1 (cs ++ [(l.getD k default).Credits]).length (fun i => eInt ((cs ++ [(l.getD k default).Credits]).getD i default))) 3 qR (ole_snoc eInt cs _ rfl) ?_
    refine zS (k + 1, fs, cs ++ [(l.getD k default).Credits]) ?_ ?_ ⟨rfl, qL, qL⟩
    ·refine ⟨⟨by simp only; omega, by simp only; omega, by simp; omega⟩, ?_, ?_⟩
     ·rw [g4, hf]; simp
     ·rw [g5, hc2]; simp
    ·simp only; omega
   ·rw [hfit] at hf
    repeat' (first | apply zC | apply zG | apply zD | apply zL | apply zA | apply zB | refine zF (by simp only [go_sem, hL, fit_eq, hfit]; rfl) qR ?_ ?_ | refine zM K103 (by simp only [go_sem, hL, fit_eq, hfit]; first | done | rfl) ?_ ⟨_, _, rfl, rfl⟩ (by simp only [go_sem, hL, fit_eq, hfit]; rfl) ?_ | refine zV 31 qR (by simp only [go_sem, hL, fit_eq, hfit]; rfl) K104 (by simp only [go_sem, hL, fit_eq, hfit]; first | done | rfl) (fun hg => ?_) (fun _ => ⟨_, _, _, rfl, rfl⟩) (by simp only [go_sem, hL, fit_eq, hfit]; rfl) ?_ | (refine zE (by simp only [go_sem, hL, fit_eq, hfit]; rfl) ?_ ?_ <;> intro hb <;> have hc := hb <;> (try simp only [bF] at hc) <;> (try (exfalso; simp at hc; done))) | exact True.intro | exact rfl | exact qP | fail)
    refine zR (o' := .acc 3 1 (cs ++ [(l.getD k default).Credits]).length (fun i => eInt ((cs ++ [(l.getD k default).Credits]).getD i default))) 3 qR (ole_snoc eInt cs _ rfl) ?_
    refine zR (o' := .acc 3 1 (fs ++ [(k : Int)]).length (fun i => eInt ((fs ++ [(k : Int)]).getD i default))) 2 qR (ole_snoc eInt fs _ rfl) ?_
    refine zS (k + 1, fs ++ [(k : Int)], cs ++ [(l.getD k default).Credits]) ?_ ?_ ⟨rfl, qL, qL⟩
    ·refine ⟨⟨by simp only; omega, by simp; omega, by simp; omega⟩, ?_, ?_⟩
     ·rw [g4, hf]; simp
     ·rw [g5, hc2]; simp
    ·simp only; omega
  ·have hz1 : fitsL n s (l.drop k) k = [] := by rw [List.drop_of_length_le (by omega)]; rfl
   have hz2 : credL (l.drop k) = [] := by rw [List.drop_of_length_le (by omega)]; rfl
   rw [hz1, List.append_nil] at g4
   rw [hz2, List.append_nil] at g5
   repeat' (first | apply zC | apply zD | apply zA | apply zB | refine zF (by simp only [go_sem, hL]; rfl) qR ?_ ?_ | refine zK qR ?_ | exact True.intro | exact rfl | fail)
   refine zN [0, 1, 2, 3, 4, 6, 7, 8, 11, 45, 46] (fun x : Nat × Unit => [(47, .int .i64 x.1)]) (fun x : Nat × Unit => []) (fun x : Nat × Unit => x.1 ≤ 0) (fun x : Nat × Unit => 0 - x.1) (0, ()) (fun x => qS) ?_ qL qL ?_
   ·exact Nat.le_refl _
   rintro ⟨j, _⟩ q1
   simp only at q1
   repeat' (first | apply zC | apply zA | apply zB | refine zF (by simp only [go_sem, hL]; rfl) qR ?_ ?_ | exact True.intro | exact rfl | fail)
   (refine zE qS ?_ ?_ <;> intro hb <;> have hc := hb <;> (try simp only [bF] at hc) <;> (try (exfalso; simp at hc; done)))
   by_cases k1 : n.Kind = 1
   ·have b1 : (n.Kind == 1) = true := by simp [k1]
    have hw : wantF s l 0 n = .iface 175 (.agg [ints (fitsL n s l 0)]) := by simp only [wantF, wT, wL, if_pos k1]
    rw [hw, g4]
    repeat' (first | refine zO 2 qS ?_ | refine zO 3 qS ?_ | apply zC | apply zD | apply zA | apply zB | refine zF (by simp only [go_sem, hL, b1]; rfl) qR ?_ ?_ | (refine zE (by simp only [go_sem, hL, b1]; rfl) ?_ ?_ <;> intro hb <;> have hc := hb <;> (try simp only [bF] at hc) <;> (try (exfalso; simp at hc; done))) | refine zI qR ?_ | refine zK qR ?_ | exact True.intro | exact rfl | exact SLe0.pure rfl | fail)
    all_goals exact SLe0.le qZ (SLe.refl _)
   have b1 : (n.Kind == 1) = false := by simp [k1]
   by_cases k2 : n.Kind = 2
   ·have b2 : (n.Kind == 2) = true := by simp [k2]
    have hw : wantF s l 0 n = .iface 177 (.agg [ints (fitsL n s l 0), ints (credL l), .int .i64 n.N]) := by simp only [wantF, wT, wL, if_neg k1, if_pos k2]
    rw [hw, g4, g5]
    repeat' (first | refine zO 2 qS ?_ | refine zO 3 qS ?_ | apply zC | apply zD | apply zA | apply zB | refine zF (by simp only [go_sem, hL, b1, b2]; rfl) qR ?_ ?_ | (refine zE (by simp only [go_sem, hL, b1, b2]; rfl) ?_ ?_ <;> intro hb <;> have hc := hb <;> (try simp only [bF] at hc) <;> (try (exfalso; simp at hc; done))) | refine zI qR ?_ | refine zK qR ?_ | exact True.intro | exact rfl | exact SLe0.pure rfl | fail)
    all_goals exact SLe0.le qZ (SLe.refl _)
   have b2 : (n.Kind == 2) = false := by simp [k2]
   by_cases k3 : n.Kind = 3
   ·have b3 : (n.Kind == 3) = true := by simp [k3]
    have hw : wantF s l 0 n = .iface 179 (.agg [.list 1 0 fun _ => .any, .int .i64 0]) := by simp only [wantF, wT, wL, if_neg k1, if_neg k2, if_pos k3]
    rw [hw]
    repeat' (first | refine zO 2 qS ?_ | refine zO 3 qS ?_ | apply zC | apply zD | apply zA | apply zB | refine zF (by simp only [go_sem, hL, b1, b2, b3]; rfl) qR ?_ ?_ | (refine zE (by simp only [go_sem, hL, b1, b2, b3]; rfl) ?_ ?_ <;> intro hb <;> have hc := hb <;> (try simp only [bF] at hc) <;> (try (exfalso; simp at hc; done))) | refine zI qR ?_ | refine zK qR ?_ | exact True.intro | exact rfl | fail)
    all_goals (refine SLe0.le qZ ?_; refine SLe.ifc (SLe.agg ?_); exact ⟨SLe.nils, SLe.refl _, trivial⟩)
   have b3 : (n.Kind == 3) = false := by simp [k3]
   have hw : wantF s l 0 n = .iface 179 (.agg [.list 1 0 fun _ => .any, .int .i64 n.N]) := by simp only [wantF, wT, wL, if_neg k1, if_neg k2, if_neg k3]
   rw [hw]
   repeat' (first | refine zO 2 qS ?_ | refine zO 3 qS ?_ | apply zC | apply zG | apply zD | apply zL | apply zA | apply zB | refine zF (by simp only [go_sem, hL, b1, b2, b3]; rfl) qR ?_ ?_ | (refine zE (by simp only [go_sem, hL, b1, b2, b3]; rfl) ?_ ?_ <;> intro hb <;> have hc := hb <;> (try simp only [bF] at hc) <;> (try (exfalso; simp at hc; done))) | refine zI qR ?_ | refine zK qR ?_ | exact True.intro | exact rfl | fail)
   all_goals (refine SLe0.le qZ ?_; refine SLe.ifc (SLe.agg ?_); exact ⟨SLe.nils, SLe.refl _, trivial⟩)
 | succ d ih =>
  refine fn_intro Tryz.call45 Tryz.func45 rfl Tryz.ntmps45 ?_
  rintro ds d ⟨n, s, l, ⟨hn, hl⟩, rfl, rfl⟩
  refine ⟨by simp, fun w0 => ?_⟩
  repeat' (first | apply zC | apply zD | apply zA | apply zB | refine zF qS qR ?_ ?_ | exact True.intro | exact rfl | fail)
  refine yF 7 3 1 (fun i => eInt (([] : List Int).getD i default)) rfl rfl rfl ?_
  refine yF 8 3 1 (fun i => eInt (([] : List Int).getD i default)) rfl rfl rfl ?_
  refine zN [0, 1, 2, 3, 4, 6, 7, 8, 14, 15] (fun x : Nat × List Int × List Int => [(16, .int .i64 x.1)]) (fun x : Nat × List Int × List Int => [(2, .acc 3 1 x.2.1.length (fun i => eInt (x.2.1.getD i default))), (3, .acc 3 1 x.2.2.length (fun i => eInt (x.2.2.getD i default)))]) (fun x : Nat × List Int × List Int => (x.1 ≤ l.length ∧ x.2.1.length ≤ x.1 ∧ x.2.2.length ≤ x.1) ∧ fitsL n s l 0 = x.2.1 ++ fitsL n s (l.drop x.1) x.1 ∧ credL l = x.2.2 ++ credL (l.drop x.1)) (fun x : Nat × List Int × List Int => l.length - x.1) (0, [], []) (fun x => qS) ?_ qL qL ?_
  ·exact ⟨⟨Nat.zero_le _, Nat.zero_le _, Nat.zero_le _⟩, rfl, rfl⟩
  rintro ⟨k, fs, cs⟩ ⟨⟨g1, g2, g3⟩, g4, g5⟩
  simp only at g1 g2 g3 g4 g5
  repeat' (first | apply zC | apply zA | apply zB | refine zF qS qR ?_ ?_ | exact True.intro | exact rfl | fail)
  (refine zE qS ?_ ?_ <;> intro hb <;> have hc := hb <;> (try simp only [bF] at hc) <;> (try (exfalso; simp at hc; done)))
  ·have hk : k < l.length := by assumption
   have hf : fitsL n s (l.drop k) k = (if isFit n s (l.getD k default) then [(k : Int)] else []) ++ fitsL n s (l.drop (k + 1)) (k + 1) := by rw [drop_get _ _ hk, fitsL]
   have hc2 : credL (l.drop k) = (l.getD k default).Credits :: credL (l.drop (k + 1)) := by rw [drop_get _ _ hk]; rfl
   cases hfit : isFit n s (l.getD k default)
   ·rw [hfit] at hf
    repeat' (first | apply zC | apply zG | apply zD | apply zL | apply zA | apply zB | refine zF (by simp only [go_sem, fit_eq, hfit]; rfl) qR ?_ ?_ | refine zM K103 (by simp only [go_sem, fit_eq, hfit]; first | done | rfl) ?_ ⟨_, _, rfl, rfl⟩ (by simp only [go_sem, fit_eq, hfit]; rfl) ?_ | refine zV 31 qR (by simp only [go_sem, fit_eq, hfit]; rfl) K104 (by simp only [go_sem, fit_eq, hfit]; first | done | rfl) (fun hg => ?_) (fun _ => ⟨_, _, _, rfl, rfl⟩) (by simp only [go_sem, fit_eq, hfit]; rfl) ?_ | (refine zE (by simp only [go_sem, fit_eq, hfit]; rfl) ?_ ?_ <;> intro hb <;> have hc := hb <;> (try simp only [bF] at hc) <;> (try (exfalso; simp at hc; done))) | exact True.intro | exact rfl | exact qP | fail)
    refine zR (o' := .acc 3 1 (cs ++ [(l.getD k default).Credits]).length (fun i => eInt ((cs ++ [(l.getD k default).Credits]).getD i default))) 3 qR (ole_snoc eInt cs _ rfl) ?_
    refine zS (k + 1, fs, cs ++ [(l.getD k default).Credits]) ?_ ?_ ⟨rfl, qL, qL⟩
    ·refine ⟨⟨by simp only; omega, by simp only; omega, by simp; omega⟩, ?_, ?_⟩
     ·rw [g4, hf]; simp
     ·rw [g5, hc2]; simp
    ·simp only; omega
   ·rw [hfit] at hf
    repeat' (first | apply zC | apply zG | apply zD | apply zL | apply zA | apply zB | refine zF (by simp only [go_sem, fit_eq, hfit]; rfl) qR ?_ ?_ | refine zM K103 (by simp only [go_sem, fit_eq, hfit]; first | done | rfl) ?_ ⟨_, _, rfl, rfl⟩ (by simp only [go_sem, fit_eq, hfit]; rfl) ?_ | refine zV 31 qR (by simp only [go_sem, fit_eq, hfit]; rfl) K104 (by simp only [go_sem, fit_eq, hfit]; first | done | rfl) (fun hg => ?_) (fun _ => ⟨_, _, _, rfl, rfl⟩) (by simp only [go_sem, fit_eq, hfit]; rfl) ?_ | (refine zE (by simp only [go_sem, fit_eq, hfit]; rfl) ?_ ?_ <;> intro hb <;> have hc := hb <;> (try simp only [bF] at hc) <;> (try (exfalso; simp at hc; done))) | exact True.intro | exact rfl | exact qP | fail)
    refine zR (o' := .acc 3 1 (cs ++ [(l.getD k default).Credits]).length (fun i => eInt ((cs ++ [(l.getD k default).Credits]).getD i default))) 3 qR (ole_snoc eInt cs _ rfl) ?_
    refine zR (o' := .acc 3 1 (fs ++ [(k : Int)]).length (fun i => eInt ((fs ++ [(k : Int)]).getD i default))) 2 qR (ole_snoc eInt fs _ rfl) ?_
    refine zS (k + 1, fs ++ [(k : Int)], cs ++ [(l.getD k default).Credits]) ?_ ?_ ⟨rfl, qL, qL⟩
    ·refine ⟨⟨by simp only; omega, by simp; omega, by simp; omega⟩, ?_, ?_⟩
     ·rw [g4, hf]; simp
     ·rw [g5, hc2]; simp
    ·simp only; omega
  ·have hz1 : fitsL n s (l.drop k) k = [] := by rw [List.drop_of_length_le (by omega)]; rfl
   have hz2 : credL (l.drop k) = [] := by rw [List.drop_of_length_le (by omega)]; rfl
   rw [hz1, List.append_nil] at g4
   rw [hz2, List.append_nil] at g5
   repeat' (first | apply zC | apply zD | apply zA | apply zB | refine zF qS qR ?_ ?_ | refine zK qR ?_ | exact True.intro | exact rfl | fail)
   refine yF 11 99 1 (fun i => wantF s l d (n.L.getD i default)) rfl rfl rfl ?_
   refine zN [0, 1, 2, 3, 4, 6, 7, 8, 11, 45, 46] (fun x : Nat × Unit => [(47, .int .i64 x.1)]) (fun x : Nat × Unit => [(4, .acc 99 1 x.1 (fun i => wantF s l d (n.L.getD i default)))]) (fun x : Nat × Unit => x.1 ≤ n.L.length) (fun x : Nat × Unit => n.L.length - x.1) (0, ()) (fun x => qS) ?_ qL qL ?_
   ·exact Nat.zero_le _
   rintro ⟨j, _⟩ q1
   simp only at q1
   have h3 := hn.1
   repeat' (first | apply zC | apply zA | apply zB | refine zF qS qR ?_ ?_ | exact True.intro | exact rfl | fail)
   (refine zE qS ?_ ?_ <;> intro hb <;> have hc := hb <;> (try simp only [bF] at hc) <;> (try (exfalso; simp at hc; done)))
   ·have hj : j < n.L.length := by assumption
    have hx := hn.2.2 _ (getD_mem' hj)
    have en : nthSD (eNeeds n.L) j = eNeedU (n.L.getD j default) := by rw [eNeeds_nth _ _ hj, eNeed, nCells_eq]; rfl
    repeat' (first | apply zC | apply zG | apply zD | apply zL | apply zA | apply zB | refine zF (by simp only [go_sem, en]; rfl) qR ?_ ?_ | refine zM ih (by simp only [go_sem, en]; first | done | rfl) ?_ ⟨n.L.getD j default, s, l, ⟨hx, hl⟩, rfl, rfl⟩ (by simp only [go_sem, en]; rfl) ?_ | exact True.intro | exact rfl | exact qP | fail)
    refine zR (o' := .acc 99 1 (j + 1) (fun i => wantF s l d (n.L.getD i default))) 4 qR (ole_app rfl) ?_
    refine zS (j + 1, ()) ?_ ?_ ⟨rfl, qL, qL⟩
    ·simp only; omega
    ·simp only; omega
   ·have hje : j = n.L.length := by omega
    subst hje
    by_cases k1 : n.Kind = 1
    ·have b1 : (n.Kind == 1) = true := by simp [k1]
     have hw : wantF s l (d + 1) n = .iface 175 (.agg [ints (fitsL n s l 0)]) := by simp only [wantF, wT, wL, if_pos k1]
     rw [hw, g4]
     repeat' (first | refine zO 2 qS ?_ | refine zO 3 qS ?_ | refine zO 4 qS ?_ | apply zC | apply zD | apply zA | apply zB | refine zF (by simp only [go_sem, b1]; rfl) qR ?_ ?_ | (refine zE (by simp only [go_sem, b1]; rfl) ?_ ?_ <;> intro hb <;> have hc := hb <;> (try simp only [bF] at hc) <;> (try (exfalso; simp at hc; done))) | refine zI qR ?_ | refine zK qR ?_ | exact True.intro | exact rfl | exact SLe0.pure rfl | fail)
     all_goals exact SLe0.le qZ (SLe.refl _)
    have b1 : (n.Kind == 1) = false := by simp [k1]
    by_cases k2 : n.Kind = 2
    ·have b2 : (n.Kind == 2) = true := by simp [k2]
     have hw : wantF s l (d + 1) n = .iface 177 (.agg [ints (fitsL n s l 0), ints (credL l), .int .i64 n.N]) := by simp only [wantF, wT, wL, if_neg k1, if_pos k2]
     rw [hw, g4, g5]
     repeat' (first | refine zO 2 qS ?_ | refine zO 3 qS ?_ | refine zO 4 qS ?_ | apply zC | apply zD | apply zA | apply zB | refine zF (by simp only [go_sem, b1, b2]; rfl) qR ?_ ?_ | (refine zE (by simp only [go_sem, b1, b2]; rfl) ?_ ?_ <;> intro hb <;> have hc := hb <;> (try simp only [bF] at hc) <;> (try (exfalso; simp at hc; done))) | refine zI qR ?_ | refine zK qR ?_ | exact True.intro | exact rfl | exact SLe0.pure rfl | fail)
     all_goals exact SLe0.le qZ (SLe.refl _)
    have b2 : (n.Kind == 2) = false := by simp [k2]
    by_cases k3 : n.Kind = 3
    ·have b3 : (n.Kind == 3) = true := by simp [k3]
     have hw : wantF s l (d + 1) n = .iface 179 (.agg [.list 1 n.L.length fun i => wantF s l d (n.L.getD i default), .int .i64 (n.L.length : Int)]) := by simp only [wantF, wT, wL, if_neg k1, if_neg k2, if_pos k3]
     rw [hw]
     repeat' (first | refine zO 2 qS ?_ | refine zO 3 qS ?_ | refine zO 4 qS ?_ | apply zC | apply zD | apply zA | apply zB | refine zF (by simp only [go_sem, b1, b2, b3]; rfl) qR ?_ ?_ | (refine zE (by simp only [go_sem, b1, b2, b3]; rfl) ?_ ?_ <;> intro hb <;> have hc := hb <;> (try simp only [bF] at hc) <;> (try (exfalso; simp at hc; done))) | refine zI qR ?_ | refine zK qR ?_ | exact True.intro | exact rfl | exact SLe0.pure rfl | fail)
     all_goals exact SLe0.le qZ (SLe.refl _)
    have b3 : (n.Kind == 3) = false := by simp [k3]
    have hw : wantF s l (d + 1) n = .iface 179 (.agg [.list 1 n.L.length fun i => wantF s l d (n.L.getD i default), .int .i64 n.N]) := by simp only [wantF, wT, wL, if_neg k1, if_neg k2, if_neg k3]
    rw [hw]
    repeat' (first | refine zO 2 qS ?_ | refine zO 3 qS ?_ | refine zO 4 qS ?_ | apply zC | apply zG | apply zD | apply zL | apply zA | apply zB | refine zF (by simp only [go_sem, b1, b2, b3]; rfl) qR ?_ ?_ | (refine zE (by simp only [go_sem, b1, b2, b3]; rfl) ?_ ?_ <;> intro hb <;> have hc := hb <;> (try simp only [bF] at hc) <;> (try (exfalso; simp at hc; done))) | refine zI qR ?_ | refine zK qR ?_ | exact True.intro | exact rfl | exact SLe0.pure rfl | fail)
    all_goals exact SLe0.le qZ (SLe.refl _)
end Go.Sx
namespace Go.Sx
open Go.Proofs Go.RowKit
attribute [local irreducible] Run RunL RunD OpT SLe0 SLe OLe
set_option maxHeartbeats 2000000
set_option maxRecDepth 8000
set_option maxHeartbeats 20000000
theorem asY179 : AsY Tryz.prog 179 179 := fun _ _ _ => by kernel_rfl
theorem asN175 : AsN Tryz.prog 175 179 (.agg #[.slice none 0 0, .int .i64 0]) := fun _ _ _ => by kernel_rfl
theorem asN177 : AsN Tryz.prog 177 179 (.agg #[.slice none 0 0, .int .i64 0]) := fun _ _ _ => by kernel_rfl
def cntW : Nat → Need → Nat
 | 0, n => if n.Kind = 1 ∨ n.Kind = 2 then 1 else 0
 | d + 1, n => if n.Kind = 1 ∨ n.Kind = 2 then 1 else (n.L.map (cntW d)).sum
theorem cntW_le : ∀ (d : Nat) (n : Need), MOk d n → cntW d n ≤ cntB d
 | 0, n, _ => by simp only [cntW, cntB]; split <;> omega
 | d + 1, n, h => by
  have hc := cntB_pos d
  simp only [cntW, cntB]
  split
  ·omega
  ·have key : ∀ l : List Need, (∀ x ∈ l, MOk d x) → (l.map (cntW d)).sum ≤ l.length * cntB d := by
    intro l
    induction l with
    | nil => intro _; simp
    | cons x r ih =>
     intro hx
     have h1 := ih fun y hy => hx y (List.mem_cons_of_mem _ hy)
     have h2 := cntW_le d x (hx x (List.mem_cons_self ..))
     simp only [List.map_cons, List.sum_cons, List.length_cons, Nat.succ_mul]
     omega
   have h5 := key n.L h.2.2
   have h6 := Nat.mul_le_mul_right (cntB d) h.1
   omega
theorem K46 (d : Nat) (hcn : cntB d ≤ 10000) : FnOK Tryz.prog 46 (fun ds v => ∃ (n : Need) (s : Scale) (l : List Ach), MOk d n ∧ ds = [wantF s l d n] ∧ v = eInt (cntW d n : Nat)) := by
 induction d with
 | zero =>
  refine fn_intro Tryz.call46 Tryz.func46 rfl Tryz.ntmps46 ?_
  rintro ds d ⟨n, s, l, hn, rfl, rfl⟩
  refine ⟨by simp, fun w0 => ?_⟩
  by_cases k1 : n.Kind = 1
  ·have hw : wantF s l 0 n = .iface 175 (.agg (wL s l 0 n)) := by simp only [wantF, wT, if_pos k1]
   have hc : cntW 0 n = 1 := by rw [cntW, if_pos (.inl k1)]
   rw [hw, hc]
   repeat' (first | apply zC | apply zG | apply zD | apply zL | apply zA | apply zB | refine zF qS qR ?_ ?_ | refine steptaN asN175 qS qS ?_ | (refine zE qS ?_ ?_ <;> intro hb <;> have hc := hb <;> (try simp only [bF] at hc) <;> (try (exfalso; simp at hc; done))) | refine zI qR ?_ | exact True.intro | exact rfl | refine SLe0.int ?_ | fail)
   all_goals skip
  by_cases k2 : n.Kind = 2
  ·have hw : wantF s l 0 n = .iface 177 (.agg (wL s l 0 n)) := by simp only [wantF, wT, if_neg k1, if_pos k2]
   have hc : cntW 0 n = 1 := by rw [cntW, if_pos (.inr k2)]
   rw [hw, hc]
   repeat' (first | apply zC | apply zG | apply zD | apply zL | apply zA | apply zB | refine zF qS qR ?_ ?_ | refine steptaN asN177 qS qS ?_ | (refine zE qS ?_ ?_ <;> intro hb <;> have hc := hb <;> (try simp only [bF] at hc) <;> (try (exfalso; simp at hc; done))) | refine zI qR ?_ | exact True.intro | exact rfl | refine SLe0.int ?_ | fail)
   all_goals skip
  ·have hw : wantF s l 0 n = .iface 179 (.agg [.list 1 0 fun _ => .any, .int .i64 (if n.Kind = 3 then 0 else n.N)]) := by simp only [wantF, wT, wL, if_neg k1, if_neg k2]
   have hc : cntW 0 n = 0 := by rw [cntW, if_neg (by omega)]
   rw [hw, hc]
   repeat' (first | apply zC | apply zD | apply zA | apply zB | refine zF qS qR ?_ ?_ | refine steptaY asY179 qS qS ?_ | (refine zE qS ?_ ?_ <;> intro hb <;> have hc := hb <;> (try simp only [bF] at hc) <;> (try (exfalso; simp at hc; done))) | exact True.intro | exact rfl | fail)
   refine zN [0, 12, 13] (fun x : Nat × Unit => [(14, .int .i64 x.1), (3, .int .i64 0)]) (fun x : Nat × Unit => []) (fun x : Nat × Unit => x.1 ≤ 0) (fun x : Nat × Unit => 0 - x.1) (0, ()) (fun x => qS) ?_ qL qL ?_
   ·exact Nat.le_refl _
   rintro ⟨j, _⟩ q1
   simp only at q1
   repeat' (first | apply zC | apply zL | apply zA | apply zB | refine zF qS qR ?_ ?_ | (refine zE qS ?_ ?_ <;> intro hb <;> have hc := hb <;> (try simp only [bF] at hc) <;> (try (exfalso; simp at hc; done))) | refine zI qR ?_ | refine zK qR ?_ | exact True.intro | exact rfl | refine SLe0.int ?_ | fail)
   all_goals skip
 | succ d ih =>
  refine fn_intro Tryz.call46 Tryz.func46 rfl Tryz.ntmps46 ?_
  rintro ds d ⟨n, s, l, hn, rfl, rfl⟩
  refine ⟨by simp, fun w0 => ?_⟩
  by_cases k1 : n.Kind = 1
  ·have hw : wantF s l (d + 1) n = .iface 175 (.agg (wL s l (d + 1) n)) := by simp only [wantF, wT, if_pos k1]
   have hc : cntW (d + 1) n = 1 := by rw [cntW, if_pos (.inl k1)]
   rw [hw, hc]
   repeat' (first | apply zC | apply zG | apply zD | apply zL | apply zA | apply zB | refine zF qS qR ?_ ?_ | refine steptaN asN175 qS qS ?_ | (refine zE qS ?_ ?_ <;> intro hb <;> have hc := hb <;> (try simp only [bF] at hc) <;> (try (exfalso; simp at hc; done))) | refine zI qR ?_ | exact True.intro | exact rfl | refine SLe0.int ?_ | fail)
   all_goals skip
  by_cases k2 : n.Kind = 2
  ·have hw : wantF s l (d + 1) n = .iface 177 (.agg (wL s l (d + 1) n)) := by simp only [wantF, wT, if_neg k1, if_pos k2]
   have hc : cntW (d + 1) n = 1 := by rw [cntW, if_pos (.inr k2)]
   rw [hw, hc]
   repeat' (first | apply zC | apply zG | apply zD | apply zL | apply zA | apply zB | refine zF qS qR ?_ ?_ | refine steptaN asN177 qS qS ?_ | (refine zE qS ?_ ?_ <;> intro hb <;> have hc := hb <;> (try simp only [bF] at hc) <;> (try (exfalso; simp at hc; done))) | refine zI qR ?_ | exact True.intro | exact rfl | refine SLe0.int ?_ | fail)
   all_goals skip
  ·have hw : wantF s l (d + 1) n = .iface 179 (.agg [.list 1 n.L.length fun i => wantF s l d (n.L.getD i default), .int .i64 (if n.Kind = 3 then (n.L.length : Int) else n.N)]) := by simp only [wantF, wT, wL, if_neg k1, if_neg k2]
   have hc0 : cntW (d + 1) n = (n.L.map (cntW d)).sum := by rw [cntW, if_neg (by omega)]
   have hb1 : cntB d ≤ 10000 := by simp only [cntB] at hcn; omega
   have hsum : ∀ i, i ≤ n.L.length → ((n.L.take i).map (cntW d)).sum ≤ i * cntB d := by
    intro i
    induction i with
    | zero => intro _; simp
    | succ i ihh =>
     intro hi
     have h1 := ihh (by omega)
     have h2 := cntW_le d _ (hn.2.2 _ (getD_mem' (show i < n.L.length by omega)))
     rw [List.take_add_one, List.getElem?_eq_getElem (by omega), List.map_append, List.sum_append]
     rw [List.getD_eq_getElem?_getD, List.getElem?_eq_getElem (by omega)] at h2
     simp only [Option.getD_some] at h2
     simp only [Option.toList_some, List.map_cons, List.map_nil, List.sum_cons, List.sum_nil, Nat.succ_mul]
     omega
   rw [hw, hc0]
   repeat' (first | apply zC | apply zD | apply zA | apply zB | refine zF qS qR ?_ ?_ | refine steptaY asY179 qS qS ?_ | (refine zE qS ?_ ?_ <;> intro hb <;> have hc := hb <;> (try simp only [bF] at hc) <;> (try (exfalso; simp at hc; done))) | exact True.intro | exact rfl | fail)
   refine zN [0, 12, 13] (fun x : Nat × Unit => [(14, .int .i64 x.1), (3, .int .i64 (((n.L.take x.1).map (cntW d)).sum : Nat))]) (fun x : Nat × Unit => []) (fun x : Nat × Unit => x.1 ≤ n.L.length) (fun x : Nat × Unit => n.L.length - x.1) (0, ()) (fun x => qS) ?_ qL qL ?_
   ·exact Nat.zero_le _
   rintro ⟨j, _⟩ q1
   simp only at q1
   repeat' (first | apply zC | apply zA | apply zB | refine zF qS qR ?_ ?_ | exact True.intro | exact rfl | fail)
   (refine zE qS ?_ ?_ <;> intro hb <;> have hc := hb <;> (try simp only [bF] at hc) <;> (try (exfalso; simp at hc; done)))
   ·have hj : j < n.L.length := by assumption
    have h3 := hn.1
    have h7 := hsum j q1
    have h8 : j * cntB d ≤ 8 * 10000 := Nat.mul_le_mul (by omega) hb1
    have hx := hn.2.2 _ (getD_mem' hj)
    have h9 := cntW_le d _ hx
    have hs : ((n.L.take (j + 1)).map (cntW d)).sum = ((n.L.take j).map (cntW d)).sum + cntW d (n.L.getD j default) := by
     rw [List.take_add_one, List.getElem?_eq_getElem hj, List.map_append, List.sum_append, List.getD_eq_getElem?_getD, List.getElem?_eq_getElem hj]
     simp
    have e1 : IntKind.i64.wrap ((((n.L.take j).map (cntW d)).sum : Int) + (cntW d (n.L.getD j default) : Int)) = (((n.L.take (j + 1)).map (cntW d)).sum : Nat) := by rw [w64, hs]; omega
    have ih' := ih hb1
    repeat' (first | apply zC | apply zG | apply zD | apply zL | apply zA | apply zB | refine zF (by simp only [go_sem, e1]; rfl) qR ?_ ?_ | refine zM ih' (by simp only [go_sem, e1]; first | done | rfl) ?_ ⟨n.L.getD j default, s, l, hx, rfl, rfl⟩ (by simp only [go_sem, e1]; rfl) ?_ | refine zS (j+1,()) ?_ ?_ ⟨rfl, qL, qL⟩ | exact True.intro | exact rfl | omega | exact qP | fail)
    all_goals skip
   ·have hje : j = n.L.length := by omega
    repeat' (first | apply zC | apply zL | apply zA | apply zB | refine zF qS qR ?_ ?_ | refine zI qR ?_ | refine zK qR ?_ | exact True.intro | exact rfl | refine SLe0.int ?_ | fail)
    all_goals (rw [hje, List.take_length])
end Go.Sx
