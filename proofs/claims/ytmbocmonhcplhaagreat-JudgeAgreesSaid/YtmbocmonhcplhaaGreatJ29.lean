/- Part of the proof that the laws of the judge return true for every input: J26, J27, J29. -/
import Derived.Test.YtmbocmonhcplhaaGreatJ25
import Derived.Test.YtmbocmonhcplhaaGreatS4
import Derived.Test.YtmbocmonhcplhaaGreatS3
set_option linter.all false
namespace Go.Sx
theorem zA4 {α : Type} [Inhabited α] {T es : Nat} (enc : α → SD) (l : List α) (x : α) {f : Nat → SD} (hf : f 0 = enc x) : OLe (.acc T es (l.length + 1) (zA3 l.length (fun i => enc (l.getD i default)) f)) (.acc T es (l ++ [x]).length (fun i => enc ((l ++ [x]).getD i default))) := OLe.accS (by simp) fun i hi => by
 simp only [zA3]
 by_cases h : i < l.length
 ·rw [if_pos h, zz2, zz2, List.getElem?_append_left h]
 ·have : i = l.length := by omega
  subst this;rw [if_neg h, Nat.sub_self, hf];simp
open Go.Proofs Go.RowKit
attribute [local irreducible] Run zAi zAy OpT zAc SLe OLe
set_option maxHeartbeats 2000000
set_option maxRecDepth 8000
set_option maxHeartbeats 20000000
theorem K224 : FnOK Tryz.prog 224 (fun ds d => ∃ f : Nat → SD, ds = [.list 5 0 f] ∧ d = .list 5 0 f) := by
 refine zAa Tryz.call224 Tryz.func224 rfl Tryz.ntmps224 ?_
 rintro ds d ⟨f, rfl, rfl⟩
 refine ⟨by simp, fun w0 => ?_⟩
 repeat' (first | refine zO 0 qS ?_ | apply zC | apply zG | apply zA | apply zB | refine zF qS qR ?_ ?_ | refine yG qS qZ qZ (fun bn hbn => ?_) | (refine zE qS ?_ ?_ <;> intro hb <;> have hc := hb <;> (try simp only [bF] at hc) <;> (try (exfalso; simp at hc; done))) | refine zI qR ?_ | exact zz0 | exact rfl | exact zAc.pure rfl | exact qP | fail)
 all_goals first | exact zAc.le qZ SLe.nils | exact zAc.le qZ (SLe.list rfl fun i hi => absurd hi (Nat.not_lt_zero _))
theorem yFk : FnOK Tryz.prog 187 (fun ds d => ∃ n : Need, n.L = [] ∧ ds = [zAb n] ∧ d = zAb n) := by
 refine zAa Tryz.call187 Tryz.func187 rfl Tryz.ntmps187 ?_
 rintro ds d ⟨n, hL, rfl, rfl⟩
 refine ⟨by simp, fun w0 => ?_⟩
 repeat' (first | apply zC | apply zD | apply zA | apply zP | apply zB | refine zF (by simp only [go_sem, hL]; rfl) qR ?_ ?_ | refine zU (by simp only [go_sem, hL]; rfl) qR ?_ ?_ | refine zQ qK qK ?_ | refine zX K223 (by simp only [go_sem, hL]; first | done | rfl) ?_ ⟨_, rfl, rfl⟩ (by simp only [go_sem, hL]; rfl) ?_ | refine zX K224 (by simp only [go_sem, hL]; first | done | rfl) ?_ ⟨_, rfl, rfl⟩ (by simp only [go_sem, hL]; rfl) ?_ | exact zz0 | exact rfl | fail)
 refine zN [0, 1, 2, 14, 15] (fun x : Nat × Unit => [(16, .int .i64 x.1)]) (fun x : Nat × Unit => []) (fun x : Nat × Unit => x.1 ≤ 0) (fun x : Nat × Unit => 0 - x.1) (0, ()) (fun x => qS) ?_ qL qL ?_
 ·exact Nat.le_refl _
 rintro ⟨j, _⟩ g1
 simp only at g1
 repeat' (first | apply zC | apply zA | apply zB | refine zF (by simp only [go_sem, hL]; rfl) qR ?_ ?_ | (refine zE (by simp only [go_sem, hL]; rfl) ?_ ?_ <;> intro hb <;> have hc := hb <;> (try simp only [bF] at hc) <;> (try (exfalso; simp at hc; done))) | refine yA qR (by simp only [go_sem, hL]; rfl) ?_ | refine zK qR ?_ | exact zz0 | exact rfl | fail)
 all_goals (refine zAc.le qZ ?_; simp only [go_sem, hL]; exact SLe.refl _)
theorem FnOK.both {P : Program} {f : Nat} {R R1 R2 : List SD → SD → Prop} (K1 : FnOK P f R1) (K2 : FnOK P f R2) (h : ∀ ds d, R ds d → R1 ds d ∨ R2 ds d) : FnOK P f R :=
 ⟨K1.call, fun ds d hr => by
  rcases h ds d hr with h | h
  ·exact K1.ok ds d h
  ·exact K2.ok ds d h⟩
attribute [local go_sem] asA asS zIs
theorem yG9 : FnM Tryz.prog 224 (fun ds os d os' => ∃ (n : Nat) (f : Nat → SD), (0 < n ∧ n ≤ 10000) ∧ ds = [.list 5 n f] ∧ os = [] ∧ d = .acc 0 ∧ os' = [(0, .acc 30 5 n f)]) := by
 refine zBq Tryz.call224 Tryz.func224 rfl Tryz.ntmps224 ?_
 rintro ds os d os' ⟨n, f, ⟨hn, hn2⟩, rfl, rfl, rfl, rfl⟩
 refine ⟨by simp, fun F w0 => ?_⟩
 obtain ⟨m, rfl⟩ : ∃ m, n = m + 1 := ⟨n - 1, by omega⟩
 repeat' (first | apply zC | apply zG | apply zA | apply zB | refine zF qS qR ?_ ?_ | (refine zE qS ?_ ?_ <;> intro hb <;> have hc := hb <;> (try simp only [bF] at hc) <;> (try (exfalso; simp at hc; done))) | exact zz0 | exact rfl | exact qP | fail)
 refine zR (o' := .acc 30 5 (m + 1) f) 0 qR (OLe.accS (Nat.zero_add _) fun i _ => by simp only [zA3, Nat.not_lt_zero, if_false, Nat.sub_zero]) ?_
 refine yC qR qS ?_ ?_
 ·exact SLe.refl _
 ·(show zC2 _ _; simp only [go_sem]; repeat' (first | exact SLe.any1 | exact trivial | exact zz0 | exact SLe.refl _ | exact OLe.refl _ | exact ⟨_, rfl, OLe.refl _⟩ | refine ⟨_, rfl, ?_⟩ | refine OLe.var ?_ | (show zAh _ _; refine ⟨?_, ?_⟩) | (show zAh [] []; exact zz0) | (refine SLe.int ?_; rw [w64]; omega) | refine SLe.int ?_ | refine SLe.bool ?_ | apply And.intro))
theorem zVr (l : List Need) : OLe (.acc 30 5 l.length fun i => zBc (zB9 l) i) (.acc 30 5 l.length fun i => zAb (l.getD i default)) := OLe.accS rfl fun i hi => by
 show zBc (zB9 l) i = _
 rw [zBs _ _ hi, zDz, zB5]; rfl
theorem zH9 (l : List Need) : SLe (.list 5 l.length fun i => zAb (l.getD i default)) (.list 5 l.length fun i => zBc (zB9 l) i) := SLe.list rfl fun i hi => by
 show _ = zBc (zB9 l) i
 rw [zBs _ _ hi, zDz, zB5]; rfl
theorem zUi {f : Nat → SD} {j : Nat} {d : SD} (h : d = f j) : Sx.setF j d f = f := by
 funext i
 simp only [Sx.setF]
 by_cases hi : i = j
 ·rw [if_pos hi, hi, h]
 ·rw [if_neg hi]
theorem zDj (d : Nat) : ∀ (k m : Nat) (n : Need), (zAd d k n).length = (zAd d m n).length := by
 induction d with
 | zero => intro k m n; rfl
 | succ d ih =>
  intro k m n
  have key : ∀ l : List Need, (l.flatMap (zAd d (k + 1))).length = (l.flatMap (zAd d (m + 1))).length := by
   intro l
   induction l with
   | nil => rfl
   | cons x r ihl => simp only [List.flatMap_cons, List.length_append, ihl, ih (k + 1) (m + 1) x]
  simp only [zAd, List.length_cons, key]
theorem yHa (d : Nat) (ih : FnOK Tryz.prog 187 (fun ds v => ∃ n : Need, (NOk d n ∧ (zAd d 1 n).length ≤ 10000) ∧ ds = [zAb n] ∧ v = zAb n)) : FnOK Tryz.prog 187 (fun ds v => ∃ n : Need, (n.L ≠ [] ∧ NOk (d + 1) n ∧ (zAd (d + 1) 1 n).length ≤ 10000) ∧ ds = [zAb n] ∧ v = zAb n) := by
 refine zAa Tryz.call187 Tryz.func187 rfl Tryz.ntmps187 ?_
 rintro ds d ⟨n, ⟨hL, hn, hl⟩, rfl, rfl⟩
 refine ⟨by simp, fun w0 => ?_⟩
 have hL0 : 0 < n.L.length := List.length_pos_iff.2 hL
 have c2 := zAu d 1 n
 have c3 := zM2 d (1 + 1) n.L
 have hl2 : n.L.length ≤ 10000 := by omega
 repeat' (first | apply zC | apply zD | apply zA | apply zP | apply zB | refine zF qS qR ?_ ?_ | refine zU qS qR ?_ ?_ | refine zQ qK qK ?_ | refine zX K223 qD ?_ ⟨_, rfl, rfl⟩ qS ?_ | refine zB4 [] yG9 qR qD qZ qF ?_ ⟨_, _, ⟨hL0, hl2⟩, rfl, rfl, rfl, rfl⟩ qS ?_ | exact zz0 | exact rfl | fail)
 refine zR 2 qR (zVr n.L) ?_
 refine zN [0, 1, 2, 14, 15] (fun x : Nat × Unit => [(16, .int .i64 x.1)]) (fun x : Nat × Unit => []) (fun x : Nat × Unit => x.1 ≤ n.L.length) (fun x : Nat × Unit => n.L.length - x.1) (0, ()) (fun x => qS) ?_ qL qL ?_
 ·exact Nat.zero_le _
 rintro ⟨j, _⟩ g1
 simp only at g1
 repeat' (first | apply zC | apply zA | apply zB | refine zF qS qR ?_ ?_ | exact zz0 | exact rfl | fail)
 (refine zE qS ?_ ?_ <;> intro hb <;> have hc := hb <;> (try simp only [bF] at hc) <;> (try (exfalso; simp at hc; done)))
 ·have hj : j < n.L.length := by assumption
  have hx := hn.2 _ (zAk hj)
  have h9 : (zAd d 1 (n.L.getD j default)).length ≤ 10000 := by
   have h1 := zIf (zAd d (1 + 1)) n.L j hj;rw [zDj d (1 + 1) 1] at h1;omega
  repeat' (first | apply zC | apply zG | apply zD | apply zL | apply zA | apply zP | apply zB | refine zF qS qR ?_ ?_ | refine zU qS qR ?_ ?_ | refine zQ qK qK ?_ | refine zI6 qS qS ?_ | refine zX ih qD ?_ ⟨n.L.getD j default, ⟨hx, h9⟩, rfl, rfl⟩ qS ?_ | exact zz0 | exact rfl | exact qP | fail)
  refine zR (o' := .acc 30 5 n.L.length fun i => zAb (n.L.getD i default)) 2 qR (OLe.accS rfl fun i _ => congrFun (zUi (f := fun i => zAb (n.L.getD i default)) rfl) i) ?_
  repeat' (first | refine zS (j+1,()) ?_ ?_ ⟨rfl, qL, qL⟩ | omega)
 ·repeat' (first | refine zO 2 qS ?_ | apply zC | apply zA | apply zB | refine zF qS qR ?_ ?_ | refine yA qR qS ?_ | refine zK qR ?_ | exact zz0 | exact rfl | fail)
  all_goals (refine zAc.le qZ ?_)
  all_goals exact SLe.agg ⟨SLe.refl _, SLe.refl _, SLe.refl _, SLe.refl _, zH9 n.L, trivial⟩
theorem K187 : ∀ d : Nat, FnOK Tryz.prog 187 (fun ds v => ∃ n : Need, (NOk d n ∧ (zAd d 1 n).length ≤ 10000) ∧ ds = [zAb n] ∧ v = zAb n) := by
 intro d
 induction d with
 | zero =>
  exact yFk.weaken fun ds v ⟨n, ⟨hn, _⟩, h1, h2⟩ => ⟨n, hn.2, h1, h2⟩
 | succ d ih =>
  refine FnOK.both yFk (R2 := fun ds v => ∃ n : Need, (n.L ≠ [] ∧ NOk (d + 1) n ∧ (zAd (d + 1) 1 n).length ≤ 10000) ∧ ds = [zAb n] ∧ v = zAb n) (yHa d ih) fun ds v ⟨n, ⟨hn, hl⟩, h1, h2⟩ => ?_;by_cases hL : n.L = []
  ·exact .inl ⟨n, hL, h1, h2⟩
  ·exact .inr ⟨n, ⟨hL, hn, hl⟩, h1, h2⟩
def lvs (qs : List (Need × Nat)) : List Need := (qs.map (·.1)).filter zIy
@[go_sem] def eLv (l : List Need) : SD := .list 5 l.length fun i => zAb (l.getD i default)
theorem NOk.up : ∀ {d : Nat} {n : Need}, NOk d n → NOk (d + 1) n ∧ (zAd (d + 1) 1 n).length = (zAd d 1 n).length
 | 0, n, h => by
  have hL : n.L = [] := h.2;refine ⟨⟨h.1, fun x hx => by rw [hL] at hx; cases hx⟩, ?_⟩;simp only [zAd, hL]; rfl
 | d + 1, n, h => by
  refine ⟨⟨h.1, fun x hx => (NOk.up (h.2 x hx)).1⟩, ?_⟩
  have key : ∀ l : List Need, (∀ x ∈ l, NOk d x) → (l.flatMap (zAd (d + 1) (1 + 1))).length = (l.flatMap (zAd d (1 + 1))).length := by
   intro l
   induction l with
   | nil => intro _; rfl
   | cons x r ihl =>
    intro hx;simp only [List.flatMap_cons, List.length_append];rw [ihl fun y hy => hx y (List.mem_cons_of_mem _ hy), zDj (d + 1) (1 + 1) 1, zDj d (1 + 1) 1, (NOk.up (hx x (List.mem_cons_self ..))).2]
  have h1 := zAu (d + 1) 1 n;have h2 := zAu d 1 n;have h3 := key n.L h.2;omega
theorem zH8 : ∀ (d k : Nat) (n : Need), NOk d n → ∀ x ∈ zAd d k n, NOk d x.1 ∧ (zAd d 1 x.1).length ≤ (zAd d k n).length
 | 0, k, n, h, x, hx => by
  simp only [zAd, List.mem_singleton] at hx;subst hx;exact ⟨h, Nat.le_refl _⟩
 | d + 1, k, n, h, x, hx => by
  simp only [zAd, List.mem_cons, List.mem_flatMap] at hx
  rcases hx with rfl | ⟨y, hy, hx⟩
  ·exact ⟨h, by rw [zDj (d + 1) 1 k]; exact Nat.le_refl _⟩
  ·obtain ⟨h1, h2⟩ := zH8 d (k + 1) y (h.2 y hy) x hx
   have h3 : (zAd d (k + 1) y).length ≤ (n.L.flatMap (zAd d (k + 1))).length := by
    obtain ⟨i, hi, rfl⟩ := List.getElem_of_mem hy;have := zIf (zAd d (k + 1)) n.L i hi;rw [zz2, List.getElem?_eq_getElem hi] at this;simp only [Option.getD_some] at this;omega
   have h4 := zAu d k n;obtain ⟨h5, h6⟩ := NOk.up h1;exact ⟨h5, by omega⟩
theorem K144 (d : Nat) (hd : 1 + d ≤ 100) : FnOK Tryz.prog 144 (fun ds v => ∃ n : Need, WOk d n ∧ ds = [zAb n] ∧ v = eLv (lvs (zAd d 1 n))) := by
 have K := K143 d hd
 have K187x := K187 d
 refine zAa Tryz.call144 Tryz.func144 rfl Tryz.ntmps144 ?_
 rintro ds d ⟨n, hn, rfl, rfl⟩
 refine ⟨by simp, fun w0 => ?_⟩
 have hlen := hn.2
 have hok : ∀ x ∈ zAd d 1 n, NOk d x.1 ∧ (zAd d 1 x.1).length ≤ 1000 := fun x hx => ⟨(zH8 d 1 n hn.1 x hx).1, Nat.le_trans (zH8 d 1 n hn.1 x hx).2 hlen⟩
 repeat' (first | apply zC | apply zD | apply zA | apply zB | refine zF qS qR ?_ ?_ | refine zM K qD ?_ ⟨n, hn, rfl, rfl⟩ qS ?_ | exact zz0 | exact rfl | fail)
 generalize zAd d 1 n = qs at hlen hok ⊢
 refine yF 2 30 5 (fun i => zAb (([] : List Need).getD i default)) rfl rfl rfl ?_
 refine zN [0, 1, 2, 14, 15] (fun x : Nat × List Need => [(16, .int .i64 x.1)]) (fun x : Nat × List Need => [(1, .acc 30 5 x.2.length (fun i => zAb (x.2.getD i default)))]) (fun x : Nat × List Need => (x.1 ≤ qs.length ∧ x.2.length ≤ x.1) ∧ lvs qs = x.2 ++ lvs (qs.drop x.1)) (fun x : Nat × List Need => qs.length - x.1) (0, []) (fun x => qS) ?_ qL qL ?_
 ·exact ⟨⟨Nat.zero_le _, Nat.zero_le _⟩, rfl⟩
 rintro ⟨j, ls⟩ ⟨⟨g1, g3⟩, g2⟩
 simp only at g1 g2 g3
 repeat' (first | apply zC | apply zA | apply zB | refine zF qS qR ?_ ?_ | exact zz0 | exact rfl | fail)
 (refine zE qS ?_ ?_ <;> intro hb <;> have hc := hb <;> (try simp only [bF] at hc) <;> (try (exfalso; simp at hc; done)))
 ·have hj : j < qs.length := by assumption
  have hx := hok _ (zAk hj)
  have hdrop : lvs (qs.drop j) = (if zIy (qs.getD j default).1 then [(qs.getD j default).1] else []) ++ lvs (qs.drop (j + 1)) := by
   rw [lvs, List.drop_eq_getElem_cons hj, List.map_cons, List.filter_cons, zz2, List.getElem?_eq_getElem hj];simp only [Option.getD_some, lvs];split <;> rfl
  cases hlf : zIy (qs.getD j default).1
  ·rw [hlf] at hdrop
   repeat' (first | apply zC | apply zG | apply zD | apply zL | apply zA | apply zB | refine zF (by simp only [go_sem, hlf]; rfl) qR ?_ ?_ | refine zM K186 (by simp only [go_sem, hlf]; first | done | rfl) ?_ ⟨_, rfl, rfl⟩ (by simp only [go_sem, hlf]; rfl) ?_ | (refine zE (by simp only [go_sem, hlf]; rfl) ?_ ?_ <;> intro hb <;> have hc := hb <;> (try simp only [bF] at hc) <;> (try (exfalso; simp at hc; done))) | refine zS (j+1,ls) ?_ ?_ ⟨rfl, qL, qL⟩ | exact zz0 | exact rfl | omega | exact qP | fail)
   exact ⟨⟨by simp only; omega, by simp only; omega⟩, by rw [g2, hdrop]; rfl⟩
  ·rw [hlf] at hdrop
   repeat' (first | apply zC | apply zG | apply zD | apply zL | apply zA | apply zB | refine zF (by simp only [go_sem, hlf]; rfl) qR ?_ ?_ | refine zM K186 (by simp only [go_sem, hlf]; first | done | rfl) ?_ ⟨_, rfl, rfl⟩ (by simp only [go_sem, hlf]; rfl) ?_ | refine zM K187x (by simp only [go_sem, hlf]; first | done | rfl) ?_ ⟨_, ⟨hx.1, by have := hx.2; omega⟩, rfl, rfl⟩ (by simp only [go_sem, hlf]; rfl) ?_ | (refine zE (by simp only [go_sem, hlf]; rfl) ?_ ?_ <;> intro hb <;> have hc := hb <;> (try simp only [bF] at hc) <;> (try (exfalso; simp at hc; done))) | exact zz0 | exact rfl | exact qP | fail)
   refine zR (o' := .acc 30 5 (ls ++ [(qs.getD j default).1]).length (fun i => zAb ((ls ++ [(qs.getD j default).1]).getD i default))) 1 qR (zA4 zAb ls _ rfl) ?_;refine zS (j + 1, ls ++ [(qs.getD j default).1]) ?_ ?_ ⟨rfl, qL, qL⟩
   ·refine ⟨⟨by simp only; omega, by simp; omega⟩, ?_⟩
    rw [g2, hdrop]; simp
   ·simp only; omega
 ·repeat' (first | refine zO 1 qS ?_ | apply zC | apply zA | apply zB | refine zF qS qR ?_ ?_ | refine zI qR ?_ | refine zK qR ?_ | exact zz0 | exact rfl | fail)
  all_goals (have hz : lvs (qs.drop j) = [] := by rw [List.drop_of_length_le (by omega)]; rfl)
  all_goals (rw [hz, List.append_nil] at g2; rw [g2]; exact zAc.le qZ (SLe.refl _))
end Go.Sx
namespace Go.Sx
open Go.Proofs Go.RowKit
attribute [local irreducible] Run zAi zAy OpT zAc SLe OLe
set_option maxHeartbeats 2000000
set_option maxRecDepth 8000
set_option maxHeartbeats 20000000
def zYy : List (Need × Nat) → Int
 | [] => 0
 | x :: r => if zFs x.1 = 0 then zYy r else zFs x.1
def zKs : List (Need × Nat) → Nat
 | [] => 0
 | x :: r => (if zIy x.1 then 1 else 0) + zKs r
theorem zVy : ∀ qs : List (Need × Nat), (lvs qs).length = zKs qs
 | [] => rfl
 | x :: r => by
  have := zVy r;simp only [lvs] at this;simp only [lvs, zKs, List.map_cons, List.filter_cons];split <;> simp [this] <;> omega
def zSb (qs : List (Need × Nat)) : Int :=
 if decide (24 < (qs.length : Int)) || decide (5 < ((zQd qs : Nat) : Int)) || !(decide (1 ≤ ((zKs qs : Nat) : Int)) && decide (((zKs qs : Nat) : Int) ≤ 8)) then 2 else zYy qs
end Go.Sx
namespace Go.Sx
open Go.Proofs Go.RowKit
attribute [local irreducible] Run zAi zAy OpT zAc SLe OLe
set_option maxHeartbeats 2000000
set_option maxRecDepth 8000
set_option maxHeartbeats 20000000
theorem MKi (a b : Int) : (MK.i a = MK.i b) = (a = b) := by simp
def yCb : MK → Bool := zFl (.i 4) (zFl (.i 3) (zFl (.i 2) (zFl (.i 1) fun _ => false)))
def kF : MK → SD := zNn (.i 4) (.agg [.fn 193 [.fp [.fn 188 []]]]) (zNn (.i 3) (.agg [.fn 192 [.fp [.fn 188 []]]]) (zNn (.i 2) (.agg [.fn 191 []]) (zNn (.i 1) (.agg [.fn 189 []]) fun _ => .any)))
theorem K145 : FnOK Tryz.prog 145 (fun ds d => ds = [] ∧ d = .fmap (some .i64) 4 yCb kF) := by
 refine zAa Tryz.call145 Tryz.func145 rfl Tryz.ntmps145 ?_
 rintro ds d ⟨rfl, rfl⟩
 refine ⟨by simp, fun w0 => ?_⟩
 repeat' (first | apply zC | apply zA | apply zB | refine zF qS qR ?_ ?_ | exact zz0 | exact rfl | fail)
 refine zDv 0 qS ?_
 repeat' (first | refine zO 1 qS ?_ | apply zB | refine zF (by simp only [go_sem, MKi]; rfl) qR ?_ ?_ | refine zHp (fun _ => .any) (by simp only [go_sem, MKi]; rfl) (by simp only [go_sem, MKi]; rfl) ?_ | refine zZp (by simp only [go_sem, MKi]; rfl) ?_ ?_ ?_ | refine zI qR ?_ | exact zz0 | exact zAc.pure rfl | fail)
 all_goals first | (simp [zAn, maxN]; done) | skip
end Go.Sx
