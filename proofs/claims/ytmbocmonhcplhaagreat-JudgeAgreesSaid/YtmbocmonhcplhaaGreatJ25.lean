/- Part of the proof that the laws of the judge return true for every input: J22, J23, J24, J25. -/
import Derived.Test.YtmbocmonhcplhaaGreatJ21
set_option linter.all false
namespace Go.Sx
open Go.Proofs Go.RowKit
attribute [local irreducible] Run zAi zAy zAc SLe OLe
set_option maxHeartbeats 2000000
set_option maxRecDepth 8000
def zNf (n : Need) : Bool := n.Min == 0 && (n.Set.length : Int) == 0 && decide (0 < (n.L.length : Int))
def zFs (n : Need) : Int :=
 if n.Kind = 1 then (if n.N != 0 || decide (0 < (n.L.length : Int)) then 13 else zDe n)
 else if n.Kind = 2 then (if decide (0 < (n.L.length : Int)) then 13 else if !(decide (1 ≤ n.N) && decide (n.N ≤ 600)) then 3 else zDe n)
 else if n.Kind = 3 then (if !zNf n || n.N != 0 then 13 else 0)
 else if n.Kind = 4 then (if !zNf n then 13 else if !(decide (1 ≤ n.N) && decide (n.N ≤ (n.L.length : Int))) then 3 else 0)
 else 13
theorem zZy {n : Need} (h : n.Kind = 1) : zFs n = if n.N != 0 || decide (0 < (n.L.length : Int)) then 13 else zDe n := by rw [zFs, if_pos h]
theorem zZx {n : Need} (h : n.Kind = 2) : zFs n = if decide (0 < (n.L.length : Int)) then 13 else if !(decide (1 ≤ n.N) && decide (n.N ≤ 600)) then 3 else zDe n := by rw [zFs, if_neg (by omega), if_pos h]
theorem yEb {n : Need} (h : n.Kind = 3) : zFs n = if !zNf n || n.N != 0 then 13 else 0 := by rw [zFs, if_neg (by omega), if_neg (by omega), if_pos h]
theorem yEa {n : Need} (h : n.Kind = 4) : zFs n = if !zNf n then 13 else if !(decide (1 ≤ n.N) && decide (n.N ≤ (n.L.length : Int))) then 3 else 0 := by rw [zFs, if_neg (by omega), if_neg (by omega), if_neg (by omega), if_pos h]
theorem zCs {a : Bool} (h : a = false) : ¬ a = true := by rw [h]; simp
def zIy (n : Need) : Bool := (n.Kind != 3) && (n.Kind != 4)
theorem K186 : FnOK Tryz.prog 186 (fun ds d => ∃ n : Need, ds = [zDz n] ∧ d = .bool (zIy n)) := by
 refine zAa Tryz.call186 Tryz.func186 rfl Tryz.ntmps186 ?_
 rintro ds d ⟨n, rfl, rfl⟩
 refine ⟨by simp, fun w0 => ?_⟩
 repeat' (first | apply zC | apply zA | apply zB | refine zF qS qR ?_ ?_ | refine zI qR ?_ | exact zz0 | exact rfl | exact zAc.bool rfl | exact qP | fail)
theorem K188 : FnOK Tryz.prog 188 (fun ds d => ∃ n : Need, ds = [zDz n] ∧ d = .bool (zNf n)) := by
 refine zAa Tryz.call188 Tryz.func188 rfl Tryz.ntmps188 ?_
 rintro ds d ⟨n, rfl, rfl⟩
 refine ⟨by simp, fun w0 => ?_⟩
 repeat' (first | apply zC | apply zA | apply zB | refine zF qS qR ?_ ?_ | refine zI qR ?_ | exact zz0 | exact rfl | exact zAc.bool rfl | exact qP | fail)
 all_goals rfl
theorem K189 : FnOK Tryz.prog 189 (fun ds d => ∃ n : Need, (zGc n ∧ n.Kind = 1) ∧ ds = [zDz n] ∧ d = eInt (zFs n)) := by
 refine zAa Tryz.call189 Tryz.func189 rfl Tryz.ntmps189 ?_
 rintro ds d ⟨n, ⟨hn, hk⟩, rfl, rfl⟩
 refine ⟨by simp, fun w0 => ?_⟩
 rw [zZy hk]
 repeat' (first | apply zC | apply zG | apply zA | apply zB | refine zF qS qR ?_ ?_ | refine zM K190 qD ?_ ⟨n, hn, rfl, rfl⟩ qS ?_ | (refine zE qS ?_ ?_ <;> intro hb <;> have hc := hb <;> (try simp only [bF] at hc) <;> (try (exfalso; simp at hc; done))) | refine zI qR ?_ | exact zz0 | exact rfl | refine zAc.int ?_ | exact qP | fail)
 ·rw [if_pos hb]
 ·rw [if_neg (zCs hb)]
theorem K191 : FnOK Tryz.prog 191 (fun ds d => ∃ n : Need, (zGc n ∧ n.Kind = 2) ∧ ds = [zDz n] ∧ d = eInt (zFs n)) := by
 refine zAa Tryz.call191 Tryz.func191 rfl Tryz.ntmps191 ?_
 rintro ds d ⟨n, ⟨hn, hk⟩, rfl, rfl⟩
 refine ⟨by simp, fun w0 => ?_⟩
 rw [zZx hk]
 repeat' (first | apply zC | apply zG | apply zA | apply zB | refine zF qS qR ?_ ?_ | refine zM K190 qD ?_ ⟨n, hn, rfl, rfl⟩ qS ?_ | refine zM K94 qD ?_ ⟨_, _, _, rfl, rfl⟩ qS ?_ | (refine zE qS ?_ ?_ <;> intro hb <;> have hc := hb <;> (try simp only [bF] at hc) <;> (try (exfalso; simp at hc; done))) | refine zI qR ?_ | exact zz0 | exact rfl | refine zAc.int ?_ | fail)
 ·rw [if_pos hb]
 ·rename_i h1 _; rw [if_neg (zCs h1), if_pos hb]
 ·rename_i h1 _; rw [if_neg (zCs h1), if_neg (zCs hb)]
theorem K192 : FnOK Tryz.prog 192 (fun ds d => ∃ n : Need, (zGc n ∧ n.Kind = 3) ∧ ds = [zDz n, .fp [.fn 188 []]] ∧ d = eInt (zFs n)) := by
 refine zAa Tryz.call192 Tryz.func192 rfl Tryz.ntmps192 ?_
 rintro ds d ⟨n, ⟨hn, hk⟩, rfl, rfl⟩
 refine ⟨by simp, fun w0 => ?_⟩
 rw [yEb hk]
 have hv : FnV Tryz.prog 188 [] [zDz n] (.bool (zNf n)) := ⟨_, K188, n, rfl, rfl⟩
 repeat' (first | apply zC | apply zG | apply zA | apply zB | refine zF qS qR ?_ ?_ | refine yD (hv) qZ qZ ?_ qS ?_ | (refine zE qS ?_ ?_ <;> intro hb <;> have hc := hb <;> (try simp only [bF] at hc) <;> (try (exfalso; simp at hc; done))) | refine zI qR ?_ | exact zz0 | exact rfl | refine zAc.int ?_ | exact qP | fail)
 ·rw [if_pos hb]
 ·rw [if_neg (zCs hb)]
theorem K193 : FnOK Tryz.prog 193 (fun ds d => ∃ n : Need, (zGc n ∧ n.Kind = 4) ∧ ds = [zDz n, .fp [.fn 188 []]] ∧ d = eInt (zFs n)) := by
 refine zAa Tryz.call193 Tryz.func193 rfl Tryz.ntmps193 ?_
 rintro ds d ⟨n, ⟨hn, hk⟩, rfl, rfl⟩
 refine ⟨by simp, fun w0 => ?_⟩
 rw [yEa hk]
 have hv : FnV Tryz.prog 188 [] [zDz n] (.bool (zNf n)) := ⟨_, K188, n, rfl, rfl⟩
 repeat' (first | apply zC | apply zG | apply zA | apply zB | refine zF qS qR ?_ ?_ | refine zM K94 qD ?_ ⟨_, _, _, rfl, rfl⟩ qS ?_ | refine yD (hv) qZ qZ ?_ qS ?_ | (refine zE qS ?_ ?_ <;> intro hb <;> have hc := hb <;> (try simp only [bF] at hc) <;> (try (exfalso; simp at hc; done))) | refine zI qR ?_ | exact zz0 | exact rfl | refine zAc.int ?_ | fail)
 ·rw [if_pos hb]
 ·rename_i h1 _; rw [if_neg (zCs h1), if_pos hb]
 ·rename_i h1 _; rw [if_neg (zCs h1), if_neg (zCs hb)]
end Go.Sx
namespace Go.Sx
open Go.Proofs Go.RowKit
attribute [local irreducible] Run zAi zAy OpT zAc SLe OLe
set_option maxHeartbeats 2000000
set_option maxRecDepth 8000
attribute [go_sem] zC4 zEu zG6 yF0 rfS stE yDi del Option.isNone
def NOk : Nat → Need → Prop
 | 0, n => zGc n ∧ n.L = []
 | d + 1, n => zGc n ∧ ∀ x ∈ n.L, NOk d x
theorem NOk.set {d : Nat} {n : Need} (h : NOk d n) : zGc n := by cases d <;> exact h.1
def MOk : Nat → Need → Prop
 | 0, n => n.L = []
 | d + 1, n => n.L.length ≤ 8 ∧ (zIy n = true → n.L = []) ∧ ∀ x ∈ n.L, MOk d x
def zQf : Nat → Nat
 | 0 => 1
 | d + 1 => 1 + 8 * zQf d
theorem zY4 (d : Nat) : 1 ≤ zQf d := by cases d <;> simp [zQf]
theorem zAk {α : Type} [Inhabited α] {l : List α} {i : Nat} (hi : i < l.length) : l.getD i default ∈ l := by
 rw [zz2, List.getElem?_eq_getElem hi]
 exact List.getElem_mem hi
def zAd : Nat → Nat → Need → List (Need × Nat)
 | 0, k, n => [(n, k)]
 | d + 1, k, n => (n, k) :: n.L.flatMap (zAd d (k + 1))
theorem zOq {α β : Type} [Inhabited α] (f : α → List β) (l : List α) (i : Nat) (hi : i < l.length) : (l.take (i + 1)).flatMap f = (l.take i).flatMap f ++ f (l.getD i default) := by
 rw [List.take_add_one, List.getElem?_eq_getElem hi, List.flatMap_append, zz2, List.getElem?_eq_getElem hi]
 simp
theorem yCg {α β : Type} [Inhabited α] (f : α → List β) (l : List α) (i : Nat) : ((l.take i).flatMap f).length ≤ (l.flatMap f).length := by
 have h : l.flatMap f = (l.take i).flatMap f ++ (l.drop i).flatMap f := by rw [← List.flatMap_append, List.take_append_drop]
 rw [h, List.length_append]; omega
theorem zIf {α β : Type} [Inhabited α] (f : α → List β) (l : List α) (i : Nat) (hi : i < l.length) : ((l.take i).flatMap f).length + (f (l.getD i default)).length ≤ (l.flatMap f).length := by
 have h := yCg f l (i + 1)
 rw [zOq f l i hi, List.length_append] at h
 exact h
theorem zLq (d k : Nat) (n : Need) : 1 ≤ (zAd d k n).length := by cases d <;> simp [zAd]
theorem zM2 (d k : Nat) : ∀ l : List Need, l.length ≤ (l.flatMap (zAd d k)).length
 | [] => Nat.le_refl _
 | x :: r => by
  have h1 := zM2 d k r;have h2 := zLq d k x;simp only [List.flatMap_cons, List.length_append, List.length_cons];omega
theorem zAu (d k : Nat) (n : Need) : (zAd (d + 1) k n).length = 1 + (n.L.flatMap (zAd d (k + 1))).length := by simp only [zAd, List.length_cons]; omega
def zQd (qs : List (Need × Nat)) : Nat := qs.foldl (fun m x => max m x.2) 0
theorem zTl (qs : List (Need × Nat)) (x : Need × Nat) : zQd (qs ++ [x]) = max (zQd qs) x.2 := by simp [zQd]
@[go_sem] def eVl : OB := .var [.acc 1002]
@[go_sem] def eDp (qs : List (Need × Nat)) : OB := .var [.int .i64 (zQd qs : Nat)]
@[go_sem] def eAq (qs : List (Need × Nat)) : OB := .acc 30 5 qs.length (fun i => zAb (qs.getD i default).1)
abbrev YR (r : LR) (bl : List Nat) (h0 : Hp) : Prop := zTp Tryz.prog r.l h0 bl (fun ds os d os' => ∃ (qs : List (Need × Nat)) (x : Need × Nat), (x.2 ≤ 100 ∧ qs.length < 10000) ∧ ds = [eInt (x.2 : Nat), zAb x.1] ∧ os = [eVl, eDp qs, eAq qs, zEu r .ready none] ∧ d = .bool true ∧ os' = zB6 1000 [eVl, eDp (qs ++ [x]), eAq (qs ++ [x]), zEu r .ready none])
set_option maxHeartbeats 20000000
theorem K222 (r : LR) (h0 : Hp) (bl : List Nat) (hbl : bl.length = 4) (Y : YR r bl h0) (d : Nat) : zZj Tryz.prog 222 h0 bl (fun ds os v os' => ∃ (qs : List (Need × Nat)) (n : Need) (k : Nat), (NOk d n ∧ k + d ≤ 100 ∧ qs.length + (zAd d k n).length ≤ 10000) ∧ ds = [zAb n, eInt (k : Nat), .yld r.l] ∧ os = [eVl, eDp qs, eAq qs, zEu r .ready none] ∧ v = .bool true ∧ os' = zB6 1000 [eVl, eDp (qs ++ zAd d k n), eAq (qs ++ zAd d k n), zEu r .ready none]) := by
 obtain ⟨b0, b1, b2, b3, rfl⟩ : ∃ b0 b1 b2 b3, bl = [b0, b1, b2, b3] := by
  match bl, hbl with
  | [b0, b1, b2, b3], _ => exact ⟨b0, b1, b2, b3, rfl⟩
 induction d with
 | zero =>
  refine zGo Tryz.call222 Tryz.func222 rfl Tryz.ntmps222 ?_;rintro ds os d os' ⟨qs, n, k, ⟨hn, hk, hq⟩, rfl, rfl, rfl, rfl⟩;refine ⟨by simp, by simp, fun F w0 han => ?_⟩;have c1 := zLq 0 k n;have hL : n.L = [] := hn.2
  repeat' (first | apply zC | apply zG | apply zD | apply zA | apply zB | refine zF (by simp only [go_sem, hL]; rfl) qR ?_ ?_ | refine zGd [1000, 1001, 1002, 1003] Y (by first | (simp only [go_sem, hL]; done) | (simp only [go_sem, hL]; rfl)) han qR qR (by simp only [go_sem, hL]; first | done | rfl) (by first | (simp only [go_sem, hL]; done) | rfl) (by first | (simp only [go_sem, hL]; done) | (simp only [go_sem, hL]; rfl)) ?_ ⟨qs, (n, k), ⟨by omega, by omega⟩, rfl, rfl, rfl, rfl⟩ (by simp only [go_sem, hL]; rfl) ?_ | (refine zE (by simp only [go_sem, hL]; rfl) ?_ ?_ <;> intro hb <;> have hc := hb <;> (try simp only [bF] at hc) <;> (try (exfalso; simp at hc; done))) | exact zz0 | exact rfl | fail)
  refine zN [0, 1, 2, 3, 15, 16] (fun x : Nat × Unit => [(17, .int .i64 x.1)]) (fun x : Nat × Unit => []) (fun x : Nat × Unit => x.1 ≤ 0) (fun x : Nat × Unit => 0 - x.1) (0, ()) (fun x => qS) ?_ qL qL ?_
  ·exact Nat.le_refl _
  rintro ⟨j, _⟩ g1;simp only at g1
  repeat' (first | apply zC | apply zA | apply zB | refine zF qS qR ?_ ?_ | exact zz0 | exact rfl | fail)
  (refine zE qS ?_ ?_ <;> intro hb <;> have hc := hb <;> (try simp only [bF] at hc) <;> (try (exfalso; simp at hc; done)))
  repeat' (first | apply zC | apply zA | apply zB | refine zF qS qR ?_ ?_ | refine zK qR ?_ | exact zz0 | exact rfl | fail)
  refine yC qR qS ?_ ?_
  ·exact SLe.refl _
  ·(show zC2 _ _; simp only [go_sem]; repeat' (first | exact SLe.any1 | exact trivial | exact zz0 | exact SLe.refl _ | exact OLe.refl _ | exact ⟨_, rfl, OLe.refl _⟩ | refine ⟨_, rfl, ?_⟩ | refine OLe.var ?_ | (show zAh _ _; refine ⟨?_, ?_⟩) | (show zAh [] []; exact zz0) | (refine SLe.int ?_; rw [w64]; omega) | refine SLe.int ?_ | refine SLe.bool ?_ | apply And.intro))
 | succ d ih =>
  refine zGo Tryz.call222 Tryz.func222 rfl Tryz.ntmps222 ?_;rintro ds os d os' ⟨qs, n, k, ⟨hn, hk, hq⟩, rfl, rfl, rfl, rfl⟩;refine ⟨by simp, by simp, fun F w0 han => ?_⟩;have c2 := zAu d k n;have c3 := zM2 d (k + 1) n.L;obtain ⟨Q, hQd⟩ : ∃ Q : Nat → List (Need × Nat), ∀ i, Q i = qs ++ ((n, k) :: (n.L.take i).flatMap (zAd d (k + 1))) := ⟨_, fun _ => rfl⟩;have hQ0 : qs ++ [(n, k)] = Q 0 := by rw [hQd]; simp
  have hQl : ∀ i, i < n.L.length → (Q i).length + (zAd d (k + 1) (n.L.getD i default)).length ≤ qs.length + (zAd (d + 1) k n).length := by
   intro i hi;have := zIf (zAd d (k + 1)) n.L i hi;rw [hQd, c2];simp only [List.length_append, List.length_cons];omega
  repeat' (first | apply zC | apply zG | apply zD | apply zA | apply zB | refine zF (by simp only [go_sem, hQ0]; rfl) qR ?_ ?_ | refine zGd [1000, 1001, 1002, 1003] Y (by first | (simp only [go_sem, hQ0]; done) | (simp only [go_sem, hQ0]; rfl)) han qR qR (by simp only [go_sem, hQ0]; first | done | rfl) (by first | (simp only [go_sem, hQ0]; done) | rfl) (by first | (simp only [go_sem, hQ0]; done) | (simp only [go_sem, hQ0]; rfl)) ?_ ⟨qs, (n, k), ⟨by omega, by omega⟩, rfl, rfl, rfl, rfl⟩ (by simp only [go_sem, hQ0]; rfl) ?_ | (refine zE (by simp only [go_sem, hQ0]; rfl) ?_ ?_ <;> intro hb <;> have hc := hb <;> (try simp only [bF] at hc) <;> (try (exfalso; simp at hc; done))) | exact zz0 | exact rfl | fail)
  refine zN [0, 1, 2, 3, 15, 16] (fun x : Nat × Unit => [(17, .int .i64 x.1)]) (fun x : Nat × Unit => [(1001, eDp (Q x.1)), (1002, eAq (Q x.1))]) (fun x : Nat × Unit => x.1 ≤ n.L.length) (fun x : Nat × Unit => n.L.length - x.1) (0, ()) (fun x => qS) ?_ qL qL ?_
  ·exact Nat.zero_le _
  rintro ⟨j, _⟩ g1;simp only at g1
  repeat' (first | apply zC | apply zA | apply zB | refine zF qS qR ?_ ?_ | exact zz0 | exact rfl | fail)
  (refine zE qS ?_ ?_ <;> intro hb <;> have hc := hb <;> (try simp only [bF] at hc) <;> (try (exfalso; simp at hc; done)))
  ·have hj : j < n.L.length := by assumption
   have hx := hn.2 _ (zAk hj);have hl := hQl j hj;have en : zBc (zB9 n.L) j = zAb (n.L.getD j default) := by rw [zBs _ _ hj, zDz, zB5]; rfl
   have hQ : Q j ++ zAd d (k + 1) (n.L.getD j default) = Q (j + 1) := by rw [hQd, hQd, zOq _ _ _ hj]; simp
   have e1 : IntKind.i64.wrap ((k : Int) + 1) = ((k + 1 : Nat) : Int) := by rw [w64]; omega
   repeat' (first | apply zC | apply zG | apply zD | apply zL | apply zA | apply zB | refine zF (by simp only [go_sem, en, hQ, e1]; rfl) qR ?_ ?_ | refine zLf [1000, 1001, 1002, 1003] ih han qR qR (by simp only [go_sem, en, hQ, e1]; first | done | rfl) (by first | (simp only [go_sem, en, hQ, e1]; done) | rfl) (by first | (simp only [go_sem, en, hQ, e1]; done) | (simp only [go_sem, en, hQ, e1]; rfl)) ?_ ⟨Q j, n.L.getD j default, k+1, ⟨hx, by omega, by omega⟩, rfl, rfl, rfl, rfl⟩ (by simp only [go_sem, en, hQ, e1]; rfl) ?_ | (refine zE (by simp only [go_sem, en, hQ, e1]; rfl) ?_ ?_ <;> intro hb <;> have hc := hb <;> (try simp only [bF] at hc) <;> (try (exfalso; simp at hc; done))) | refine zS (j+1,()) ?_ ?_ ⟨rfl, qL, qL⟩ | exact zz0 | exact rfl | omega | exact qP | fail)
  ·have hQe : Q j = qs ++ zAd (d + 1) k n := by rw [hQd, List.take_of_length_le (by omega)]; rfl
   rw [hQe]
   repeat' (first | apply zC | apply zA | apply zB | refine zF qS qR ?_ ?_ | refine zK qR ?_ | exact zz0 | exact rfl | fail)
   refine yC qR qS ?_ ?_
   ·exact SLe.refl _
   ·(show zC2 _ _; simp only [go_sem]; repeat' (first | exact SLe.any1 | exact trivial | exact zz0 | exact SLe.refl _ | exact OLe.refl _ | exact ⟨_, rfl, OLe.refl _⟩ | refine ⟨_, rfl, ?_⟩ | refine OLe.var ?_ | (show zAh _ _; refine ⟨?_, ?_⟩) | (show zAh [] []; exact zz0) | (refine SLe.int ?_; rw [w64]; omega) | refine SLe.int ?_ | refine SLe.bool ?_ | apply And.intro))
end Go.Sx
namespace Go.Sx
theorem zUn {P : Program} {F : List Nat} {w0 : Base} {fin : Exit → Act → World → Prop} {k : List It} {s s' : St} (h : s = s') (hn : Run P F w0 fin k s') : Run P F w0 fin k s := h ▸ hn
theorem zAr {P : Program} {F : List Nat} {w0 : Base} {fin : Exit → Act → World → Prop} {k : List It} {s : St} (ns : List Nat) {l : List (Nat × SD)} (hl : zTe s.sl ns = l) (hn : Run P F w0 fin k ⟨s.n, s.nx, l, s.ow⟩) : Run P F w0 fin k s := fun h e a w D =>
 hn h e a w (hl ▸ D.weak' (s' := ⟨s.n, s.nx, zTe s.sl ns, s.ow⟩) rfl (zHo ns) fun k o h => ⟨o, h, OLe.refl o⟩)
open Go.Proofs Go.RowKit
attribute [local irreducible] Run zAi zAy OpT zAc SLe OLe
set_option maxHeartbeats 2000000
set_option maxRecDepth 8000
set_option maxHeartbeats 20000000
@[go_sem] def zVs (n : Need) : List SD := [.int .i64 n.Kind, .int .i64 n.N, .int .i64 n.Min, zAo 2 zAe n.Set, .list 5 n.L.length fun i => zBc (zB9 n.L) i]
theorem K221 (r : LR) (h0 : Hp) (bl : List Nat) (hbl : bl.length = 4) (Y : YR r bl h0) (d : Nat) : zZj Tryz.prog 221 h0 bl (fun ds os v os' => ∃ (qs : List (Need × Nat)) (n : Need), (NOk d n ∧ 1 + d ≤ 100 ∧ qs.length + (zAd d 1 n).length ≤ 10000) ∧ ds = [.yld r.l, .fp (zVs n)] ∧ os = [eVl, eDp qs, eAq qs, zEu r .ready none] ∧ v = .tup [] ∧ os' = zB6 1000 [eVl, eDp (qs ++ zAd d 1 n), eAq (qs ++ zAd d 1 n), zEu r .ready none]) := by
 have K := K222 r h0 bl hbl Y d
 obtain ⟨b0, b1, b2, b3, rfl⟩ : ∃ b0 b1 b2 b3, bl = [b0, b1, b2, b3] := by
  match bl, hbl with
  | [b0, b1, b2, b3], _ => exact ⟨b0, b1, b2, b3, rfl⟩
 refine zGo Tryz.call221 Tryz.func221 rfl Tryz.ntmps221 ?_
 rintro ds os d os' ⟨qs, n, ⟨hn, hk, hq⟩, rfl, rfl, rfl, rfl⟩
 refine ⟨by simp, by simp, fun F w0 han => ?_⟩
 repeat' (first | apply zA | apply zB | refine zF qS qR ?_ ?_ | refine zLf [1000, 1001, 1002, 1003] K han qR qR qD (by first | (simp only [go_sem]; done) | rfl) qF ?_ ⟨qs, n, 1, ⟨hn, hk, hq⟩, rfl, rfl, rfl, rfl⟩ qS ?_ | exact zz0 | exact rfl | fail)
 refine zEd qR ?_ ?_
 ·repeat' (first | exact SLe.refl _ | fail)
 ·(show zC2 _ _; simp only [go_sem]; repeat' (first | exact SLe.any1 | exact trivial | exact zz0 | exact SLe.refl _ | exact OLe.refl _ | exact ⟨_, rfl, OLe.refl _⟩ | refine ⟨_, rfl, ?_⟩ | refine OLe.var ?_ | (show zAh _ _; refine ⟨?_, ?_⟩) | (show zAh [] []; exact zz0) | (refine SLe.int ?_; rw [w64]; omega) | refine SLe.int ?_ | refine SLe.bool ?_ | apply And.intro))
theorem K185 : FnOK Tryz.prog 185 (fun ds d => ∃ n : Need, ds = [zAb n] ∧ d = .fn 221 [.fp (zVs n)]) := by
 refine zAa Tryz.call185 Tryz.func185 rfl Tryz.ntmps185 ?_
 rintro ds d ⟨n, rfl, rfl⟩
 refine ⟨by simp, fun w0 => ?_⟩
 repeat' (first | refine zO 0 qS ?_ | apply zC | apply zA | apply zB | refine zF qS qR ?_ ?_ | refine zI qR ?_ | exact zz0 | exact rfl | exact zAc.pure rfl | fail)
end Go.Sx
namespace Go.Sx
theorem zZj.weaken {P : Program} {f : Nat} {h0 : Hp} {bl : List Nat} {R R' : List SD → List OB → SD → List (Nat × OB) → Prop} (hf : zZj P f h0 bl R) (h : ∀ ds os d os', R' ds os d os' → R ds os d os') : zZj P f h0 bl R' := ⟨hf.call, fun ds os d os' hr => hf.ok ds os d os' (h ds os d os' hr)⟩
open Go.Proofs Go.RowKit
attribute [local irreducible] Run zAi zAy OpT zAc SLe OLe
set_option maxHeartbeats 2000000
set_option maxRecDepth 8000
set_option maxHeartbeats 20000000
theorem yBz (qs : List (Need × Nat)) (x : Need × Nat) (f : Nat → SD) (hf : f 0 = zAb x.1) (i : Nat) (hi : i < qs.length + 1) : zA3 qs.length (fun i => zAb (qs.getD i default).1) f i = zAb ((qs ++ [x]).getD i default).1 := by
 simp only [zA3]
 by_cases h : i < qs.length
 ·rw [if_pos h, zz2, zz2, List.getElem?_append_left h]
 ·have : i = qs.length := by omega
  subst this;rw [if_neg h, Nat.sub_self, hf];simp
theorem yEh (qs : List (Need × Nat)) (x : Need × Nat) {f : Nat → SD} (hf : f 0 = zAb x.1) : OLe (.acc 30 5 (qs.length + 1) (zA3 qs.length (fun i => zAb (qs.getD i default).1) f)) (eAq (qs ++ [x])) := OLe.accS (by simp) fun i hi => yBz qs x f hf i hi
@[go_sem] def eQl (qs : List (Need × Nat)) : SD := .list 5 qs.length fun i => zAb (qs.getD i default).1
def WOk (d : Nat) (n : Need) : Prop := NOk d n ∧ (zAd d 1 n).length ≤ 1000
theorem K143 (d : Nat) (hd : 1 + d ≤ 100) : FnOK Tryz.prog 143 (fun ds v => ∃ n : Need, WOk d n ∧ ds = [zAb n] ∧ v = .tup [eQl (zAd d 1 n), .int .i64 (zQd (zAd d 1 n) : Nat), .bool true]) := by
 refine zOp Tryz.call143 Tryz.func143 rfl Tryz.ntmps143 ?_
 rintro ds v ⟨n, ⟨hn, hc⟩, rfl, rfl⟩
 refine ⟨by simp, fun w0 => ?_⟩
 repeat' (first | apply zC | apply zD | apply zA | apply zB | refine zF qS qR ?_ ?_ | refine zM K185 qD ?_ ⟨_, rfl, rfl⟩ qS ?_ | exact zz0 | exact rfl | fail)
 refine zC9 1 0 30 5 (fun i => zAb (([] : List (Need × Nat)).getD i default).1) rfl rfl (by simp only [List.set]; rfl) rfl ?_
 refine zAr [2, 3, 4, 8] qS ?_
 refine zEl [1, 2, 4] (gf := 221) (os := [eVl, eDp [], eAq []]) (osu' := [eVl, eDp (zAd d 1 n), eAq (zAd d 1 n)]) (pe := none) rfl qS qR qR qR qR (fun r K => by rfl) (fun h1 bl r hps has hbd htm hbl1 hle hfx hsl => ?hit) (fun r K => by simp only [go_sem]; rfl) (fun r K => by rfl) (fun r K => ?hk)
 case hk =>
  refine zUn (s' := ?_) qS ?_;simp only [zY3];change Run _ _ ⟨w0, none, [{ target := .collected K, args := #[] }]⟩ _ _ _
  repeat' (first | refine zO 4 qS ?_ | apply zC | apply zL | apply zP | refine zU qS qR ?_ ?_ | refine zQ qK qK ?_ | exact zz0 | fail)
  refine zJ9 5 K qR qR qS ?_;exact zAc.le qZ (SLe.refl _)
 case hit =>
  refine (K221 r h1 bl (by simpa using hbl1) ?Y d).weaken ?w
  case w =>
   rintro ds os d os' ⟨rfl, rfl, rfl, rfl⟩;exact ⟨[], n, ⟨hn, hd, by show 0 + _ ≤ _; omega⟩, rfl, rfl, rfl, rfl⟩
  case Y =>
   obtain ⟨c0, c1, c2, c3, rfl⟩ : ∃ b0 b1 b2 b3, bl = [b0, b1, b2, b3] := by
    match bl, hbl1 with
    | [b0, b1, b2, b3], _ => exact ⟨b0, b1, b2, b3, rfl⟩
   refine zNo r [(2, .loc 1000 0), (3, .loc 1001 0)] 27 r.l rfl htm (by rw [hps]; simp) (fun h e hl hb t => by
    by_cases ht : t = 2
    ·subst ht; exact hsl h e hl hb 2
    ·by_cases ht3 : t = 3
     ·subst ht3; exact hsl h e hl hb 3
     ·have : lkp [(2, SD.loc 1000 0), (3, SD.loc 1001 0)] t = .any := by
       simp only [lkp]; rw [zGu (fun hc => ht hc.symm), zGu (fun hc => ht3 hc.symm)]; rfl
      rw [this]; simp only [rep]) ?_
   rintro ds os v os' ⟨qs, x, ⟨hx, hql⟩, rfl, rfl, rfl, rfl⟩;have f1 : decide ((100 : Int) < ((x.2 : Nat) : Int)) = false := decide_eq_false (by omega)
   have f2 : (((qs.length : Nat) : Int) == 10000) = false := by
    rw [beq_eq_false_iff_ne]; intro hc; omega
   refine ⟨[eVl, eDp qs, eAq qs], [eVl, eDp (qs ++ [x]), eAq (qs ++ [x])], none, ?sA, rfl, rfl, rfl, rfl, rfl, by rw [hps]; rfl, fun F w0 han2 => ?g1, ?g2, fun F w0 han2 => ?g3⟩
   case g1 =>
    rw [has, hps];change Run _ F _ _ _ ⟨27, 0, upd (upd [(2, .loc 1000 0), (3, .loc 1001 0)] 9 (eInt (x.2 : Nat))) 10 (zAb x.1), _⟩
    repeat' (first | apply zC | apply zA | apply zB | refine zF qS qR ?_ ?_ | exact zz0 | exact rfl | fail)
    exact zJi
   case g2 => rfl
   case g3 =>
    rw [hbd]
    repeat' (first | apply zC | apply zG | apply zD | apply zL | apply zA | apply zP | apply zB | refine zF (by simp only [go_sem, zC4, f1, f2]; rfl) qR ?_ ?_ | refine zU (by simp only [go_sem, zC4, f1, f2]; rfl) qR ?_ ?_ | refine zQ qK qK ?_ | refine zF0 (by simp only [go_sem, zC4, f1, f2]; rfl) ?_ (by simp only [go_sem, zC4, f1, f2]; rfl) ?_ | (refine zE (by simp only [go_sem, zC4, f1, f2]; rfl) ?_ ?_ <;> intro hb <;> have hc := hb <;> (try simp only [bF] at hc) <;> (try (exfalso; simp at hc; done))) | exact zz0 | exact rfl | exact qP | fail)
    refine zXz 701 1002 qS ?_;refine zR (o' := eAq (qs ++ [x])) 1002 qR (yEh qs x rfl) ?_;refine zE9 ?_
    (show zC2 _ _; simp only [go_sem]; repeat' (first | exact SLe.any1 | exact trivial | exact zz0 | exact SLe.refl _ | exact OLe.refl _ | exact ⟨_, rfl, OLe.refl _⟩ | refine ⟨_, rfl, ?_⟩ | refine OLe.var ?_ | (show zAh _ _; refine ⟨?_, ?_⟩) | (show zAh [] []; exact zz0) | (refine SLe.int ?_; rw [w64]; omega) | refine SLe.int ?_ | refine SLe.bool ?_ | apply And.intro))
    rw [zTl];split <;> omega
end Go.Sx
