/- Lemmas on the judge: J22, J23, J24, J25. -/
import Derived.Test.YtmbocmonhcplhaaGreatJ21
set_option linter.all false
set_option maxHeartbeats 20000000
set_option maxRecDepth 8000
namespace Go.Sx
open Go.Proofs Tryz Go.RowKit
attribute [local irreducible] Run zAg zAs zAc SLe OLe
def zMf (n : Need) : Bool := n.Min == 0 && (n.Set.length : Int) == 0 && decide (0 < (n.L.length : Int))
def zFw (n : Need) : Int :=
 if n.Kind = 1 then (if n.N != 0 || decide (0 < (n.L.length : Int)) then 13 else zCx n)
 else if n.Kind = 2 then (if decide (0 < (n.L.length : Int)) then 13 else if !(decide (1 <= n.N) && decide (n.N <= 600)) then 3 else zCx n)
 else if n.Kind = 3 then (if !zMf n || n.N != 0 then 13 else 0)
 else if n.Kind = 4 then (if !zMf n then 13 else if !(decide (1 <= n.N) && decide (n.N <= (n.L.length : Int))) then 3 else 0)
 else 13
theorem zXn {n : Need} (h : n.Kind = 1) : zFw n = if n.N != 0 || decide (0 < (n.L.length : Int)) then 13 else zCx n := by rw [zFw, if_pos h]
theorem zXm {n : Need} (h : n.Kind = 2) : zFw n = if decide (0 < (n.L.length : Int)) then 13 else if !(decide (1 <= n.N) && decide (n.N <= 600)) then 3 else zCx n := by rw [zFw, if_neg (by omega), if_pos h]
theorem yC0 {n : Need} (h : n.Kind = 3) : zFw n = if !zMf n || n.N != 0 then 13 else 0 := by rw [zFw, if_neg (by omega), if_neg (by omega), if_pos h]
theorem yCz {n : Need} (h : n.Kind = 4) : zFw n = if !zMf n then 13 else if !(decide (1 <= n.N) && decide (n.N <= (n.L.length : Int))) then 3 else 0 := by rw [zFw, if_neg (by omega), if_neg (by omega), if_neg (by omega), if_pos h]
theorem zC5 {a : Bool} (h : a = false) : ¬ a = true := by rw [h]; simp
def zH3 (n : Need) : Bool := (n.Kind != 3) && (n.Kind != 4)
theorem K186 : FnOK prog 186 (fun ds d => ∃ n : Need, ds = [zFt n] /\ d = .bool (zH3 n)) := by
 refine zAb call186 func186 rfl ntmps186 ?_;rintro ds d ⟨n, rfl, rfl⟩;refine ⟨by simp, fun w0 => ?_⟩
 repeat' (first | refine wA ?_ | refine zC qS qR ?_ ?_ | refine zE qR ?_ | exact qT | exact zAc.bool rfl | exact qP | fail)
theorem K188 : FnOK prog 188 (fun ds d => ∃ n : Need, ds = [zFt n] /\ d = .bool (zMf n)) := by
 refine zAb call188 func188 rfl ntmps188 ?_;rintro ds d ⟨n, rfl, rfl⟩;refine ⟨by simp, fun w0 => ?_⟩
 repeat' (first | refine wA ?_ | refine zC qS qR ?_ ?_ | refine zE qR ?_ | exact qT | exact zAc.bool rfl | exact qP | fail)
 all_goals rfl
theorem K189 : FnOK prog 189 (fun ds d => ∃ n : Need, (zJ8 n /\ n.Kind = 1) /\ ds = [zFt n] /\ d = eInt (zFw n)) := by
 refine zAb call189 func189 rfl ntmps189 ?_;rintro ds d ⟨n, ⟨hn, hk⟩, rfl, rfl⟩;refine ⟨by simp, fun w0 => ?_⟩;rw [zXn hk]
 repeat' (first | refine wA ?_ | refine zC qS qR ?_ ?_ | refine zG K190 qD ?_ ⟨n, hn, rfl, rfl⟩ qS ?_ | (refine zAa qS qC qC ?_ ?_ <;> intro hb hc <;> try (simp at hc; done)) | refine zE qR ?_ | exact qT | refine zAc.int ?_ | exact qP | fail)
 ·rw [if_pos hb]
 ·rw [if_neg (zC5 hb)]
theorem K191 : FnOK prog 191 (fun ds d => ∃ n : Need, (zJ8 n /\ n.Kind = 2) /\ ds = [zFt n] /\ d = eInt (zFw n)) := by
 refine zAb call191 func191 rfl ntmps191 ?_;rintro ds d ⟨n, ⟨hn, hk⟩, rfl, rfl⟩;refine ⟨by simp, fun w0 => ?_⟩;rw [zXm hk]
 repeat' (first | refine wA ?_ | refine zG K190 qD ?_ ⟨n, hn, rfl, rfl⟩ qS ?_ | refine zG K94 qD ?_ ⟨_, _, _, rfl, rfl⟩ qS ?_ | (refine zAa qS qC qC ?_ ?_ <;> intro hb hc <;> try (simp at hc; done)) | refine zE qR ?_ | exact qT | refine zAc.int ?_ | fail)
 ·rw [if_pos hb]
 ·rename_i h1 _; rw [if_neg (zC5 h1), if_pos hb]
 ·rename_i h1 _; rw [if_neg (zC5 h1), if_neg (zC5 hb)]
theorem K192 : FnOK prog 192 (fun ds d => ∃ n : Need, (zJ8 n /\ n.Kind = 3) /\ ds = [zFt n, .fp [.fn 188 []]] /\ d = eInt (zFw n)) := by
 refine zAb call192 func192 rfl ntmps192 ?_;rintro ds d ⟨n, ⟨hn, hk⟩, rfl, rfl⟩;refine ⟨by simp, fun w0 => ?_⟩;rw [yC0 hk];have hv : FnV prog 188 [] [zFt n] (.bool (zMf n)) := ⟨_, K188, n, rfl, rfl⟩
 repeat' (first | refine wA ?_ | refine zC qS qR ?_ ?_ | refine zW (hv) qZ qZ ?_ qS ?_ | (refine zAa qS qC qC ?_ ?_ <;> intro hb hc <;> try (simp at hc; done)) | refine zE qR ?_ | exact qT | refine zAc.int ?_ | exact qP | fail)
 ·rw [if_pos hb]
 ·rw [if_neg (zC5 hb)]
theorem K193 : FnOK prog 193 (fun ds d => ∃ n : Need, (zJ8 n /\ n.Kind = 4) /\ ds = [zFt n, .fp [.fn 188 []]] /\ d = eInt (zFw n)) := by
 refine zAb call193 func193 rfl ntmps193 ?_;rintro ds d ⟨n, ⟨hn, hk⟩, rfl, rfl⟩;refine ⟨by simp, fun w0 => ?_⟩;rw [yCz hk];have hv : FnV prog 188 [] [zFt n] (.bool (zMf n)) := ⟨_, K188, n, rfl, rfl⟩
 repeat' (first | refine wA ?_ | refine zG K94 qD ?_ ⟨_, _, _, rfl, rfl⟩ qS ?_ | refine zW (hv) qZ qZ ?_ qS ?_ | (refine zAa qS qC qC ?_ ?_ <;> intro hb hc <;> try (simp at hc; done)) | refine zE qR ?_ | exact qT | refine zAc.int ?_ | fail)
 ·rw [if_pos hb]
 ·rename_i h1 _; rw [if_neg (zC5 h1), if_pos hb]
 ·rename_i h1 _; rw [if_neg (zC5 h1), if_neg (zC5 hb)]
attribute [local irreducible] OpT
attribute [go_sem] zC7 zDi zEl yIz rfS stE yF0 del Option.isNone
def NOk : Nat -> Need -> Prop
 | 0, n => zJ8 n /\ n.L = []
 | d + 1, n => zJ8 n /\ ∀ x ∈ n.L, NOk d x
theorem NOk.set {d : Nat} {n : Need} (h : NOk d n) : zJ8 n := by cases d <;> exact h.1
def MOk : Nat -> Need -> Prop
 | 0, n => n.L = []
 | d + 1, n => n.L.length <= 8 /\ (zH3 n = true -> n.L = []) /\ ∀ x ∈ n.L, MOk d x
def zRw : Nat -> Nat
 | 0 => 1
 | d + 1 => 1 + 8 * zRw d
theorem yB3 (d : Nat) : 1 <= zRw d := by cases d <;> simp [zRw]
theorem zAi {α : Type} [Inhabited α] {l : List α} {i : Nat} (hi : i < l.length) : l.getD i default ∈ l := by
 rw [zz2, zz5 hi];exact List.getElem_mem hi
def zAd : Nat -> Nat -> Need -> List (Need × Nat)
 | 0, k, n => [(n, k)]
 | d + 1, k, n => (n, k) :: n.L.flatMap (zAd d (k + 1))
theorem zPx {α β : Type} [Inhabited α] (f : α -> List β) (l : List α) (i : Nat) (hi : i < l.length) : (l.take (i + 1)).flatMap f = (l.take i).flatMap f ++ f (l.getD i default) := by
 rw [List.take_add_one, zz5 hi, List.flatMap_append, zz2, zz5 hi];simp
theorem yFy {α β : Type} [Inhabited α] (f : α -> List β) (l : List α) (i : Nat) : ((l.take i).flatMap f).length <= (l.flatMap f).length := by
 have h : l.flatMap f = (l.take i).flatMap f ++ (l.drop i).flatMap f := by rw [<- List.flatMap_append, List.take_append_drop]
 rw [h, zye]; omega
theorem zLq {α β : Type} [Inhabited α] (f : α -> List β) (l : List α) (i : Nat) (hi : i < l.length) : ((l.take i).flatMap f).length + (f (l.getD i default)).length <= (l.flatMap f).length := by
 have h := yFy f l (i + 1);rw [zPx f l i hi, zye] at h;exact h
theorem zMt (d k : Nat) (n : Need) : 1 <= (zAd d k n).length := by cases d <;> simp [zAd]
theorem zRl (d k : Nat) : ∀ l : List Need, l.length <= (l.flatMap (zAd d k)).length
 | [] => zyj _
 | x :: r => by
  have h1 := zRl d k r;have h2 := zMt d k x;simp only [List.flatMap_cons, zye, List.length_cons];omega
theorem zDk (d k : Nat) (n : Need) : (zAd (d + 1) k n).length = 1 + (n.L.flatMap (zAd d (k + 1))).length := by simp only [zAd, List.length_cons]; omega
def zOj (qs : List (Need × Nat)) : Nat := qs.foldl (fun m x => max m x.2) 0
theorem zVg (qs : List (Need × Nat)) (x : Need × Nat) : zOj (qs ++ [x]) = max (zOj qs) x.2 := by simp [zOj]
@[go_sem] def eVl : OB := .var [.acc 1002]
@[go_sem] def eDp (qs : List (Need × Nat)) : OB := .var [.int .i64 (zOj qs : Nat)]
@[go_sem] def eAq (qs : List (Need × Nat)) : OB := .acc 30 5 qs.length (fun i => zAh (qs.getD i default).1)
abbrev YR (r : LR) (bl : List Nat) (h0 : Hp) : Prop := zR2 prog r.l h0 bl (fun ds os d os' => ∃ (qs : List (Need × Nat)) (x : Need × Nat), (x.2 <= 100 /\ qs.length < 10000) /\ ds = [eInt (x.2 : Nat), zAh x.1] /\ os = [eVl, eDp qs, eAq qs, zDi r .ready none] /\ d = .bool true /\ os' = zAy 1000 [eVl, eDp (qs ++ [x]), eAq (qs ++ [x]), zDi r .ready none])
theorem K222 (r : LR) (h0 : Hp) (bl : List Nat) (hbl : bl.length = 4) (Y : YR r bl h0) (d : Nat) : zZw prog 222 h0 bl (fun ds os v os' => ∃ (qs : List (Need × Nat)) (n : Need) (k : Nat), (NOk d n /\ k + d <= 100 /\ qs.length + (zAd d k n).length <= 10000) /\ ds = [zAh n, eInt (k : Nat), .yld r.l] /\ os = [eVl, eDp qs, eAq qs, zDi r .ready none] /\ v = .bool true /\ os' = zAy 1000 [eVl, eDp (qs ++ zAd d k n), eAq (qs ++ zAd d k n), zDi r .ready none]) := by
 obtain ⟨b0, b1, b2, b3, rfl⟩ : ∃ b0 b1 b2 b3, bl = [b0, b1, b2, b3] := by
  match bl, hbl with
  | [b0, b1, b2, b3], _ => exact ⟨b0, b1, b2, b3, rfl⟩
 induction d with
 | zero =>
  refine zFo call222 func222 rfl ntmps222 ?_;rintro ds os d os' ⟨qs, n, k, ⟨hn, hk, hq⟩, rfl, rfl, rfl, rfl⟩;refine ⟨by simp, by simp, fun F w0 han => ?_⟩;have c1 := zMt 0 k n;have hL : n.L = [] := hn.2
  repeat' (first | refine wB ?_ | refine zC (by simp only [go_sem, hL]; rfl) qR ?_ ?_ | refine zFf [1000, 1001, 1002, 1003] Y (by first | (simp only [go_sem, hL]; done) | (simp only [go_sem, hL]; rfl)) han qR qR (by simp only [go_sem, hL]; first | done | rfl) (by first | (simp only [go_sem, hL]; done) | rfl) (by first | (simp only [go_sem, hL]; done) | (simp only [go_sem, hL]; rfl)) ?_ ⟨qs, (n, k), ⟨by omega, by omega⟩, rfl, rfl, rfl, rfl⟩ (by simp only [go_sem, hL]; rfl) ?_ | (refine zAa (by simp only [go_sem, hL]; rfl) qC qC ?_ ?_ <;> intro hb hc <;> try (simp at hc; done)) | exact qT | fail)
  refine zH [0, 1, 2, 3, 15, 16] (fun x : Nat × Unit => [(17, .int .i64 x.1)]) (fun x => []) (fun x => x.1 <= 0) (fun x => 0 - x.1) (0, ()) (fun x => qS) ?_ qL qL ?_
  ·exact zyj _
  rintro ⟨j, _⟩ g1;simp only at g1
  repeat' (first | refine wA ?_ | exact qT | fail)
  (refine zAa qS qC qC ?_ ?_ <;> intro hb hc <;> try (simp at hc; done))
  repeat' (first | refine wA ?_ | refine zF qR ?_ | exact qT | fail)
  refine zV qR qS ?_ ?_
  ·exact SLe.refl _
  ·exact qO
 | succ d ih =>
  refine zFo call222 func222 rfl ntmps222 ?_;rintro ds os d os' ⟨qs, n, k, ⟨hn, hk, hq⟩, rfl, rfl, rfl, rfl⟩;refine ⟨by simp, by simp, fun F w0 han => ?_⟩;have c2 := zDk d k n;have c3 := zRl d (k + 1) n.L;obtain ⟨Q, hQd⟩ : ∃ Q : Nat -> List (Need × Nat), ∀ i, Q i = qs ++ ((n, k) :: (n.L.take i).flatMap (zAd d (k + 1))) := ⟨_, fun _ => rfl⟩;have hQ0 : qs ++ [(n, k)] = Q 0 := by rw [hQd]; simp
  have hQl : ∀ i, i < n.L.length -> (Q i).length + (zAd d (k + 1) (n.L.getD i default)).length <= qs.length + (zAd (d + 1) k n).length := by
   intro i hi;have := zLq (zAd d (k + 1)) n.L i hi;rw [hQd, c2];simp only [zye, List.length_cons];omega
  repeat' (first | refine wB ?_ | refine zC (by simp only [go_sem, hQ0]; rfl) qR ?_ ?_ | refine zFf [1000, 1001, 1002, 1003] Y (by first | (simp only [go_sem, hQ0]; done) | (simp only [go_sem, hQ0]; rfl)) han qR qR (by simp only [go_sem, hQ0]; first | done | rfl) (by first | (simp only [go_sem, hQ0]; done) | rfl) (by first | (simp only [go_sem, hQ0]; done) | (simp only [go_sem, hQ0]; rfl)) ?_ ⟨qs, (n, k), ⟨by omega, by omega⟩, rfl, rfl, rfl, rfl⟩ (by simp only [go_sem, hQ0]; rfl) ?_ | (refine zAa (by simp only [go_sem, hQ0]; rfl) qC qC ?_ ?_ <;> intro hb hc <;> try (simp at hc; done)) | exact qT | fail)
  refine zH [0, 1, 2, 3, 15, 16] (fun x : Nat × Unit => [(17, .int .i64 x.1)]) (fun x => [(1001, eDp (Q x.1)), (1002, eAq (Q x.1))]) (fun x => x.1 <= n.L.length) (fun x => n.L.length - x.1) (0, ()) (fun x => qS) ?_ qL qL ?_
  ·exact zz7 _
  rintro ⟨j, _⟩ g1;simp only at g1
  repeat' (first | refine wA ?_ | exact qT | fail)
  (refine zAa qS qC qC ?_ ?_ <;> intro hb hc <;> try (simp at hc; done))
  ·have hj : j < n.L.length := by assumption
   have hx := hn.2 _ (zAi hj);have hl := hQl j hj;have en : zBe (zDh n.L) j = zAh (n.L.getD j default) := by rw [zDl _ _ hj, zFt, zEp]; rfl
   have hQ : Q j ++ zAd d (k + 1) (n.L.getD j default) = Q (j + 1) := by rw [hQd, hQd, zPx _ _ _ hj]; simp
   have e1 : IntKind.i64.wrap ((k : Int) + 1) = ((k + 1 : Nat) : Int) := by rw [w64]; omega
   repeat' (first | refine wB ?_ | refine zC (by simp only [go_sem, en, hQ, e1]; rfl) qR ?_ ?_ | refine zMj [1000, 1001, 1002, 1003] ih han qR qR (by simp only [go_sem, en, hQ, e1]; first | done | rfl) (by first | (simp only [go_sem, en, hQ, e1]; done) | rfl) (by first | (simp only [go_sem, en, hQ, e1]; done) | (simp only [go_sem, en, hQ, e1]; rfl)) ?_ ⟨Q j, n.L.getD j default, k+1, ⟨hx, by omega, by omega⟩, rfl, rfl, rfl, rfl⟩ (by simp only [go_sem, en, hQ, e1]; rfl) ?_ | (refine zAa (by simp only [go_sem, en, hQ, e1]; rfl) qC qC ?_ ?_ <;> intro hb hc <;> try (simp at hc; done)) | refine zL (j+1,()) ?_ ?_ ⟨rfl, qL, qL⟩ | exact qT | omega | exact qP | fail)
  ·have hQe : Q j = qs ++ zAd (d + 1) k n := by rw [hQd, List.take_of_length_le (by omega)]; rfl
   rw [hQe]
   repeat' (first | refine wA ?_ | refine zF qR ?_ | exact qT | fail)
   refine zV qR qS ?_ ?_
   ·exact SLe.refl _
   ·exact qO
end Go.Sx
namespace Go.Sx
open Go.Proofs Tryz
theorem zSh {P : Program} {F : List Nat} {w0 : Base} {fin : Exit -> Act -> World -> Prop} {k : List It} {s s' : St} (h : s = s') (hn : Run P F w0 fin k s') : Run P F w0 fin k s := h ▸ hn
theorem zNj {P : Program} {F : List Nat} {w0 : Base} {fin : Exit -> Act -> World -> Prop} {k : List It} {s : St} (ns : List Nat) {l : List (Nat × SD)} (hl : zU8 s.sl ns = l) (hn : Run P F w0 fin k ⟨s.n, s.nx, l, s.ow⟩) : Run P F w0 fin k s := fun h e a w D =>
 hn h e a w (hl ▸ D.weak' (s' := ⟨s.n, s.nx, zU8 s.sl ns, s.ow⟩) rfl (zIh ns) fun k o h => ⟨o, h, OLe.refl o⟩)
open Go.Proofs Go.RowKit
attribute [local irreducible] Run zAg zAs OpT zAc SLe OLe
@[go_sem] def zXv (n : Need) : List SD := [.int .i64 n.Kind, .int .i64 n.N, .int .i64 n.Min, zAj 2 zAv n.Set, .list 5 n.L.length fun i => zBe (zDh n.L) i]
theorem K221 (r : LR) (h0 : Hp) (bl : List Nat) (hbl : bl.length = 4) (Y : YR r bl h0) (d : Nat) : zZw prog 221 h0 bl (fun ds os v os' => ∃ (qs : List (Need × Nat)) (n : Need), (NOk d n /\ 1 + d <= 100 /\ qs.length + (zAd d 1 n).length <= 10000) /\ ds = [.yld r.l, .fp (zXv n)] /\ os = [eVl, eDp qs, eAq qs, zDi r .ready none] /\ v = .tup [] /\ os' = zAy 1000 [eVl, eDp (qs ++ zAd d 1 n), eAq (qs ++ zAd d 1 n), zDi r .ready none]) := by
 have K := K222 r h0 bl hbl Y d
 obtain ⟨b0, b1, b2, b3, rfl⟩ : ∃ b0 b1 b2 b3, bl = [b0, b1, b2, b3] := by
  match bl, hbl with
  | [b0, b1, b2, b3], _ => exact ⟨b0, b1, b2, b3, rfl⟩
 refine zFo call221 func221 rfl ntmps221 ?_;rintro ds os d os' ⟨qs, n, ⟨hn, hk, hq⟩, rfl, rfl, rfl, rfl⟩;refine ⟨by simp, by simp, fun F w0 han => ?_⟩
 repeat' (first | refine wA ?_ | refine zMj [1000, 1001, 1002, 1003] K han qR qR qD (by first | (simp only [go_sem]; done) | rfl) qF ?_ ⟨qs, n, 1, ⟨hn, hk, hq⟩, rfl, rfl, rfl, rfl⟩ qS ?_ | exact qT | fail)
 refine zBr qR ?_ ?_
 ·repeat' (first | exact SLe.refl _ | fail)
 ·exact qO
theorem K185 : FnOK prog 185 (fun ds d => ∃ n : Need, ds = [zAh n] /\ d = .fn 221 [.fp (zXv n)]) := by
 refine zAb call185 func185 rfl ntmps185 ?_;rintro ds d ⟨n, rfl, rfl⟩;refine ⟨by simp, fun w0 => ?_⟩
 repeat' (first | refine zI 0 qS ?_ | refine wA ?_ | refine zE qR ?_ | exact qT | exact zAc.pure rfl | fail)
end Go.Sx
namespace Go.Sx
open Go.Proofs Tryz
theorem zZw.weaken {P : Program} {f : Nat} {h0 : Hp} {bl : List Nat} {R R' : List SD -> List OB -> SD -> List (Nat × OB) -> Prop} (hf : zZw P f h0 bl R) (h : ∀ ds os d os', R' ds os d os' -> R ds os d os') : zZw P f h0 bl R' := ⟨hf.call, fun ds os d os' hr => hf.ok ds os d os' (h ds os d os' hr)⟩
open Go.Proofs Go.RowKit
attribute [local irreducible] Run zAg zAs OpT zAc SLe OLe
theorem yFc (qs : List (Need × Nat)) (x : Need × Nat) (f : Nat -> SD) (hf : f 0 = zAh x.1) (i : Nat) (hi : i < qs.length + 1) : zBm qs.length (fun i => zAh (qs.getD i default).1) f i = zAh ((qs ++ [x]).getD i default).1 := by
 simp only [zBm];by_cases h : i < qs.length
 ·rw [if_pos h, zz2, zz2, zyb h]
 ·have : i = qs.length := by omega
  subst this;rw [if_neg h, Nat.sub_self, hf];simp
theorem yHw (qs : List (Need × Nat)) (x : Need × Nat) {f : Nat -> SD} (hf : f 0 = zAh x.1) : OLe (.acc 30 5 (qs.length + 1) (zBm qs.length (fun i => zAh (qs.getD i default).1) f)) (eAq (qs ++ [x])) := OLe.accS (by simp) fun i hi => yFc qs x f hf i hi
@[go_sem] def eQl (qs : List (Need × Nat)) : SD := .list 5 qs.length fun i => zAh (qs.getD i default).1
def WOk (d : Nat) (n : Need) : Prop := NOk d n /\ (zAd d 1 n).length <= 1000
theorem K143 (d : Nat) (hd : 1 + d <= 100) : FnOK prog 143 (fun ds v => ∃ n : Need, WOk d n /\ ds = [zAh n] /\ v = .tup [eQl (zAd d 1 n), .int .i64 (zOj (zAd d 1 n) : Nat), .bool true]) := by
 refine zPw call143 func143 rfl ntmps143 ?_;rintro ds v ⟨n, ⟨hn, hc⟩, rfl, rfl⟩;refine ⟨by simp, fun w0 => ?_⟩
 repeat' (first | refine wA ?_ | refine zG K185 qD ?_ ⟨_, rfl, rfl⟩ qS ?_ | exact qT | fail)
 refine zCe 1 0 30 5 (fun i => zAh (([] : List (Need × Nat)).getD i default).1) rfl rfl (by simp only [List.set]; rfl) rfl ?_;refine zNj [2, 3, 4, 8] qS ?_;refine zE5 [1, 2, 4] (gf := 221) (os := [eVl, eDp [], eAq []]) (osu' := [eVl, eDp (zAd d 1 n), eAq (zAd d 1 n)]) (pe := none) rfl qS qR qR qR qR (fun r K => by rfl) (fun h1 bl r hps has hbd htm hbl1 hle hfx hsl => ?hit) (fun r K => by simp only [go_sem]; rfl) (fun r K => by rfl) (fun r K => ?hk)
 case hk =>
  refine zSh (s' := ?_) qS ?_;simp only [zVh];change Run _ _ ⟨w0, none, [{ target := .collected K, args := #[] }]⟩ _ _ _
  repeat' (first | refine zI 4 qS ?_ | refine wA ?_ | refine zM qS qR ?_ ?_ | refine zJ qK qK ?_ | exact zz0 | fail)
  refine zK8 5 K qR qR qS ?_;exact zAc.le qZ (SLe.refl _)
 case hit =>
  refine (K221 r h1 bl (by simpa using hbl1) ?Y d).weaken ?w
  case w =>
   rintro ds os d os' ⟨rfl, rfl, rfl, rfl⟩;exact ⟨[], n, ⟨hn, hd, by show 0 + _ <= _; omega⟩, rfl, rfl, rfl, rfl⟩
  case Y =>
   obtain ⟨c0, c1, c2, c3, rfl⟩ : ∃ b0 b1 b2 b3, bl = [b0, b1, b2, b3] := by
    match bl, hbl1 with
    | [b0, b1, b2, b3], _ => exact ⟨b0, b1, b2, b3, rfl⟩
   refine zKx r [(2, .loc 1000 0), (3, .loc 1001 0)] 27 r.l rfl htm (by rw [hps]; simp) (fun h e hl hb t => by
    by_cases ht : t = 2
    ·subst ht; exact hsl h e hl hb 2
    ·by_cases ht3 : t = 3
     ·subst ht3; exact hsl h e hl hb 3
     ·have : lkp [(2, SD.loc 1000 0), (3, SD.loc 1001 0)] t = .any := by
       simp only [lkp]; rw [zHi (fun hc => ht hc.symm), zHi (fun hc => ht3 hc.symm)]; rfl
      rw [this]; simp only [rep]) ?_
   rintro ds os v os' ⟨qs, x, ⟨hx, hql⟩, rfl, rfl, rfl, rfl⟩;have f1 : decide ((100 : Int) < ((x.2 : Nat) : Int)) = false := zyq (by omega)
   have f2 : (((qs.length : Nat) : Int) == 10000) = false := by
    rw [beq_eq_false_iff_ne]; intro hc; omega
   refine ⟨[eVl, eDp qs, eAq qs], [eVl, eDp (qs ++ [x]), eAq (qs ++ [x])], none, ?sA, rfl, rfl, rfl, rfl, rfl, by rw [hps]; rfl, fun F w0 han2 => ?g1, ?g2, fun F w0 han2 => ?g3⟩
   case g1 =>
    rw [has, hps];change Run _ F _ _ _ ⟨27, 0, upd (upd [(2, .loc 1000 0), (3, .loc 1001 0)] 9 (eInt (x.2 : Nat))) 10 (zAh x.1), _⟩
    repeat' (first | refine wA ?_ | exact qT | fail)
    exact zIp
   case g2 => rfl
   case g3 =>
    rw [hbd]
    repeat' (first | refine wB ?_ | refine zC (by simp only [go_sem, zC7, f1, f2]; rfl) qR ?_ ?_ | refine zM (by simp only [go_sem, zC7, f1, f2]; rfl) qR ?_ ?_ | refine zJ qK qK ?_ | refine zF3 (by simp only [go_sem, zC7, f1, f2]; rfl) ?_ (by simp only [go_sem, zC7, f1, f2]; rfl) ?_ | (refine zAa (by simp only [go_sem, zC7, f1, f2]; rfl) qC qC ?_ ?_ <;> intro hb hc <;> try (simp at hc; done)) | exact qT | exact qP | fail)
    refine yAs 701 1002 qS ?_;refine zK (o' := eAq (qs ++ [x])) 1002 qR (yHw qs x rfl) ?_;refine zD6 ?_
    (show zEu _ _; simp only [go_sem]; repeat' (first | exact SLe.any1 | exact trivial | exact zz0 | exact SLe.refl _ | exact OLe.refl _ | exact ⟨_, rfl, OLe.refl _⟩ | refine ⟨_, rfl, ?_⟩ | refine OLe.var ?_ | (show zCr _ _; refine ⟨?_, ?_⟩) | (show zCr [] []; exact zz0) | (refine SLe.int ?_; rw [w64]; omega) | refine SLe.int ?_ | refine SLe.bool ?_ | apply And.intro))
    rw [zVg];split <;> omega
end Go.Sx
