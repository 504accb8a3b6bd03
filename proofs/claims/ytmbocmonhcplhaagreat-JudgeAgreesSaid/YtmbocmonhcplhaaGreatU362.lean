/- Part of the proof that the laws of the judge return true for every input: J92a, J92b, J93, U360, U361, U362. -/
import Derived.Test.YtmbocmonhcplhaaGreatJ91
import Derived.Test.YtmbocmonhcplhaaGreatJ31
set_option linter.all false
namespace Go.Sx
theorem zLk {P : Program} {F : List Nat} {w0 : Base} {s : St} {fin : Exit → Act → World → Prop} {kl : List It} (k : Nat) {T es n i n' i' : Nat} {f f' : Nat → SD} {d d' : SD} (ho : lkO s.ow k = some (zF5 T es n f i d)) (hn' : n = n') (hi' : i = i') (hf : ∀ q, q < n → q ≠ i → f q = f' q) (hd : SLe d d')
  (hn : Run P F w0 fin kl ⟨s.n, s.nx, s.sl, upd s.ow k (zF5 T es n' f' i' d')⟩) : Run P F w0 fin kl s := fun h e a w D => by
 subst hn' hi'
 refine hn h e a w ?_
 have hb : ∀ e : Nm, (zF5 T es n f' i d').blk e k = (zF5 T es n f i d).blk e k := fun e => by rw [zF9 zCr, zF9 zCr]
 refine ⟨D.defers, D.size, D.slot, fun j o hj => ?_, fun j o b hj hbb => ?_, fun j j' o o' b hne hj hj' hbb => ?_, D.sub, D.keeps, D.le, D.neww, D.fix⟩
 ·rw [zA2] at hj
  by_cases hjk : j = k
  ·subst hjk
   simp only [if_true, zz1] at hj;subst hj;obtain ⟨xs, o1, o2, o3, o4, uv, y5, y6⟩ := zKl rfl (D.own j _ ho);exact zIx o1 o2 o3 (fun q hq hqi => by rw [← hf q hq hqi]; exact o4 q hq hqi) (hd _ _ _ y5) y6
  ·simp only [hjk, if_false] at hj
   exact D.own j o hj
 ·rw [zA2] at hj
  by_cases hjk : j = k
  ·subst hjk
   simp only [if_true, zz1] at hj;subst hj;rw [hb] at hbb;exact D.ownb j _ b ho hbb
  ·simp only [hjk, if_false] at hj
   exact D.ownb j o b hj hbb
 ·rw [zA2] at hj hj'
  by_cases hjk : j = k
  ·subst hjk
   simp only [if_true, zz1] at hj;subst hj;rw [hb] at hbb;have hjk' : ¬ j' = j := fun hc => hne hc.symm;simp only [hjk', if_false] at hj';exact D.apart j j' _ o' b hne ho hj' hbb
  ·simp only [hjk, if_false] at hj
   by_cases hjk' : j' = k
   ·subst hjk'
    simp only [if_true, zz1] at hj';subst hj';rw [hb];exact D.apart j j' o _ b hne hj ho hbb
   ·simp only [hjk', if_false] at hj'
    exact D.apart j j' o o' b hne hj hj' hbb
open Go.Proofs Go.RowKit
attribute [local irreducible] Run zAi zAy OpT zAc SLe OLe
set_option maxHeartbeats 2000000
set_option maxRecDepth 8000
set_option maxHeartbeats 20000000
theorem yFi (Pm : Need → Prop) (ih : FnOK Tryz.prog 89 (fun ds v => ∃ n : Need, Pm n ∧ ds = [zAb n] ∧ v = zAb n)) : FnM Tryz.prog 89 (fun ds os d os' => ∃ n : Need, ((∀ m ∈ n.L, Pm m) ∧ n.L.length ≤ 10000) ∧ ds = [zAb n] ∧ os = [] ∧ d = .agg [.int .i64 n.Kind, .int .i64 n.N, .int .i64 n.Min, .acc 3, .acc 4] ∧ os' = [(4, .acc 30 5 n.L.length fun i => zAb (n.L.getD i default)), (3, .acc 63 2 n.Set.length fun i => zAe (n.Set.getD i default))]) := by
 refine zBq Tryz.call89 Tryz.func89 rfl Tryz.ntmps89 ?_
 rintro ds os d os' ⟨n, ⟨hn, hl⟩, rfl, rfl, rfl, rfl⟩
 refine ⟨by simp, fun F w0 => ?_⟩
 refine yE 0 3 rfl rfl fun hs => ?_
 repeat' (first | apply zC | apply zD | apply zA | apply zB | refine zF qS qR ?_ ?_ | exact zz0 | exact rfl | exact qP | fail)
 refine zR (o' := .acc 63 2 n.Set.length fun i => zAe (n.Set.getD i default)) 3 qR (zWp _) ?_
 refine zC9 2 4 30 5 (fun i => zAb (([] : List Need).getD i default)) rfl rfl (by simp only [List.set]; rfl) qZ ?_
 refine zN [0, 1, 2, 3] (fun x : Nat × Unit => [(4, .int .i64 x.1)]) (fun x : Nat × Unit => [(4, .acc 30 5 (n.L.take x.1).length (fun i => zAb ((n.L.take x.1).getD i default)))]) (fun x : Nat × Unit => x.1 ≤ n.L.length) (fun x : Nat × Unit => n.L.length - x.1) (0, ()) (fun x => qS) ?_ qL qL ?_
 ·exact Nat.zero_le _
 rintro ⟨j, _⟩ g1
 simp only at g1
 repeat' (first | apply zC | apply zA | apply zB | refine zF qS qR ?_ ?_ | exact zz0 | exact rfl | fail)
 (refine zE qS ?_ ?_ <;> intro hb <;> have hc := hb <;> (try simp only [bF] at hc) <;> (try (exfalso; simp at hc; done)))
 ·have hj : j < n.L.length := by assumption
  have hx := hn _ (zAk hj);have htk : n.L.take (j + 1) = n.L.take j ++ [n.L.getD j default] := by rw [List.take_add_one, zz2, List.getElem?_eq_getElem hj]; rfl
  have en : zBc (zB9 n.L) j = zAb (n.L.getD j default) := by rw [zBs _ _ hj, zDz, zB5]; rfl
  repeat' (first | apply zC | apply zG | apply zD | apply zL | apply zA | apply zP | apply zB | refine zF (by simp only [go_sem, en]; rfl) qR ?_ ?_ | refine zBj (by simp only [go_sem, en]; rfl) qR ?_ (by simp only [go_sem, en, zAw, zG5, zD7, zH2, zBf, keysA, zCz]; rfl) ?_ | refine zQ qK qK ?_ | refine zF0 (by simp only [go_sem, en]; rfl) ?_ (by simp only [go_sem, en]; rfl) ?_ | refine zX ih (by simp only [go_sem, en]; first | done | rfl) ?_ ⟨n.L.getD j default, hx, rfl, rfl⟩ (by simp only [go_sem, en]; rfl) ?_ | exact zz0 | exact rfl | exact qP | fail)
  refine zFa 5 4 qS ?_;refine zR (o' := .acc 30 5 (n.L.take j ++ [n.L.getD j default]).length (fun i => zAb ((n.L.take j ++ [n.L.getD j default]).getD i default))) 4 qR (zA4 zAb (n.L.take j) _ rfl) ?_;rw [← htk]
  repeat' (first | refine zS (j+1,()) ?_ ?_ ⟨rfl, qL, qL⟩ | omega)
  all_goals skip
 ·have hje : j = n.L.length := by omega
  subst hje;rw [List.take_length]
  repeat' (first | apply zC | apply zA | apply zB | refine zF qS qR ?_ ?_ | refine zK qR ?_ | exact zz0 | exact rfl | fail)
  refine yC qR qS ?_ ?_
  ·exact SLe.refl _
  ·(show zC2 _ _; simp only [go_sem]; repeat' (first | exact SLe.any1 | exact trivial | exact zz0 | exact SLe.refl _ | exact OLe.refl _ | exact ⟨_, rfl, OLe.refl _⟩ | refine ⟨_, rfl, ?_⟩ | refine OLe.var ?_ | (show zAh _ _; refine ⟨?_, ?_⟩) | (show zAh [] []; exact zz0) | (refine SLe.int ?_; rw [w64]; omega) | refine SLe.int ?_ | refine SLe.bool ?_ | apply And.intro))
end Go.Sx
namespace Go.Sx
open Go.Proofs Go.RowKit
attribute [local irreducible] Run zAi zAy OpT zAc SLe OLe
set_option maxHeartbeats 2000000
set_option maxRecDepth 8000
set_option maxHeartbeats 40000000
@[go_sem] def yGt (n : Need) (i : Nat) (d : SD) : OB := zF5 30 5 n.L.length (fun j => zAb (n.L.getD j default)) i d
@[go_sem] def resS (b : Nat) (n : Need) : List Nat → SD
 | [] => .acc (b + 3)
 | _ :: _ => zAo 2 zAe n.Set
@[go_sem] def zQ2 (b : Nat) (n : Need) (r : List Nat) : SD := .agg [.int .i64 n.Kind, .int .i64 n.N, .int .i64 n.Min, resS b n r, .acc (b + 4)]
@[go_sem] def osP (b : Nat) (n : Need) : List Nat → List (Nat × OB)
 | [] => [(b + 4, .acc 30 5 n.L.length fun q => zAb (n.L.getD q default)), (b + 3, .acc 63 2 n.Set.length fun q => zAe (n.Set.getD q default))]
 | i :: r => (b + 4, yGt n i (zQ2 (b + 5) (n.L.getD i default) r)) :: osP (b + 5) (n.L.getD i default) r
theorem zB1 {P : Program} {F : List Nat} {w0 : Base} {s : St} (j k : Nat) {s' : St} {fin : Exit → Act → World → Prop} {kl : List It} (_ : (lkO s.ow j).isSome = true) (hq : yD6 s j k = some s') (hn : Run P F w0 fin kl s') : Run P F w0 fin kl s := zFa j k hq hn
theorem zUt {P : Program} {F : List Nat} {w0 : zB0} {g : Func} {D : SD} {n : Need} {i : Nat} {r : List Nat} {k : List It} {s : St} {σ : Type} {body : Code} {S : σ → St} (ns : List Nat) (U : σ → List (Nat × SD)) (UO : List Nat → σ → List (Nat × OB)) (I : σ → Prop) (μ : σ → Nat) (x0 : σ) (hS : ∀ x, zWc s ns U (UO r) x = S x) (h0 : I x0)
  (hs : zQs s.sl (U x0)) (ho : zC2 s.ow (UO r x0)) (hb : ∀ x, I x → Run P F w0.std (bodyPost P g (zA8 F w0 D (osP 0 n (i :: r)))) (.code body :: .lp (LI F w0.std S I μ x) :: k) (S x)) : Run P F w0.std (bodyPost P g (zA8 F w0 D (osP 0 n (i :: r)))) (.code (.loop body) :: k) s := zN ns U (UO r) I μ x0 hS h0 hs ho hb
theorem K89o (Pm : Need → Prop) (Qm : Need → List Nat → Prop) (hQ : ∀ c r, Qm c r → r.length ≤ 2) (ih : FnOK Tryz.prog 89 (fun ds v => ∃ n : Need, Pm n ∧ ds = [zAb n] ∧ v = zAb n))
  (io : FnM Tryz.prog 89 (fun ds os d os' => ∃ (n : Need) (r : List Nat), Qm n r ∧ ds = [zAb n] ∧ os = [] ∧ d = zQ2 0 n r ∧ os' = osP 0 n r)) :
  FnM Tryz.prog 89 (fun ds os d os' => ∃ (n : Need) (i : Nat) (r : List Nat), (i < n.L.length ∧ (∀ m ∈ n.L, Pm m) ∧ Qm (n.L.getD i default) r ∧ n.L.length ≤ 10000) ∧ ds = [zAb n] ∧ os = [] ∧ d = zQ2 0 n (i :: r) ∧ os' = osP 0 n (i :: r)) := by
 refine zBq Tryz.call89 Tryz.func89 rfl Tryz.ntmps89 ?_
 rintro ds os d os' ⟨n, i, r, ⟨hi, hn, hq, hl⟩, rfl, rfl, rfl, rfl⟩
 refine ⟨by simp, fun F w0 => ?_⟩
 obtain ⟨c, hcc⟩ : ∃ c, n.L.getD i default = c := ⟨_, rfl⟩
 have hr := hQ _ _ hq
 rcases r with _ | ⟨i1, _ | ⟨i2, _ | ⟨i3, r⟩⟩⟩
 rotate_right
 ·exfalso
  simp only [List.length_cons] at hr;omega
 all_goals
  refine yE 0 3 rfl rfl fun hs => ?_
  repeat' (first | apply zC | apply zD | apply zA | apply zB | refine zF qS qR ?_ ?_ | exact zz0 | exact rfl | exact qP | fail)
  refine zR (o' := .acc 63 2 n.Set.length fun i => zAe (n.Set.getD i default)) 3 qR (zWp _) ?_;refine zO 3 qS ?_;refine zC9 2 4 30 5 (fun i => zAb (([] : List Need).getD i default)) rfl rfl (by simp only [List.set]; rfl) qZ ?_;rw [hcc] at hq;refine zUt [0, 1, 2, 3] (fun x : Nat × Bool => [(4, .int .i64 x.1)]) (fun r x => bif x.2 then (4, zF5 30 5 x.1 (fun j => zAb (n.L.getD j default)) i (zQ2 5 c r)) :: osP 5 c r else [(4, .acc 30 5 (n.L.take x.1).length (fun i => zAb ((n.L.take x.1).getD i default)))]) (fun x => x.1 ≤ n.L.length ∧ (if x.2 then i < x.1 else x.1 ≤ i)) (fun x => n.L.length - x.1) (0, false) (fun x => qS) ?_ qL qL ?_
  ·exact ⟨Nat.zero_le _, Nat.zero_le _⟩
  rintro ⟨j, b⟩ ⟨g1, g2⟩;simp only at g1 g2;cases b with
  | false =>
   simp only [Bool.false_eq_true, if_false] at g2
   repeat' (first | apply zC | apply zA | apply zB | refine zF qS qR ?_ ?_ | exact zz0 | exact rfl | fail)
   (refine zE qS ?_ ?_ <;> intro hb <;> have hc := hb <;> (try simp only [bF] at hc) <;> (try (exfalso; simp at hc; done)))
   ·have hj : j < n.L.length := by assumption
    have hx := hn _ (zAk hj);have htl : (n.L.take j).length = j := by rw [List.length_take]; omega
    have htk : n.L.take (j + 1) = n.L.take j ++ [n.L.getD j default] := by rw [List.take_add_one, zz2, List.getElem?_eq_getElem hj]; rfl
    have en : zBc (zB9 n.L) j = zAb (n.L.getD j default) := by rw [zBs _ _ hj, zDz, zB5]; rfl
    by_cases hji : j = i
    ·subst hji
     rw [hcc] at en
     repeat' (first | apply zC | apply zG | apply zD | apply zL | apply zA | apply zP | apply zB | refine zF (by simp only [go_sem, en]; rfl) qR ?_ ?_ | refine zBj (by simp only [go_sem, en]; rfl) qR ?_ (by simp only [go_sem, en, zAw, zG5, zD7, zH2, zBf, keysA, zCz]; rfl) ?_ | refine zQ qK qK ?_ | refine zQ1 (by simp only [go_sem, en]; rfl) ?_ (by simp only [go_sem, en]; rfl) ?_ | refine yD4 (by simp only [go_sem, en]; rfl) (by simp only [go_sem, en]; first | done | rfl) (by simp only [go_sem, en]; rfl) ?_ | refine zB4 [] io qR (by simp only [go_sem, en]; first | done | rfl) (by simp only [go_sem, en]) (by first | (simp only [go_sem, en]; done) | (simp only [go_sem, en]; rfl)) ?_ ⟨c, _, hq, rfl, rfl, rfl, rfl⟩ (by simp only [go_sem, en]; rfl) ?_ | exact zz0 | exact rfl | exact qP | fail)
     first | refine zB1 21 4 qR qS ?_ | refine zB1 16 4 qR qS ?_ | refine zB1 11 4 qR qS ?_
     refine zLk (n' := j + 1) (i' := j) (f' := fun q => zAb (n.L.getD q default)) 4 qR (by rw [htl]) htl (fun q hq hqi => ?_) (SLe.refl _) ?_
     ·show zAb ((n.L.take j).getD q default) = zAb (n.L.getD q default)
      rw [htl] at hq hqi
      congr 1
      rw [zz2, zz2, List.getElem?_take, if_pos (by omega)]
     repeat' (first | refine zS (j+1,true) ?_ ?_ ⟨rfl, qL, qL⟩ | omega)
     exact ⟨by simp only; omega, by simp⟩
    ·repeat' (first | apply zC | apply zG | apply zD | apply zL | apply zA | apply zP | apply zB | refine zF (by simp only [go_sem, en]; rfl) qR ?_ ?_ | refine zBj (by simp only [go_sem, en]; rfl) qR ?_ (by simp only [go_sem, en, zAw, zG5, zD7, zH2, zBf, keysA, zCz]; rfl) ?_ | refine zQ qK qK ?_ | refine zF0 (by simp only [go_sem, en]; rfl) ?_ (by simp only [go_sem, en]; rfl) ?_ | refine zX ih (by simp only [go_sem, en]; first | done | rfl) ?_ ⟨n.L.getD j default, hx, rfl, rfl⟩ (by simp only [go_sem, en]; rfl) ?_ | exact zz0 | exact rfl | exact qP | fail)
     refine zFa 5 4 qS ?_;refine zR (o' := .acc 30 5 (n.L.take j ++ [n.L.getD j default]).length (fun i => zAb ((n.L.take j ++ [n.L.getD j default]).getD i default))) 4 qR (zA4 zAb (n.L.take j) _ rfl) ?_;rw [← htk]
     repeat' (first | refine zS (j+1,false) ?_ ?_ ⟨rfl, qL, qL⟩ | omega)
     exact ⟨by simp only; omega, by show j + 1 ≤ i; omega⟩
   ·exfalso
    omega
  | true =>
   simp only [if_true] at g2
   repeat' (first | apply zC | apply zA | apply zB | refine zF qS qR ?_ ?_ | exact zz0 | exact rfl | fail)
   (refine zE qS ?_ ?_ <;> intro hb <;> have hc := hb <;> (try simp only [bF] at hc) <;> (try (exfalso; simp at hc; done)))
   ·have hj : j < n.L.length := by assumption
    have hx := hn _ (zAk hj);have en : zBc (zB9 n.L) j = zAb (n.L.getD j default) := by rw [zBs _ _ hj, zDz, zB5]; rfl
    repeat' (first | apply zC | apply zG | apply zD | apply zL | apply zA | apply zP | apply zB | refine zF (by simp only [go_sem, en]; rfl) qR ?_ ?_ | refine zBj (by simp only [go_sem, en]; rfl) qR ?_ (by simp only [go_sem, en, zAw, zG5, zD7, zH2, zBf, keysA, zCz]; rfl) ?_ | refine zQ qK qK ?_ | refine zQ1 (by simp only [go_sem, en]; rfl) ?_ (by simp only [go_sem, en]; rfl) ?_ | refine zX ih (by simp only [go_sem, en]; first | done | rfl) ?_ ⟨n.L.getD j default, hx, rfl, rfl⟩ (by simp only [go_sem, en]; rfl) ?_ | exact zz0 | exact rfl | exact qP | fail)
    refine zFa 5 4 qS ?_;refine zLk (n' := j + 1) (i' := i) (f' := fun q => zAb (n.L.getD q default)) 4 qR rfl rfl (fun q hq hqi => ?_) (SLe.refl _) ?_
    ·simp only [zA3]
     by_cases h : q < j
     ·rw [if_pos h]; rfl
     ·have : q = j := by omega
      subst this;rw [if_neg h, Nat.sub_self]; rfl
    repeat' (first | refine zS (j+1,true) ?_ ?_ ⟨rfl, qL, qL⟩ | omega)
    exact ⟨by simp only; omega, by simp only [if_true]; omega⟩
   ·have hje : j = n.L.length := by omega
    subst hje;rw [← hcc] at *
    repeat' (first | apply zC | apply zA | apply zB | refine zF qS qR ?_ ?_ | refine zK qR ?_ | exact zz0 | exact rfl | fail)
    refine yC qR qS ?_ ?_
    ·exact SLe.refl _
    ·(show zC2 _ _; simp only [go_sem]; repeat' (first | exact SLe.any1 | exact trivial | exact zz0 | exact SLe.refl _ | exact OLe.refl _ | exact ⟨_, rfl, OLe.refl _⟩ | refine ⟨_, rfl, ?_⟩ | refine OLe.var ?_ | (show zAh _ _; refine ⟨?_, ?_⟩) | (show zAh [] []; exact zz0) | (refine SLe.int ?_; rw [w64]; omega) | refine SLe.int ?_ | refine SLe.bool ?_ | apply And.intro))
end Go.Sx
namespace Go.Sx
structure Q3 where (a b c : Int)
 deriving Inhabited
@[go_sem] def eQ (q : Q3) : SD := .agg [.int .i64 q.a, .int .i64 q.b, .int .i64 q.c]
attribute [go_sem] asA asS zIs
@[go_sem] theorem tn0c : Int.toNat 0 = 0 := rfl
@[go_sem] theorem tn1c : Int.toNat 1 = 1 := rfl
@[go_sem] theorem tn2c : Int.toNat 2 = 2 := rfl
@[go_sem] theorem hz5 : (#[Value.int .i64 0, Value.int .i64 0, Value.int .i64 0, Value.slice none 0 0, Value.slice none 0 0].all (fun a => a.oneCell')) = true := by first | kernel_rfl | simp [Value.oneCell'] | decide
@[go_sem] theorem hz5' : (#[Value.int .i64 0, Value.int .i64 0, Value.int .i64 0, Value.slice none 0 0, Value.slice none 0 0].all (fun a => a.oneCell') 0 5) = true := by first | kernel_rfl | simp [Value.oneCell'] | decide
def ns14 : List Int := [-1, 0, 1, 2, 3, 600, 601, 4, 5, 6, 7, 8, 9, 10]
def ms14 : List Int := [0, 1, 50, 1000, 1001, -1000, -1001, 60, 70, 80, 90, 100, 10, 20]
def yF3 : List ByteArray := [⟨#[]⟩, ⟨#[97]⟩, ⟨#[65, 65, 65, 65, 65, 65, 65, 65]⟩, ⟨#[65, 65, 65, 65, 65, 65, 65, 65, 65]⟩, ⟨#[65, 49]⟩, ⟨#[90, 57]⟩, ⟨#[66]⟩, ⟨#[67]⟩, ⟨#[68]⟩, ⟨#[69]⟩, ⟨#[70]⟩, ⟨#[71]⟩, ⟨#[72]⟩, ⟨#[73]⟩]
def leafA : Need := .mk 1 0 0 [⟨1, ⟨#[65]⟩⟩] []
def leafB : Need := .mk 1 0 0 [⟨2, ⟨#[66]⟩⟩] []
def zJ (j : Nat) : ByteArray := ⟨#[90, UInt8.ofNat (65 + j)]⟩
def yDa (l : List Course) (k : Nat) : List Course := match l with
 | [] => []
 | x :: r => ⟨x.School, yF3.getD k ByteArray.empty⟩ :: r
def yFs (t : Need) (a : Int) (k : Nat) : Need :=
 if a = 0 then .mk ((k : Int).tmod 6) t.N t.Min t.Set t.L
 else if a = 1 then .mk t.Kind (ns14.getD k 0) t.Min t.Set t.L
 else if a = 2 then .mk t.Kind t.N (ms14.getD k 0) t.Set t.L
 else if a = 3 then .mk t.Kind t.N t.Min (t.Set ++ [⟨IntKind.i64.wrap ((k : Int) - 2), ⟨#[90]⟩⟩]) t.L
 else if a = 4 then .mk t.Kind t.N t.Min t.Set (t.L ++ [leafA])
 else if a = 5 then .mk t.Kind t.N t.Min [] t.L
 else if a = 6 then .mk t.Kind t.N t.Min (yDa t.Set k) t.L
 else .mk t.Kind t.N t.Min (t.Set ++ (List.range k).map fun j => ⟨8, zJ j⟩) t.L
def zDx (a : Int) (k : Nat) (n : Need) : List Nat → Need
 | [] => yFs n a k
 | i :: r => .mk n.Kind n.N n.Min n.Set (n.L.set i (zDx a k (n.L.getD i default) r))
def yCo (n : Need) (c : Int) : Bool := decide ((0 : Int) < (n.L.length : Int)) && decide (0 < (IntKind.i64.wrap (c.tmod 3 + 3)).tmod 3)
def zC8 (n : Need) (c : Int) : List Nat → Prop
 | [] => (decide ((0 : Int) < (n.L.length : Int)) && decide (0 < (IntKind.i64.wrap (c.tmod 3 + 3)).tmod 3)) = false ∧ n.Set.length ≤ 1000 ∧ n.L.length ≤ 1000
 | i :: r => (decide ((0 : Int) < (n.L.length : Int)) && decide (0 < (IntKind.i64.wrap (c.tmod 3 + 3)).tmod 3)) = true ∧ (IntKind.i64.wrap ((IntKind.i64.wrap (c.tdiv 3)).tmod (n.L.length : Int) + (n.L.length : Int))).tmod (n.L.length : Int) = (i : Int) ∧ i < n.L.length ∧ zC8 (n.L.getD i default) (IntKind.i64.wrap (c.tdiv 3)) r
theorem zBl {n : Need} {c : Int} {i : Nat} {r : List Nat} (h : zC8 n c (i :: r)) : ∃ c' q1, n.L.getD i default = c' ∧ IntKind.i64.wrap (c.tdiv 3) = q1 ∧ (decide ((0 : Int) < (n.L.length : Int)) && decide (0 < (IntKind.i64.wrap (c.tmod 3 + 3)).tmod 3)) = true ∧
  (IntKind.i64.wrap (q1.tmod (n.L.length : Int) + (n.L.length : Int))).tmod (n.L.length : Int) = (i : Int) ∧ i < n.L.length ∧ ((n.L.length : Int) == 0) = false ∧ zC8 c' q1 r := by
 obtain ⟨h1, h2, h3, h4⟩ := h
 exact ⟨_, _, rfl, rfl, h1, h2, h3, by rw [beq_eq_false_iff_ne]; omega, h4⟩
theorem SLe.need {K N M : Int} {S : List Course} {L : List Need} {d e : SD} (hs : SLe d (zAo 2 zAe S)) (hl : SLe e (.list 5 L.length fun i => zAb (L.getD i default))) : SLe (.agg [.int .i64 K, .int .i64 N, .int .i64 M, d, e]) (zAb (.mk K N M S L)) :=
 SLe.agg ⟨SLe.refl _, SLe.refl _, SLe.refl _, hs, fun h0 e0 v x => zH9 L h0 e0 v (hl h0 e0 v x), trivial⟩
theorem SLe.snocN (l : List Need) (x : Need) {d : SD} {f : Nat → SD} (hd : SLe d (zAb x)) : SLe (.list 5 (l.length + 1) (Sx.setF l.length d (zA3 l.length (fun i => zAb (l.getD i default)) f))) (.list 5 (l ++ [x]).length fun i => zAb ((l ++ [x]).getD i default)) :=
 fun h e v y => by
  simp only [rep, List.length_append, List.length_cons, List.length_nil] at y ⊢;obtain ⟨a, cap, h1, h2, h3, h4⟩ := y;refine ⟨a, cap, h1, h2, h3, fun h5 => ?_⟩;obtain ⟨ad, cs, T, fr, g1, g2, g3, g4⟩ := h4 h5;refine ⟨ad, cs, T, fr, g1, g2, g3, fun j hj => ?_⟩;obtain ⟨u, u1, u2⟩ := g4 j hj;refine ⟨u, fun e' => ?_, u2⟩;have hu := u1 e';unfold Sx.setF at hu;by_cases hji : j = l.length
  ·subst hji
   rw [if_pos rfl] at hu;have : (l ++ [x]).getD l.length default = x := by simp
   rw [this];exact hd _ _ _ hu
  ·rw [if_neg hji] at hu
   have h2 : j < l.length := by omega
   simp only [zA3, if_pos h2] at hu;have : (l ++ [x]).getD j default = l.getD j default := by simp [zz2, List.getElem?_append_left h2]
   rw [this];exact hu
theorem SLe.lfA : SLe (.agg [.int .i64 1, .int .i64 0, .int .i64 0, .list 2 1 (zBc [.agg [.int .i64 1, .str ⟨#[65]⟩]]), .nils]) (zAb leafA) :=
 SLe.need (SLe.list rfl fun i hi => by
  have : i = 0 := by omega
  subst this; rfl) SLe.nils
theorem SLe.snocC (l : List Course) (x : Course) {f : Nat → SD} (hf : f 0 = zAe x) : SLe (.list 2 (l.length + 1) (zA3 l.length (fun i => zAe (l.getD i default)) f)) (zAo 2 zAe (l ++ [x])) := SLe.list (by simp) fun i hi => by
 show zA3 _ _ _ i = zAe ((l ++ [x]).getD i default)
 simp only [zA3]
 by_cases h : i < l.length
 ·rw [if_pos h]
  congr 1
  simp [zz2, List.getElem?_append_left h]
 ·have : i = l.length := by omega
  subst this;rw [if_neg h, Nat.sub_self, hf]; simp
theorem SLe.up (n : Need) (i : Nat) (c : Need) {d : SD} (hd : SLe d (zAb c)) : SLe (.list 5 n.L.length fun j => if j = i then d else zAb (n.L.getD j default)) (.list 5 (n.L.set i c).length fun j => zAb ((n.L.set i c).getD j default)) :=
 fun h e v x => by
  simp only [rep, List.length_set] at x ⊢;obtain ⟨a, cap, h1, h2, h3, h4⟩ := x;refine ⟨a, cap, h1, h2, h3, fun h5 => ?_⟩;obtain ⟨ad, cs, T, fr, g1, g2, g3, g4⟩ := h4 h5;refine ⟨ad, cs, T, fr, g1, g2, g3, fun j hj => ?_⟩;obtain ⟨u, u1, u2⟩ := g4 j hj;refine ⟨u, fun e' => ?_, u2⟩;have hu := u1 e';by_cases hji : j = i
  ·subst hji
   rw [if_pos rfl] at hu;have : (n.L.set j c).getD j default = c := by simp [zz2, hj]
   rw [this];exact hd _ _ _ hu
  ·rw [if_neg hji] at hu
   have h' : ¬ i = j := fun hc => hji hc.symm;have : (n.L.set i c).getD j default = n.L.getD j default := by simp [zz2, h']
   rw [this];exact hu
theorem SLe.setC0 (l : List Course) (k : Nat) {z : ByteArray} (hz : z = yF3.getD k ByteArray.empty) (hne : l ≠ []) : SLe (.list 2 l.length (setF 0 (.agg [.int .i64 (l.getD 0 default).School, .str z]) fun i => .agg [.int .i64 (l.getD i default).School, .str (l.getD i default).Code])) (zAo 2 zAe (yDa l k)) := by
 cases l with
 | nil => exact absurd rfl hne
 | cons x r =>
  exact SLe.list (by simp [yDa]) fun i hi => by
   show setF 0 _ _ i = zAe ((yDa (x :: r) k).getD i default);cases i with
   | zero => subst hz; rfl
   | succ i => rfl
def zs7 (j : Nat) : List Course := (List.range j).map fun i => ⟨8, zJ i⟩
theorem yAj (j : Nat) : (zs7 j).length = j := by simp [zs7]
theorem zXb (j : Nat) : zs7 (j + 1) = zs7 j ++ [⟨8, zJ j⟩] := by simp [zs7, List.range_succ]
theorem yF4 (b : UInt8) : (⟨#[90]⟩ : ByteArray) ++ ⟨[b].toArray⟩ = ⟨#[90, b]⟩ := rfl
theorem yEc (l : List Course) : OLe (.acc 63 2 l.length fun i => zAe (l.getD i default)) (.acc 63 2 (l ++ zs7 0).length fun i => zAe ((l ++ zs7 0).getD i default)) := OLe.accS (by simp [zs7]) fun i _ => by simp [zs7]
theorem zRb (j : Nat) (l : List Course) {f : Nat → SD} (hf : f 0 = .agg [.int .i64 8, .str (⟨#[90]⟩ ++ ⟨[UInt8.ofNat (65 + j)].toArray⟩)]) : OLe (.acc 63 2 ((l ++ zs7 j).length + 1) (zA3 (l ++ zs7 j).length (fun i => zAe ((l ++ zs7 j).getD i default)) f)) (.acc 63 2 (l ++ zs7 (j + 1)).length fun i => zAe ((l ++ zs7 (j + 1)).getD i default)) := by
 rw [zXb, ← List.append_assoc]
 exact zA4 zAe (l ++ zs7 j) ⟨8, zJ j⟩ (by rw [hf, yF4]; rfl)
theorem yF5 {j : Nat} (hj : j < 14) (i : Nat) (hi : i < 1) : SD.int .u8 ([IntKind.u8.wrap (IntKind.i64.wrap (65 + (j : Int)))].getD i 0) = byF [UInt8.ofNat (65 + j)] i := by
 obtain rfl : i = 0 := by omega
 have : j = 0 ∨ j = 1 ∨ j = 2 ∨ j = 3 ∨ j = 4 ∨ j = 5 ∨ j = 6 ∨ j = 7 ∨ j = 8 ∨ j = 9 ∨ j = 10 ∨ j = 11 ∨ j = 12 ∨ j = 13 := by omega
 rcases this with rfl | rfl | rfl | rfl | rfl | rfl | rfl | rfl | rfl | rfl | rfl | rfl | rfl | rfl <;> rfl
theorem zUs {P : Program} {F : List Nat} {w0 : Base} {fin : Exit → Act → World → Prop} {k : List It} {s : St} {σ : Type} {body : Code} {S : σ → St} {Rm : Need → List Nat → Prop} {n t : Need} {p : List Nat} (_ : Rm n p) (_ : t.Set.length ≤ 1000) (ns : List Nat) (U : σ → List (Nat × SD)) (UO : Need → List Nat → σ → List (Nat × OB)) (I : σ → Prop) (μ : σ → Nat) (x0 : σ)
  (hS : ∀ x, zWc s ns U (UO t p) x = S x) (h0 : I x0) (hs : zQs s.sl (U x0)) (ho : zC2 s.ow (UO t p x0)) (hb : ∀ x, I x → Run P F w0 fin (.code body :: .lp (LI F w0 S I μ x) :: k) (S x)) : Run P F w0 fin (.code (.loop body) :: k) s := zN ns U (UO t p) I μ x0 hS h0 hs ho hb
theorem zJj {P : Program} {F : List Nat} {w0 : Base} {fin : Exit → Act → World → Prop} {kl : List It} {s : St} {t : Need} (_ : t.Set.length ≤ 1000) {o : OB} (o' : Need → OB) (k : Nat) (ho : lkO s.ow k = some o) (hl : OLe o (o' t)) (hn : Run P F w0 fin kl ⟨s.n, s.nx, s.sl, upd s.ow k (o' t)⟩) : Run P F w0 fin kl s := zR k ho hl hn
def wrL (n : Need) (j : Nat) : List Need := n :: List.replicate j leafB
theorem yAk (n : Need) (j : Nat) : (wrL n j).length = j + 1 := by simp [wrL]
theorem zXe (n : Need) (j : Nat) : wrL n (j + 1) = wrL n j ++ [leafB] := by simp [wrL, List.replicate_succ']
theorem SLe.lfB : SLe (.agg [.int .i64 1, .int .i64 0, .int .i64 0, .list 2 1 (zBc [.agg [.int .i64 2, .str ⟨#[66]⟩]]), .nils]) (zAb leafB) :=
 SLe.need (SLe.list rfl fun i hi => by
  have : i = 0 := by omega
  subst this; rfl) SLe.nils
theorem SLe.needE {n : Need} {d e : SD} (hs : SLe d (zAo 2 zAe n.Set)) (hl : SLe e (.list 5 n.L.length fun i => zAb (n.L.getD i default))) : SLe (.agg [.int .i64 n.Kind, .int .i64 n.N, .int .i64 n.Min, d, e]) (zAb n) :=
 SLe.agg ⟨SLe.refl _, SLe.refl _, SLe.refl _, hs, fun h0 e0 v x => zH9 n.L h0 e0 v (hl h0 e0 v x), trivial⟩
theorem SLe.up0 (n : Need) (i : Nat) {d : SD} (hd : SLe d (zAb (n.L.getD i default))) : SLe (.list 5 n.L.length fun j => if j = i then d else zAb (n.L.getD j default)) (.list 5 n.L.length fun j => zAb (n.L.getD j default)) :=
 fun h e v x => by
  simp only [rep] at x ⊢;obtain ⟨a, cap, h1, h2, h3, h4⟩ := x;refine ⟨a, cap, h1, h2, h3, fun h5 => ?_⟩;obtain ⟨ad, cs, T, fr, g1, g2, g3, g4⟩ := h4 h5;refine ⟨ad, cs, T, fr, g1, g2, g3, fun j hj => ?_⟩;obtain ⟨u, u1, u2⟩ := g4 j hj;refine ⟨u, fun e' => ?_, u2⟩;have hu := u1 e';by_cases hji : j = i
  ·subst hji
   rw [if_pos rfl] at hu;exact hd _ _ _ hu
  ·rw [if_neg hji] at hu
   exact hu
theorem yEe {x : Need} {d : SD} {f : Nat → SD} (hd : SLe d (zAb x)) : OLe (.acc 30 5 1 fun j => if j = 0 then d else f j) (.acc 30 5 (wrL x 0).length fun i => zAb ((wrL x 0).getD i default)) := ⟨rfl, rfl, rfl, fun i hi h u hu e => by
 obtain rfl : i = 0 := by omega
 exact hd _ _ _ (hu e)⟩
theorem yEd (x : Need) (j : Nat) {d : SD} {f : Nat → SD} (hd : SLe d (zAb leafB)) : OLe (.acc 30 5 ((wrL x j).length + 1) (setF (wrL x j).length d (zA3 (wrL x j).length (fun i => zAb ((wrL x j).getD i default)) f))) (.acc 30 5 (wrL x (j + 1)).length fun i => zAb ((wrL x (j + 1)).getD i default)) := by
 rw [zXe]
 generalize wrL x j = l
 refine ⟨rfl, rfl, by simp, fun i hi h u hu e => ?_⟩
 have hu := hu e
 unfold Sx.setF at hu
 by_cases hji : i = l.length
 ·subst hji
  rw [if_pos rfl] at hu;have : (l ++ [leafB]).getD l.length default = leafB := by simp
  show rep h (zAb ((l ++ [leafB]).getD l.length default)) e u;rw [this];exact hd _ _ _ hu
 ·rw [if_neg hji] at hu
  have h2 : i < l.length := by omega
  simp only [zA3, if_pos h2] at hu;have : (l ++ [leafB]).getD i default = l.getD i default := by simp [zz2, List.getElem?_append_left h2]
  show rep h (zAb ((l ++ [leafB]).getD i default)) e u;rw [this];exact hu
theorem SLe.setCn {l : List Course} {k : Nat} (h : l.length = 0) : SLe (zAo 2 zAe l) (zAo 2 zAe (yDa l k)) := by
 cases l with
 | nil => exact SLe.refl _
 | cons x r => cases h
end Go.Sx
namespace Go.Sx
open Go.Proofs Go.RowKit
attribute [local irreducible] Run zAi zAy OpT zAc SLe OLe
set_option maxHeartbeats 2000000
set_option maxRecDepth 8000
set_option maxHeartbeats 400000000
theorem yFj (Rm : Need → List Nat → Prop) (hRm : ∀ n p, Rm n p → p.length ≤ 3) (K : FnM Tryz.prog 89 (fun ds os d os' => ∃ (n : Need) (p : List Nat), Rm n p ∧ ds = [zAb n] ∧ os = [] ∧ d = zQ2 0 n p ∧ os' = osP 0 n p)) :
  FnOK Tryz.prog 36 (fun ds v => ∃ (n : Need) (q : Q3) (p : List Nat), (Rm n p ∧ zC8 n q.c p ∧ (IntKind.i64.wrap (q.a.tmod 9 + 9)).tmod 9 = 0) ∧ ds = [zAb n, eQ q] ∧ v = zAb (zDx 0 ((IntKind.i64.wrap (q.b.tmod 14 + 14)).tmod 14).toNat n p)) := by
 refine zAa Tryz.call36 Tryz.func36 rfl Tryz.ntmps36 ?_
 rintro ds d ⟨n, q, p, ⟨hR, hs, ha⟩, rfl, rfl⟩
 refine ⟨by simp, fun w0 => ?_⟩
 have hr := hRm _ _ hR
 rcases p with _ | ⟨i, _ | ⟨i1, _ | ⟨i2, _ | ⟨i3, r⟩⟩⟩⟩
 rotate_right
 ·exfalso
  simp only [List.length_cons] at hr;omega
 all_goals
  try simp only [zDx]
  repeat' (first | apply zC | apply zD | apply zA | apply zB | refine zF qS qR ?_ ?_ | refine zW [] K qR qD qZ qF ?_ ⟨n, _, hR, rfl, rfl, rfl, rfl⟩ qS ?_ | exact zz0 | exact rfl | fail)
  refine zAr [2, 3, 4, 5, 6] qS ?_
  repeat
   (obtain ⟨c', q1, hc, hq, h, hx, hl, hne, hs⟩ := zBl hs
    simp only [hc]
    repeat' (first | apply zC | apply zA | apply zB | refine zF qS qR ?_ ?_ | refine zAp 0 4 ?_ | refine zA5 ?_ | exact rfl | exact qP | fail)
    (refine zE qS ?_ ?_ <;> intro hb <;> have hc := hb <;> (try simp only [bF] at hc) <;> (try (exfalso; simp at hc; done)))
    rotate_left
    ·exfalso; rw [h] at hb; cases hb
    repeat' (first | apply zC | apply zG | apply zD | apply zL | apply zA | apply zP | apply zB | refine zF (by simp only [go_sem, hq, hx, Int.toNat_natCast]; rfl) qR ?_ ?_ | refine zBj (by simp only [go_sem, hq, hx, Int.toNat_natCast]; rfl) qR ?_ (by simp only [go_sem, hq, hx, Int.toNat_natCast, zAw, zG5, zD7, zH2, zBf, keysA, zCz]; rfl) ?_ | refine zQ qK qK ?_ | exact rfl | exact qP | fail)
    refine zAr [2, 3, 4, 5, 6] qS ?_)
  obtain ⟨hstop, hS, hL⟩ := hs
  repeat' (first | apply zC | apply zA | apply zB | refine zF qS qR ?_ ?_ | refine zAp 0 4 ?_ | refine zA5 ?_ | exact rfl | exact qP | fail)
  (refine zE qS ?_ ?_ <;> intro hb <;> have hc := hb <;> (try simp only [bF] at hc) <;> (try (exfalso; simp at hc; done)))
  ·exfalso; rw [hstop] at hb; cases hb
  repeat' (first | apply zC | apply zD | apply zA | apply zB | refine zF qS qR ?_ ?_ | refine zK qR ?_ | exact zz0 | exact rfl | exact qP | fail)
  have hb14 : 0 ≤ (IntKind.i64.wrap (q.b.tmod 14 + 14)).tmod 14 ∧ (IntKind.i64.wrap (q.b.tmod 14 + 14)).tmod 14 < 14 := zCf q.b 14 (by omega) (by omega);generalize hK : (IntKind.i64.wrap (q.b.tmod 14 + 14)).tmod 14 = kk at hb14 ⊢;refine zAr [2, 3, 4, 5, 6, 7, 64, 83] qS ?_;rw [ha];obtain ⟨k, rfl⟩ : ∃ k : Nat, kk = (k : Int) := ⟨kk.toNat, by omega⟩;rw [Int.toNat_natCast]
  repeat' (first | apply zC | apply zL | apply zA | apply zB | refine zF qS qR ?_ ?_ | refine zJ5 qS qS ?_ | (refine zE qS ?_ ?_ <;> intro hb <;> have hc := hb <;> (try simp only [bF] at hc) <;> (try (exfalso; simp at hc; done))) | exact zz0 | exact rfl | exact qP | fail)
  (first | refine zO 21 qS ?_ | refine zO 16 qS ?_ | refine zO 11 qS ?_ | refine zO 6 qS ?_)
  (first | refine zO 22 qS ?_ | refine zO 17 qS ?_ | refine zO 12 qS ?_ | refine zO 7 qS ?_)
  repeat (first | (refine zAg 17 qR qR ?_; refine zO 17 qS ?_) | (refine zAg 12 qR qR ?_; refine zO 12 qS ?_) | (refine zAg 7 qR qR ?_; refine zO 7 qS ?_))
  repeat' (first | refine yA qR qS ?_ | fail)
  all_goals (refine zAc.le qZ ?_)
  repeat (refine SLe.need (SLe.refl _) (SLe.up _ _ _ ?_))
  exact SLe.need (SLe.refl _) (SLe.refl _)
end Go.Sx
namespace Go.Sx
open Go.Proofs Go.RowKit
attribute [local irreducible] Run zAi zAy OpT zAc SLe OLe
set_option maxHeartbeats 2000000
set_option maxRecDepth 8000
set_option maxHeartbeats 400000000
theorem yG7 (Rm : Need → List Nat → Prop) (hRm : ∀ n p, Rm n p → p.length ≤ 3) (K : FnM Tryz.prog 89 (fun ds os d os' => ∃ (n : Need) (p : List Nat), Rm n p ∧ ds = [zAb n] ∧ os = [] ∧ d = zQ2 0 n p ∧ os' = osP 0 n p)) :
  FnOK Tryz.prog 36 (fun ds v => ∃ (n : Need) (q : Q3) (p : List Nat), (Rm n p ∧ zC8 n q.c p ∧ (IntKind.i64.wrap (q.a.tmod 9 + 9)).tmod 9 = 1) ∧ ds = [zAb n, eQ q] ∧ v = zAb (zDx 1 ((IntKind.i64.wrap (q.b.tmod 14 + 14)).tmod 14).toNat n p)) := by
 refine zAa Tryz.call36 Tryz.func36 rfl Tryz.ntmps36 ?_
 rintro ds d ⟨n, q, p, ⟨hR, hs, ha⟩, rfl, rfl⟩
 refine ⟨by simp, fun w0 => ?_⟩
 have hr := hRm _ _ hR
 rcases p with _ | ⟨i, _ | ⟨i1, _ | ⟨i2, _ | ⟨i3, r⟩⟩⟩⟩
 rotate_right
 ·exfalso
  simp only [List.length_cons] at hr;omega
 all_goals
  try simp only [zDx]
  repeat' (first | apply zC | apply zD | apply zA | apply zB | refine zF qS qR ?_ ?_ | refine zW [] K qR qD qZ qF ?_ ⟨n, _, hR, rfl, rfl, rfl, rfl⟩ qS ?_ | exact zz0 | exact rfl | fail)
  refine zAr [2, 3, 4, 5, 6] qS ?_
  repeat
   (obtain ⟨c', q1, hc, hq, h, hx, hl, hne, hs⟩ := zBl hs
    simp only [hc]
    repeat' (first | apply zC | apply zA | apply zB | refine zF qS qR ?_ ?_ | refine zAp 0 4 ?_ | refine zA5 ?_ | exact rfl | exact qP | fail)
    (refine zE qS ?_ ?_ <;> intro hb <;> have hc := hb <;> (try simp only [bF] at hc) <;> (try (exfalso; simp at hc; done)))
    rotate_left
    ·exfalso; rw [h] at hb; cases hb
    repeat' (first | apply zC | apply zG | apply zD | apply zL | apply zA | apply zP | apply zB | refine zF (by simp only [go_sem, hq, hx, Int.toNat_natCast]; rfl) qR ?_ ?_ | refine zBj (by simp only [go_sem, hq, hx, Int.toNat_natCast]; rfl) qR ?_ (by simp only [go_sem, hq, hx, Int.toNat_natCast, zAw, zG5, zD7, zH2, zBf, keysA, zCz]; rfl) ?_ | refine zQ qK qK ?_ | exact rfl | exact qP | fail)
    refine zAr [2, 3, 4, 5, 6] qS ?_)
  obtain ⟨hstop, hS, hL⟩ := hs
  repeat' (first | apply zC | apply zA | apply zB | refine zF qS qR ?_ ?_ | refine zAp 0 4 ?_ | refine zA5 ?_ | exact rfl | exact qP | fail)
  (refine zE qS ?_ ?_ <;> intro hb <;> have hc := hb <;> (try simp only [bF] at hc) <;> (try (exfalso; simp at hc; done)))
  ·exfalso; rw [hstop] at hb; cases hb
  repeat' (first | apply zC | apply zD | apply zA | apply zB | refine zF qS qR ?_ ?_ | refine zK qR ?_ | exact zz0 | exact rfl | exact qP | fail)
  have hb14 : 0 ≤ (IntKind.i64.wrap (q.b.tmod 14 + 14)).tmod 14 ∧ (IntKind.i64.wrap (q.b.tmod 14 + 14)).tmod 14 < 14 := zCf q.b 14 (by omega) (by omega);generalize hK : (IntKind.i64.wrap (q.b.tmod 14 + 14)).tmod 14 = kk at hb14 ⊢;refine zAr [2, 3, 4, 5, 6, 7, 64, 83] qS ?_;rw [ha];obtain ⟨k, rfl⟩ : ∃ k : Nat, kk = (k : Int) := ⟨kk.toNat, by omega⟩;rw [Int.toNat_natCast]
  repeat' (first | apply zC | apply zL | apply zA | apply zB | refine zF qS qR ?_ ?_ | refine zJ5 qS qS ?_ | (refine zE qS ?_ ?_ <;> intro hb <;> have hc := hb <;> (try simp only [bF] at hc) <;> (try (exfalso; simp at hc; done))) | exact zz0 | exact rfl | exact qP | fail)
  (first | refine zO 21 qS ?_ | refine zO 16 qS ?_ | refine zO 11 qS ?_ | refine zO 6 qS ?_)
  (first | refine zO 22 qS ?_ | refine zO 17 qS ?_ | refine zO 12 qS ?_ | refine zO 7 qS ?_)
  repeat (first | (refine zAg 17 qR qR ?_; refine zO 17 qS ?_) | (refine zAg 12 qR qR ?_; refine zO 12 qS ?_) | (refine zAg 7 qR qR ?_; refine zO 7 qS ?_))
  repeat' (first | refine yA qR qS ?_ | fail)
  all_goals (refine zAc.le qZ ?_)
  repeat (refine SLe.need (SLe.refl _) (SLe.up _ _ _ ?_))
  exact SLe.need (SLe.refl _) (SLe.refl _)
end Go.Sx
namespace Go.Sx
open Go.Proofs Go.RowKit
attribute [local irreducible] Run zAi zAy OpT zAc SLe OLe
set_option maxHeartbeats 2000000
set_option maxRecDepth 8000
set_option maxHeartbeats 400000000
theorem yG6 (Rm : Need → List Nat → Prop) (hRm : ∀ n p, Rm n p → p.length ≤ 3) (K : FnM Tryz.prog 89 (fun ds os d os' => ∃ (n : Need) (p : List Nat), Rm n p ∧ ds = [zAb n] ∧ os = [] ∧ d = zQ2 0 n p ∧ os' = osP 0 n p)) :
  FnOK Tryz.prog 36 (fun ds v => ∃ (n : Need) (q : Q3) (p : List Nat), (Rm n p ∧ zC8 n q.c p ∧ (IntKind.i64.wrap (q.a.tmod 9 + 9)).tmod 9 = 2) ∧ ds = [zAb n, eQ q] ∧ v = zAb (zDx 2 ((IntKind.i64.wrap (q.b.tmod 14 + 14)).tmod 14).toNat n p)) := by
 refine zAa Tryz.call36 Tryz.func36 rfl Tryz.ntmps36 ?_
 rintro ds d ⟨n, q, p, ⟨hR, hs, ha⟩, rfl, rfl⟩
 refine ⟨by simp, fun w0 => ?_⟩
 have hr := hRm _ _ hR
 rcases p with _ | ⟨i, _ | ⟨i1, _ | ⟨i2, _ | ⟨i3, r⟩⟩⟩⟩
 rotate_right
 ·exfalso
  simp only [List.length_cons] at hr;omega
 all_goals
  try simp only [zDx]
  repeat' (first | apply zC | apply zD | apply zA | apply zB | refine zF qS qR ?_ ?_ | refine zW [] K qR qD qZ qF ?_ ⟨n, _, hR, rfl, rfl, rfl, rfl⟩ qS ?_ | exact zz0 | exact rfl | fail)
  refine zAr [2, 3, 4, 5, 6] qS ?_
  repeat
   (obtain ⟨c', q1, hc, hq, h, hx, hl, hne, hs⟩ := zBl hs
    simp only [hc]
    repeat' (first | apply zC | apply zA | apply zB | refine zF qS qR ?_ ?_ | refine zAp 0 4 ?_ | refine zA5 ?_ | exact rfl | exact qP | fail)
    (refine zE qS ?_ ?_ <;> intro hb <;> have hc := hb <;> (try simp only [bF] at hc) <;> (try (exfalso; simp at hc; done)))
    rotate_left
    ·exfalso; rw [h] at hb; cases hb
    repeat' (first | apply zC | apply zG | apply zD | apply zL | apply zA | apply zP | apply zB | refine zF (by simp only [go_sem, hq, hx, Int.toNat_natCast]; rfl) qR ?_ ?_ | refine zBj (by simp only [go_sem, hq, hx, Int.toNat_natCast]; rfl) qR ?_ (by simp only [go_sem, hq, hx, Int.toNat_natCast, zAw, zG5, zD7, zH2, zBf, keysA, zCz]; rfl) ?_ | refine zQ qK qK ?_ | exact rfl | exact qP | fail)
    refine zAr [2, 3, 4, 5, 6] qS ?_)
  obtain ⟨hstop, hS, hL⟩ := hs
  repeat' (first | apply zC | apply zA | apply zB | refine zF qS qR ?_ ?_ | refine zAp 0 4 ?_ | refine zA5 ?_ | exact rfl | exact qP | fail)
  (refine zE qS ?_ ?_ <;> intro hb <;> have hc := hb <;> (try simp only [bF] at hc) <;> (try (exfalso; simp at hc; done)))
  ·exfalso; rw [hstop] at hb; cases hb
  repeat' (first | apply zC | apply zD | apply zA | apply zB | refine zF qS qR ?_ ?_ | refine zK qR ?_ | exact zz0 | exact rfl | exact qP | fail)
  have hb14 : 0 ≤ (IntKind.i64.wrap (q.b.tmod 14 + 14)).tmod 14 ∧ (IntKind.i64.wrap (q.b.tmod 14 + 14)).tmod 14 < 14 := zCf q.b 14 (by omega) (by omega);generalize hK : (IntKind.i64.wrap (q.b.tmod 14 + 14)).tmod 14 = kk at hb14 ⊢;refine zAr [2, 3, 4, 5, 6, 7, 64, 83] qS ?_;rw [ha];obtain ⟨k, rfl⟩ : ∃ k : Nat, kk = (k : Int) := ⟨kk.toNat, by omega⟩;rw [Int.toNat_natCast]
  repeat' (first | apply zC | apply zL | apply zA | apply zB | refine zF qS qR ?_ ?_ | refine zJ5 qS qS ?_ | (refine zE qS ?_ ?_ <;> intro hb <;> have hc := hb <;> (try simp only [bF] at hc) <;> (try (exfalso; simp at hc; done))) | exact zz0 | exact rfl | exact qP | fail)
  (first | refine zO 21 qS ?_ | refine zO 16 qS ?_ | refine zO 11 qS ?_ | refine zO 6 qS ?_)
  (first | refine zO 22 qS ?_ | refine zO 17 qS ?_ | refine zO 12 qS ?_ | refine zO 7 qS ?_)
  repeat (first | (refine zAg 17 qR qR ?_; refine zO 17 qS ?_) | (refine zAg 12 qR qR ?_; refine zO 12 qS ?_) | (refine zAg 7 qR qR ?_; refine zO 7 qS ?_))
  repeat' (first | refine yA qR qS ?_ | fail)
  all_goals (refine zAc.le qZ ?_)
  repeat (refine SLe.need (SLe.refl _) (SLe.up _ _ _ ?_))
  exact SLe.need (SLe.refl _) (SLe.refl _)
end Go.Sx
