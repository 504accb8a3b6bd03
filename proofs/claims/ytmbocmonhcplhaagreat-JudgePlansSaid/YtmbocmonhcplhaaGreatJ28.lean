/- Lemmas on the judge: J26, J27, J29, J28. -/
import Derived.Test.YtmbocmonhcplhaaGreatJ25
import Derived.Test.YtmbocmonhcplhaaGreatS4
import Derived.Test.YtmbocmonhcplhaaGreatS3
set_option linter.all false
set_option maxHeartbeats 20000000
set_option maxRecDepth 8000
namespace Go.Sx
open Go.Proofs Tryz
theorem zBl {α : Type} [Inhabited α] {T es : Nat} (enc : α -> SD) (l : List α) (x : α) {f : Nat -> SD} (hf : f 0 = enc x) : OLe (.acc T es (l.length + 1) (zBm l.length (fun i => enc (l.getD i default)) f)) (.acc T es (l ++ [x]).length (fun i => enc ((l ++ [x]).getD i default))) := OLe.accS (by simp) fun i hi => by
 simp only [zBm];by_cases h : i < l.length
 ·rw [if_pos h, zz2, zz2, zyb h]
 ·have : i = l.length := by omega
  subst this;rw [if_neg h, Nat.sub_self, hf];simp
open Go.Proofs Go.RowKit
attribute [local irreducible] Run zAg zAs OpT zAc SLe OLe
theorem K224 : FnOK prog 224 (fun ds d => ∃ f : Nat -> SD, ds = [.list 5 0 f] /\ d = .list 5 0 f) := by
 refine zAb call224 func224 rfl ntmps224 ?_;rintro ds d ⟨f, rfl, rfl⟩;refine ⟨by simp, fun w0 => ?_⟩
 repeat' (first | refine zI 0 qS ?_ | refine wA ?_ | refine zC qS qR ?_ ?_ | refine zY qS qZ qZ (fun bn hbn => ?_) | (refine zAa qS qC qC ?_ ?_ <;> intro hb hc <;> try (simp at hc; done)) | refine zE qR ?_ | exact qT | exact zAc.pure rfl | exact qP | fail)
 all_goals first | exact zAc.le qZ SLe.nils | exact zAc.le qZ (SLe.list rfl fun i hi => absurd hi (zyi _))
theorem yI5 : FnOK prog 187 (fun ds d => ∃ n : Need, n.L = [] /\ ds = [zAh n] /\ d = zAh n) := by
 refine zAb call187 func187 rfl ntmps187 ?_;rintro ds d ⟨n, hL, rfl, rfl⟩;refine ⟨by simp, fun w0 => ?_⟩
 repeat' (first | refine wB ?_ | refine zC (by simp only [go_sem, hL]; rfl) qR ?_ ?_ | refine zM (by simp only [go_sem, hL]; rfl) qR ?_ ?_ | refine zJ qK qK ?_ | refine zP K223 (by simp only [go_sem, hL]; first | done | rfl) ?_ ⟨_, rfl, rfl⟩ (by simp only [go_sem, hL]; rfl) ?_ | refine zP K224 (by simp only [go_sem, hL]; first | done | rfl) ?_ ⟨_, rfl, rfl⟩ (by simp only [go_sem, hL]; rfl) ?_ | exact qT | fail)
 refine zH [0, 1, 2, 14, 15] (fun x : Nat × Unit => [(16, .int .i64 x.1)]) (fun x => []) (fun x => x.1 <= 0) (fun x => 0 - x.1) (0, ()) (fun x => qS) ?_ qL qL ?_
 ·exact zyj _
 rintro ⟨j, _⟩ g1;simp only at g1
 repeat' (first | refine wB ?_ | refine zC (by simp only [go_sem, hL]; rfl) qR ?_ ?_ | (refine zAa (by simp only [go_sem, hL]; rfl) qC qC ?_ ?_ <;> intro hb hc <;> try (simp at hc; done)) | refine zT qR (by simp only [go_sem, hL]; rfl) ?_ | refine zF qR ?_ | exact qT | fail)
 all_goals (refine zAc.le qZ ?_; simp only [go_sem, hL]; exact SLe.refl _)
theorem FnOK.both {P : Program} {f : Nat} {R R1 R2 : List SD -> SD -> Prop} (K1 : FnOK P f R1) (K2 : FnOK P f R2) (h : ∀ ds d, R ds d -> R1 ds d \/ R2 ds d) : FnOK P f R :=
 ⟨K1.call, fun ds d hr => by
  rcases h ds d hr with h | h
  ·exact K1.ok ds d h
  ·exact K2.ok ds d h⟩
attribute [local go_sem] asA asS zNn
theorem yKq : FnM prog 224 (fun ds os d os' => ∃ (n : Nat) (f : Nat -> SD), (0 < n /\ n <= 10000) /\ ds = [.list 5 n f] /\ os = [] /\ d = .acc 0 /\ os' = [(0, .acc 30 5 n f)]) := by
 refine zA8 call224 func224 rfl ntmps224 ?_;rintro ds os d os' ⟨n, f, ⟨hn, hn2⟩, rfl, rfl, rfl, rfl⟩;refine ⟨by simp, fun F w0 => ?_⟩;obtain ⟨m, rfl⟩ : ∃ m, n = m + 1 := ⟨n - 1, by omega⟩
 repeat' (first | refine wA ?_ | refine zC qS qR ?_ ?_ | (refine zAa qS qC qC ?_ ?_ <;> intro hb hc <;> try (simp at hc; done)) | exact qT | exact qP | fail)
 refine zK (o' := .acc 30 5 (m + 1) f) 0 qR (OLe.accS (Nat.zero_add _) fun i _ => by simp only [zBm, zyi, if_false, Nat.sub_zero]) ?_;refine zV qR qS ?_ ?_
 ·exact SLe.refl _
 ·exact qO
theorem zXu (l : List Need) : OLe (.acc 30 5 l.length fun i => zBe (zDh l) i) (.acc 30 5 l.length fun i => zAh (l.getD i default)) := OLe.accS rfl fun i hi => by
 show zBe (zDh l) i = _;rw [zDl _ _ hi, zFt, zEp]; rfl
theorem zXt (l : List Need) : SLe (.list 5 l.length fun i => zAh (l.getD i default)) (.list 5 l.length fun i => zBe (zDh l) i) := SLe.list rfl fun i hi => by
 show _ = zBe (zDh l) i;rw [zDl _ _ hi, zFt, zEp]; rfl
theorem zWm {f : Nat -> SD} {j : Nat} {d : SD} (h : d = f j) : Sx.setF j d f = f := by
 funext i
 simp only [Sx.setF];by_cases hi : i = j
 ·rw [if_pos hi, hi, h]
 ·rw [if_neg hi]
theorem zE0 (d : Nat) : ∀ (k m : Nat) (n : Need), (zAd d k n).length = (zAd d m n).length := by
 induction d with
 | zero => intro k m n; rfl
 | succ d ih =>
  intro k m n
  have key : ∀ l : List Need, (l.flatMap (zAd d (k + 1))).length = (l.flatMap (zAd d (m + 1))).length := by
   intro l
   induction l with
   | nil => rfl
   | cons x r ihl => simp only [List.flatMap_cons, zye, ihl, ih (k + 1) (m + 1) x]
  simp only [zAd, List.length_cons, key]
theorem yKr (d : Nat) (ih : FnOK prog 187 (fun ds v => ∃ n : Need, (NOk d n /\ (zAd d 1 n).length <= 10000) /\ ds = [zAh n] /\ v = zAh n)) : FnOK prog 187 (fun ds v => ∃ n : Need, (n.L ≠ [] /\ NOk (d + 1) n /\ (zAd (d + 1) 1 n).length <= 10000) /\ ds = [zAh n] /\ v = zAh n) := by
 refine zAb call187 func187 rfl ntmps187 ?_;rintro ds d ⟨n, ⟨hL, hn, hl⟩, rfl, rfl⟩;refine ⟨by simp, fun w0 => ?_⟩;have hL0 : 0 < n.L.length := List.length_pos_iff.2 hL;have c2 := zDk d 1 n;have c3 := zRl d (1 + 1) n.L;have hl2 : n.L.length <= 10000 := by omega
 repeat' (first | refine wA ?_ | refine zM qS qR ?_ ?_ | refine zJ qK qK ?_ | refine zP K223 qD ?_ ⟨_, rfl, rfl⟩ qS ?_ | refine zB3 [] yKq qR qD qZ qF ?_ ⟨_, _, ⟨hL0, hl2⟩, rfl, rfl, rfl, rfl⟩ qS ?_ | exact qT | fail)
 refine zK 2 qR (zXu n.L) ?_;refine zH [0, 1, 2, 14, 15] (fun x : Nat × Unit => [(16, .int .i64 x.1)]) (fun x => []) (fun x => x.1 <= n.L.length) (fun x => n.L.length - x.1) (0, ()) (fun x => qS) ?_ qL qL ?_
 ·exact zz7 _
 rintro ⟨j, _⟩ g1;simp only at g1
 repeat' (first | refine wA ?_ | exact qT | fail)
 (refine zAa qS qC qC ?_ ?_ <;> intro hb hc <;> try (simp at hc; done))
 ·have hj : j < n.L.length := by assumption
  have hx := hn.2 _ (zAi hj)
  have h9 : (zAd d 1 (n.L.getD j default)).length <= 10000 := by
   have h1 := zLq (zAd d (1 + 1)) n.L j hj;rw [zE0 d (1 + 1) 1] at h1;omega
  repeat' (first | refine wA ?_ | refine zC qS qR ?_ ?_ | refine zM qS qR ?_ ?_ | refine zJ qK qK ?_ | refine zSk qS qS ?_ | refine zP ih qD ?_ ⟨n.L.getD j default, ⟨hx, h9⟩, rfl, rfl⟩ qS ?_ | exact qT | exact qP | fail)
  refine zK (o' := .acc 30 5 n.L.length fun i => zAh (n.L.getD i default)) 2 qR (OLe.accS rfl fun i _ => congrFun (zWm (f := fun i => zAh (n.L.getD i default)) rfl) i) ?_
  repeat' (first | refine zL (j+1,()) ?_ ?_ ⟨rfl, qL, qL⟩ | omega)
 ·repeat' (first | refine zI 2 qS ?_ | refine wA ?_ | refine zT qR qS ?_ | refine zF qR ?_ | exact qT | fail)
  all_goals (refine zAc.le qZ ?_)
  all_goals exact SLe.agg ⟨SLe.refl _, SLe.refl _, SLe.refl _, SLe.refl _, zXt n.L, trivial⟩
theorem K187 : ∀ d : Nat, FnOK prog 187 (fun ds v => ∃ n : Need, (NOk d n /\ (zAd d 1 n).length <= 10000) /\ ds = [zAh n] /\ v = zAh n) := by
 intro d
 induction d with
 | zero =>
  exact yI5.weaken fun ds v ⟨n, ⟨hn, _⟩, h1, h2⟩ => ⟨n, hn.2, h1, h2⟩
 | succ d ih =>
  refine FnOK.both yI5 (R2 := fun ds v => ∃ n : Need, (n.L ≠ [] /\ NOk (d + 1) n /\ (zAd (d + 1) 1 n).length <= 10000) /\ ds = [zAh n] /\ v = zAh n) (yKr d ih) fun ds v ⟨n, ⟨hn, hl⟩, h1, h2⟩ => ?_;by_cases hL : n.L = []
  ·exact .inl ⟨n, hL, h1, h2⟩
  ·exact .inr ⟨n, ⟨hL, hn, hl⟩, h1, h2⟩
def lvs (qs : List (Need × Nat)) : List Need := (qs.map (·.1)).filter zH3
@[go_sem] def eLv (l : List Need) : SD := .list 5 l.length fun i => zAh (l.getD i default)
theorem NOk.up : ∀ {d : Nat} {n : Need}, NOk d n -> NOk (d + 1) n /\ (zAd (d + 1) 1 n).length = (zAd d 1 n).length
 | 0, n, h => by
  have hL : n.L = [] := h.2;refine ⟨⟨h.1, fun x hx => by rw [hL] at hx; cases hx⟩, ?_⟩;simp only [zAd, hL]; rfl
 | d + 1, n, h => by
  refine ⟨⟨h.1, fun x hx => (NOk.up (h.2 x hx)).1⟩, ?_⟩
  have key : ∀ l : List Need, (∀ x ∈ l, NOk d x) -> (l.flatMap (zAd (d + 1) (1 + 1))).length = (l.flatMap (zAd d (1 + 1))).length := by
   intro l
   induction l with
   | nil => intro _; rfl
   | cons x r ihl =>
    intro hx;simp only [List.flatMap_cons, zye];rw [ihl fun y hy => hx y (zyc _ hy), zE0 (d + 1) (1 + 1) 1, zE0 d (1 + 1) 1, (NOk.up (hx x (zym ..))).2]
  have h1 := zDk (d + 1) 1 n;have h2 := zDk d 1 n;have h3 := key n.L h.2;omega
theorem zIy : ∀ (d k : Nat) (n : Need), NOk d n -> ∀ x ∈ zAd d k n, NOk d x.1 /\ (zAd d 1 x.1).length <= (zAd d k n).length
 | 0, k, n, h, x, hx => by
  simp only [zAd, zyh] at hx;subst hx;exact ⟨h, zyj _⟩
 | d + 1, k, n, h, x, hx => by
  simp only [zAd, List.mem_cons, List.mem_flatMap] at hx
  rcases hx with rfl | ⟨y, hy, hx⟩
  ·exact ⟨h, by rw [zE0 (d + 1) 1 k]; exact zyj _⟩
  ·obtain ⟨h1, h2⟩ := zIy d (k + 1) y (h.2 y hy) x hx
   have h3 : (zAd d (k + 1) y).length <= (n.L.flatMap (zAd d (k + 1))).length := by
    obtain ⟨i, hi, rfl⟩ := List.getElem_of_mem hy;have := zLq (zAd d (k + 1)) n.L i hi;rw [zz2, zz5 hi] at this;simp only [Option.getD_some] at this;omega
   have h4 := zDk d k n;obtain ⟨h5, h6⟩ := NOk.up h1;exact ⟨h5, by omega⟩
theorem K144 (d : Nat) (hd : 1 + d <= 100) : FnOK prog 144 (fun ds v => ∃ n : Need, WOk d n /\ ds = [zAh n] /\ v = eLv (lvs (zAd d 1 n))) := by
 have K := K143 d hd;have K187x := K187 d;refine zAb call144 func144 rfl ntmps144 ?_;rintro ds d ⟨n, hn, rfl, rfl⟩;refine ⟨by simp, fun w0 => ?_⟩;have hlen := hn.2;have hok : ∀ x ∈ zAd d 1 n, NOk d x.1 /\ (zAd d 1 x.1).length <= 1000 := fun x hx => ⟨(zIy d 1 n hn.1 x hx).1, Nat.le_trans (zIy d 1 n hn.1 x hx).2 hlen⟩
 repeat' (first | refine wA ?_ | refine zG K qD ?_ ⟨n, hn, rfl, rfl⟩ qS ?_ | exact qT | fail)
 generalize zAd d 1 n = qs at hlen hok |-;refine zX 2 30 5 (fun i => zAh (([] : List Need).getD i default)) rfl rfl rfl ?_;refine zH [0, 1, 2, 14, 15] (fun x : Nat × List Need => [(16, .int .i64 x.1)]) (fun x => [(1, .acc 30 5 x.2.length (fun i => zAh (x.2.getD i default)))]) (fun x => (x.1 <= qs.length /\ x.2.length <= x.1) /\ lvs qs = x.2 ++ lvs (qs.drop x.1)) (fun x => qs.length - x.1) (0, []) (fun x => qS) ?_ qL qL ?_
 ·exact ⟨⟨zz7 _, zz7 _⟩, rfl⟩
 rintro ⟨j, ls⟩ ⟨⟨g1, g3⟩, g2⟩;simp only at g1 g2 g3
 repeat' (first | refine wA ?_ | exact qT | fail)
 (refine zAa qS qC qC ?_ ?_ <;> intro hb hc <;> try (simp at hc; done))
 ·have hj : j < qs.length := by assumption
  have hx := hok _ (zAi hj)
  have hdrop : lvs (qs.drop j) = (if zH3 (qs.getD j default).1 then [(qs.getD j default).1] else []) ++ lvs (qs.drop (j + 1)) := by
   rw [lvs, List.drop_eq_getElem_cons hj, List.map_cons, List.filter_cons, zz2, zz5 hj];simp only [Option.getD_some, lvs];split <;> rfl
  cases hlf : zH3 (qs.getD j default).1
  ·rw [hlf] at hdrop
   repeat' (first | refine wB ?_ | refine zC (by simp only [go_sem, hlf]; rfl) qR ?_ ?_ | refine zG K186 (by simp only [go_sem, hlf]; first | done | rfl) ?_ ⟨_, rfl, rfl⟩ (by simp only [go_sem, hlf]; rfl) ?_ | (refine zAa (by simp only [go_sem, hlf]; rfl) qC qC ?_ ?_ <;> intro hb hc <;> try (simp at hc; done)) | refine zL (j+1,ls) ?_ ?_ ⟨rfl, qL, qL⟩ | exact qT | omega | exact qP | fail)
   exact ⟨⟨by simp only; omega, by simp only; omega⟩, by rw [g2, hdrop]; rfl⟩
  ·rw [hlf] at hdrop
   repeat' (first | refine wB ?_ | refine zC (by simp only [go_sem, hlf]; rfl) qR ?_ ?_ | refine zG K186 (by simp only [go_sem, hlf]; first | done | rfl) ?_ ⟨_, rfl, rfl⟩ (by simp only [go_sem, hlf]; rfl) ?_ | refine zG K187x (by simp only [go_sem, hlf]; first | done | rfl) ?_ ⟨_, ⟨hx.1, by have := hx.2; omega⟩, rfl, rfl⟩ (by simp only [go_sem, hlf]; rfl) ?_ | (refine zAa (by simp only [go_sem, hlf]; rfl) qC qC ?_ ?_ <;> intro hb hc <;> try (simp at hc; done)) | exact qT | exact qP | fail)
   refine zK (o' := .acc 30 5 (ls ++ [(qs.getD j default).1]).length (fun i => zAh ((ls ++ [(qs.getD j default).1]).getD i default))) 1 qR (zBl zAh ls _ rfl) ?_;refine zL (j + 1, ls ++ [(qs.getD j default).1]) ?_ ?_ ⟨rfl, qL, qL⟩
   ·refine ⟨⟨by simp only; omega, by simp; omega⟩, ?_⟩
    rw [g2, hdrop]; simp
   ·simp only; omega
 ·repeat' (first | refine zI 1 qS ?_ | refine wA ?_ | refine zE qR ?_ | refine zF qR ?_ | exact qT | fail)
  all_goals (have hz : lvs (qs.drop j) = [] := by rw [List.drop_of_length_le (by omega)]; rfl)
  all_goals (rw [hz, List.append_nil] at g2; rw [g2]; exact zAc.le qZ (SLe.refl _))
end Go.Sx
namespace Go.Sx
open Go.Proofs Tryz Go.RowKit
attribute [local irreducible] Run zAg zAs OpT zAc SLe OLe
def zYr : List (Need × Nat) -> Int
 | [] => 0
 | x :: r => if zFw x.1 = 0 then zYr r else zFw x.1
def zFc : List (Need × Nat) -> Nat
 | [] => 0
 | x :: r => (if zH3 x.1 then 1 else 0) + zFc r
theorem zX4 : ∀ qs : List (Need × Nat), (lvs qs).length = zFc qs
 | [] => rfl
 | x :: r => by
  have := zX4 r;simp only [lvs] at this;simp only [lvs, zFc, List.map_cons, List.filter_cons];split <;> simp [this] <;> omega
def zQk (qs : List (Need × Nat)) : Int :=
 if decide (24 < (qs.length : Int)) || decide (5 < ((zOj qs : Nat) : Int)) || !(decide (1 <= ((zFc qs : Nat) : Int)) && decide (((zFc qs : Nat) : Int) <= 8)) then 2 else zYr qs
theorem yB1 (qs : List (Need × Nat)) (b : Nat) (h : ∀ x ∈ qs, x.2 <= b) : zOj qs <= b := by
 have key : ∀ (l : List (Need × Nat)) (m : Nat), m <= b -> (∀ y ∈ l, y.2 <= b) -> l.foldl (fun m x => max m x.2) m <= b := by
  intro l
  induction l with
  | nil => intro m hm _; exact hm
  | cons z r ih =>
   intro m hm hl;simp only [List.foldl_cons];exact ih _ (by have := hl z (zym ..); omega) fun y hy => hl y (zyc _ hy)
 exact key qs 0 (zz7 _) h
theorem MKi (a b : Int) : (MK.i a = MK.i b) = (a = b) := by simp
def yFq : MK -> Bool := zC9 (.i 4) (zC9 (.i 3) (zC9 (.i 2) (zC9 (.i 1) fun _ => false)))
def kF : MK -> SD := zJ0 (.i 4) (.agg [.fn 193 [.fp [.fn 188 []]]]) (zJ0 (.i 3) (.agg [.fn 192 [.fp [.fn 188 []]]]) (zJ0 (.i 2) (.agg [.fn 191 []]) (zJ0 (.i 1) (.agg [.fn 189 []]) fun _ => .any)))
theorem K145 : FnOK prog 145 (fun ds d => ds = [] /\ d = .fmap (some .i64) 4 yFq kF) := by
 refine zAb call145 func145 rfl ntmps145 ?_;rintro ds d ⟨rfl, rfl⟩;refine ⟨by simp, fun w0 => ?_⟩
 repeat' (first | refine wA ?_ | exact qT | fail)
 refine zBc 0 qS ?_
 repeat' (first | refine zI 1 qS ?_ | apply zA | refine zC (by simp only [go_sem, MKi]; rfl) qR ?_ ?_ | refine zFe (fun _ => .any) (by simp only [go_sem, MKi]; rfl) (by simp only [go_sem, MKi]; rfl) ?_ | refine yCr (by simp only [go_sem, MKi]; rfl) ?_ ?_ ?_ | refine zE qR ?_ | exact zz0 | exact zAc.pure rfl | fail)
 all_goals first | (simp [zAl, maxN]; done) | skip
theorem yHc : prog.underlying 140 = some (.slice 5) := by kernel_rfl
theorem tU5 : prog.underlying 5 = some (.int .u8) := by kernel_rfl
def okN (b : UInt8) : Bool := !(decide ((b.toNat : Int) < 32) || decide (126 < (b.toNat : Int)) || ((b.toNat : Int) == 34))
def nameB (s : ByteArray) : Bool := (decide (1 <= (s.size : Int)) && decide ((s.size : Int) <= 40)) && s.data.toList.all okN
theorem yCj {p : UInt8 -> Bool} {l : List UInt8} {k : Nat} (hk : k < l.length) : (l.drop k).all p = (p (l.getD k 0) && (l.drop (k + 1)).all p) := by
 rw [List.drop_eq_getElem_cons hk, List.all_cons, zz2, zz5 hk]; rfl
theorem K95 : FnOK prog 95 (fun ds d => ∃ s : ByteArray, s.size <= 100000 /\ ds = [.str s] /\ d = .bool (nameB s)) := by
 refine zAb call95 func95 rfl ntmps95 ?_;rintro ds d ⟨s, hs, rfl, rfl⟩;refine ⟨by simp, fun w0 => ?_⟩;have hl : s.data.toList.length = s.size := by simp
 have hm : s.size <= maxN := by unfold maxN; omega
 repeat' (first | refine wA ?_ | refine yD6 qS ?_ qR (by first | exact yHc | exact yJs | exact tU5) (by first | exact yHc | exact yJs | exact tU5) ?_ qS ?_ | exact qT | omega)
 refine zH [0, 6, 7] (fun x : Nat × Unit => [(8, .int .i64 x.1)]) (fun x => []) (fun x => x.1 <= s.size /\ s.data.toList.all okN = (s.data.toList.drop x.1).all okN) (fun x => s.size - x.1) (0, ()) (fun x => qS) ?_ qL qL ?_
 ·exact ⟨zz7 _, rfl⟩
 rintro ⟨k, _⟩ ⟨g1, g2⟩;simp only at g1 g2
 repeat' (first | refine wA ?_ | exact qT | fail)
 (refine zAa qS qC qC ?_ ?_ <;> intro hb hc <;> try (simp at hc; done))
 ·have hk : k < s.size := by assumption
  rw [yCj (by omega)] at g2;have eb : byF s.data.toList k = .int .u8 ((s.data.toList.getD k 0).toNat : Int) := rfl
  repeat' (first | refine wB ?_ | refine zC (by simp only [go_sem, eb]; rfl) qR ?_ ?_ | (refine zAa (by simp only [go_sem, eb]; rfl) qC qC ?_ ?_ <;> intro hb hc <;> try (simp at hc; done)) | refine zE qR ?_ | refine zL (k+1,()) ?_ ?_ ⟨rfl, qL, qL⟩ | exact qT | omega | refine zAc.bool ?_ | exact qP | fail)
  ·have : okN (s.data.toList.getD k 0) = false := by rw [okN, hb]; rfl
   rw [nameB, g2, this, Bool.false_and, Bool.and_false]
  ·have : okN (s.data.toList.getD k 0) = true := by rw [okN, hb]; rfl
   exact ⟨by simp only; omega, by rw [g2, this, zyg]⟩
 ·repeat' (first | refine wA ?_ | refine zG K94 qD ?_ ⟨_, _, _, rfl, rfl⟩ qS ?_ | refine zE qR ?_ | refine zF qR ?_ | exact qT | refine zAc.bool ?_ | fail)
  rw [nameB, g2, List.drop_of_length_le (by omega), List.all_nil, Bool.and_true]
end Go.Sx
