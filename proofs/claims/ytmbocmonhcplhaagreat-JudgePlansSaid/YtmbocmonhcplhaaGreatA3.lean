/- Lemmas on the judge: P18, P19, A0, A2, A3. -/
import Derived.Test.YtmbocmonhcplhaaGreatP17
import Derived.Test.YtmbocmonhcplhaaGreatJ8
import Derived.Test.YtmbocmonhcplhaaGreatJ15
import Derived.Test.YtmbocmonhcplhaaGreatJ25
set_option linter.all false
set_option maxHeartbeats 8000000
set_option maxRecDepth 8000
namespace Go.Sx
open Go.Proofs Tryz
theorem zT2 : ∀ a b : List (Need × Nat), zFc (a ++ b) = zFc a + zFc b
 | [], b => by simp [zFc]
 | x :: r, b => by rw [List.cons_append, zFc, zFc, zT2 r b]; omega
theorem zTr (f : Need -> List (Need × Nat)) (q c : Nat) : ∀ l : List Need, (∀ x ∈ l, 1 <= zFc (f x) /\ zFc (f x) <= q /\ (f x).length <= c * zFc (f x)) -> l.length <= zFc (l.flatMap f) /\ zFc (l.flatMap f) <= l.length * q /\ (l.flatMap f).length <= c * zFc (l.flatMap f)
 | [], _ => by simp [zFc]
 | x :: r, h => by
  obtain ⟨h1, h2, h3⟩ := zTr f q c r fun y hy => h y (zyc _ hy);obtain ⟨g1, g2, g3⟩ := h x zym;simp only [List.flatMap_cons, zT2, zye, List.length_cons, Nat.add_mul, Nat.one_mul, Nat.mul_add];omega
theorem zTv : ∀ qs : List (Need × Nat), (∀ x ∈ qs, zFw x.1 = 0) -> zYr qs = 0
 | [], _ => rfl
 | x :: r, h => by rw [zYr, if_pos (h x zym), zTv r fun y hy => h y (zyc _ hy)]
structure RGk (d m : Nat) (x : Need) : Prop where
 g : GOk d x
 one : ∀ k, ∀ y ∈ zAd d k x, zFw y.1 = 0
 cnt : ∀ k, (1 <= zFc (zAd d k x) /\ zFc (zAd d k x) <= m) /\ (zAd d k x).length <= (d + 1) * zFc (zAd d k x)
theorem zEd (d k : Nat) (x : Need) : zAd (d + 1) k x = (x, k) :: x.L.flatMap (zAd d (k + 1)) := rfl
theorem zS0 : ∀ (d k : Nat) (x : Need), ∀ y ∈ zAd d k x, y.2 <= k + d
 | 0, k, x, y, h => by rw [zAd, zyh] at h; subst h; exact zyj _
 | d + 1, k, x, y, h => by
  rw [zEd] at h
  rcases List.mem_cons.1 h with rfl | h
  ·exact Nat.le_add_right _ _
  ·obtain ⟨z, _, h⟩ := List.mem_flatMap.1 h
   have := zS0 d (k + 1) z y h;omega
theorem zHa {x : Need} (h : x.L = []) : ∀ d k : Nat, zAd d k x = [(x, k)]
 | 0, k => rfl
 | d + 1, k => by rw [zEd, h]; rfl
theorem RGk.leaf {d m : Nat} {x : Need} (hg : GOk d x) (hL : x.L = []) (h1 : zFw x = 0) (hl : zH3 x = true) (hm : 1 <= m) : RGk d m x := by
 refine ⟨hg, fun k y hy => ?_, fun k => ?_⟩
 ·rw [zHa hL, zyh] at hy
  subst hy; exact h1
 ·rw [zHa hL]
  simp only [zFc, hl, if_true, List.length_cons, List.length_nil];omega
theorem RGk.node {d m M : Nat} {x : Need} (hg : GOk (d + 1) x) (h1 : zFw x = 0) (hl : zH3 x = false) (hM : x.L.length = M) (hM1 : 1 <= M) (hc : ∀ y ∈ x.L, RGk d (m / M) y) : RGk (d + 1) m x := by
 refine ⟨hg, fun k y hy => ?_, fun k => ?_⟩
 ·rw [zEd] at hy
  rcases List.mem_cons.1 hy with rfl | hy
  ·exact h1
  ·obtain ⟨z, hz, hy⟩ := List.mem_flatMap.1 hy
   exact (hc z hz).one (k + 1) y hy
 ·obtain ⟨q1, q2, q3⟩ := zTr (zAd d (k + 1)) (m / M) (d + 1) x.L fun y hy => ⟨((hc y hy).cnt (k + 1)).1.1, ((hc y hy).cnt (k + 1)).1.2, ((hc y hy).cnt (k + 1)).2⟩
  have := Nat.mul_div_le m M;rw [zEd];rw [hM] at q1 q2;simp only [zFc, hl, Bool.false_eq_true, if_false, List.length_cons];generalize zFc (x.L.flatMap (zAd d (k + 1))) = c at *;generalize (x.L.flatMap (zAd d (k + 1))).length = n at *;have e : (d + 1 + 1) * (0 + c) = (d + 1) * c + c := by rw [Nat.zero_add, Nat.add_mul (d + 1) 1 c, Nat.one_mul]
  rw [e];omega
theorem RGk.chk {x : Need} (h : RGk 3 6 x) : zQk (zAd 3 1 x) = 0 := by
 have h1 := h.cnt 1;have h2 : zOj (zAd 3 1 x) <= 5 := yB1 _ 5 fun y hy => by have := zS0 3 1 x y hy; omega
 rw [zQk, zTv _ (h.one 1), zyq (by omega), zyq (by omega), zyr (by omega), zyr (by omega)];rfl
theorem yB2 {l : List Course} (h : SRt l) : (l.any fun c => !zGe c) = false := by
 rw [List.any_eq_false];intro c hc;rw [(h.1 c hc).2]; simp
theorem zM1 {n : Need} (hm : -1000 <= n.Min /\ n.Min <= 1000) (h : SRt n.Set) (hl : 1 <= n.Set.length /\ n.Set.length <= 4) : zCx n = 0 := by
 rw [zCx, yB2 h, yEb h, zyr hm.1, zyr hm.2, zyr (by omega), zyr (by omega)];rfl
theorem zTm {n : Nat} {x : Need} (h : SRt x.Set) (hl : x.Set.length <= 4) (hL : x.L = []) : GOk n x := yCl n ⟨fun c hc => (h.1 c hc).1, hl⟩ hL
theorem rg_2 (n : Nat) {m : Nat} {N mn : Int} {S : List Course} (hm : 1 <= m) (h1 : 1 <= N /\ N <= 600) (h2 : -1000 <= mn /\ mn <= 1000) (hS : SRt S /\ 1 <= S.length /\ S.length <= 4) : RGk n m (.mk 2 N mn S []) := by
 refine RGk.leaf (zTm hS.1 hS.2.2 rfl) rfl ?_ rfl hm;rw [zXm rfl, zM1 (n := .mk 2 N mn S []) h2 hS.1 hS.2];show (if decide (0 < (([] : List Need).length : Int)) = true then 13 else if (!(decide (1 <= N) && decide (N <= 600))) = true then 3 else 0) = 0;rw [zyr h1.1, zyr h1.2]; rfl
theorem rg_1 (n : Nat) {m : Nat} {mn : Int} {S : List Course} (hm : 1 <= m) (h2 : -1000 <= mn /\ mn <= 1000) (hS : SRt S /\ 1 <= S.length /\ S.length <= 4) : RGk n m (.mk 1 0 mn S []) := by
 refine RGk.leaf (zTm hS.1 hS.2.2 rfl) rfl ?_ rfl hm;rw [zXn rfl, zM1 (n := .mk 1 0 mn S []) h2 hS.1 hS.2];rfl
theorem zZg {k N : Int} {L : List Need} (h : 1 <= L.length) : zMf (.mk k N 0 [] L) = true := by
 show ((0 : Int) == 0 && (([] : List Course).length : Int) == 0 && decide (0 < (L.length : Int))) = true;rw [zyr (by omega)]; rfl
theorem zTl {n : Nat} {k N : Int} {L : List Need} {q : Nat} (h3 : L.length <= 3) (hc : ∀ y ∈ L, RGk n q y) : GOk (n + 1) (.mk k N 0 [] L) := ⟨⟨fun c hc => (by cases hc), zz7 _⟩, h3, fun x hx => (hc x hx).g⟩
theorem rg_4 {n m Q : Nat} {N : Int} {L : List Need} (hQ : (1 <= Q /\ Q <= 3) /\ L.length = Q) (hN : 1 <= N /\ N <= (Q : Int)) (hc : ∀ y ∈ L, RGk n (m / Q) y) : RGk (n + 1) m (.mk 4 N 0 [] L) := by
 refine RGk.node (zTl (by omega) hc) ?_ rfl hQ.2 hQ.1.1 hc;rw [yCz rfl, zZg (by omega)];show (if (!true) = true then 13 else if (!(decide (1 <= N) && decide (N <= (L.length : Int)))) = true then 3 else 0) = 0;rw [zyr hN.1, zyr (by omega)]; rfl
theorem rg_3 {n m Q : Nat} {L : List Need} (hQ : (1 <= Q /\ Q <= 3) /\ L.length = Q) (hc : ∀ y ∈ L, RGk n (m / Q) y) : RGk (n + 1) m (.mk 3 0 0 [] L) := by
 refine RGk.node (zTl (by omega) hc) ?_ rfl hQ.2 hQ.1.1 hc;rw [yC0 rfl, zZg (by omega)];rfl
theorem zNv (i : Nat) : (-1000 <= ([0, 50, 60] : List Int).getD i 0 /\ ([0, 50, 60] : List Int).getD i 0 <= 1000) /\ (-1000 <= ([0, 50, 60, 80] : List Int).getD i 0 /\ ([0, 50, 60, 80] : List Int).getD i 0 <= 1000) :=
 ⟨zI7 (P := fun x => -1000 <= x /\ x <= 1000) (by decide) (by decide) i, zI7 (P := fun x => -1000 <= x /\ x <= 1000) (by decide) (by decide) i⟩
theorem zKz (L : List Int) (p : Nat) (m : Int) (hm : 0 < m /\ m <= 600) : 1 <= IntKind.i64.wrap (1 + nxN L p m) /\ IntKind.i64.wrap (1 + nxN L p m) <= m := by
 have := zA7 L p m ⟨hm.1, by omega⟩;rw [w64]; omega
open Go.Proofs Go.RowKit
attribute [local irreducible] Run zAg zAs zH9 zAc SLe OLe
theorem K93h (n : Nat) (hn : n <= 3) : ∃ G : (List Int × Nat) × Nat -> Need × Nat, (∀ x : (List Int × Nat) × Nat, (1 <= x.2 /\ x.2 <= 6) -> RGk n x.2 (G x).1) /\ FnM prog 93 (fun ds os d os' => ∃ x, (1 <= x.2 /\ x.2 <= 6) /\ ds = [.loc 1000 0, eInt (n : Nat), eInt (x.2 : Nat)] /\ os = [zD0 x.1.1 x.1.2] /\ d = zAh (G x).1 /\ os' = [(1000, zD0 x.1.1 (G x).2)]) := by
 induction n with
 | zero =>
  obtain ⟨G142, g142, K142⟩ := yI6;refine zI9 call93 func93 rfl ntmps93 (α := (List Int × Nat) × Nat) (β := Need × Nat) (fun x => 1 <= x.2 /\ x.2 <= 6) (fun x y => RGk 0 x.2 y.1) (fun x => [.loc 1000 0, eInt ((0 : Nat) : Int), eInt (x.2 : Nat)]) (fun x => [zD0 x.1.1 x.1.2]) (fun _ y => zAh y.1) (fun x y => [(1000, zD0 x.1.1 y.2)]) ?_;rintro ⟨⟨L, p0⟩, m⟩ ⟨hm0, hm⟩;simp only at hm0 hm;refine ⟨by simp, ?_⟩
  repeat' (first | (refine zD (K' := ?_) (s' := ?_) (fun F w0 fn hE => ?_) ?_; rotate_left 2; focus ((first | refine wA ?_ | fail); (repeat' (first | refine wA ?_ | refine zC qS qR ?_ ?_ | refine zM qS qR ?_ ?_ | refine zJ qK qK ?_ | refine zO [1000] K90 qR qD qZ qF ?_ ⟨L, _, _, (by first | decide | omega), rfl, rfl, rfl, rfl⟩ qS ?_ | refine zB3 [1000] K90 qR qD qZ qF ?_ ⟨L, _, _, (by first | decide | omega), rfl, rfl, rfl, rfl⟩ qS ?_ | refine zB3 [1000] K142 qR qD qZ qF ?_ ⟨(L, _), trivial, rfl, rfl, rfl, rfl⟩ qS ?_ | exact hE | (show zAl _; simp only [zAl, go_sem, zB2]; (repeat' apply And.intro) <;> first | exact zz0 | exact (zA7 _ _ _ (by omega)).1 | exact (zA7 _ _ _ (by omega)).2 | (refine Int.lt_of_lt_of_le (zA7 _ _ _ (by omega)).2 (by omega)) | (intros; omega)) | exact qT | exact qP | fail)))) | (refine zA3 qS qC qC ?_ ?_ <;> intro hb hc <;> try (simp at hc; done)))
  ·(refine zU (ds := ?ds8) (⟨(.mk ?u2 ?u3 ?u4 ?u5 ?u6, ?u7), ?u8⟩ : {y : Need × Nat // RGk 0 m y.1}) qR ?qa8 ?qb8 ?qc8; (case qa8 => (simp only [go_sem]; rfl)); (case' qb8 => exact qE); (case' qc8 => exact qE))
   exact rg_2 0 hm0 ⟨(zKz L _ 12 (by decide)).1, Int.le_trans (zKz L _ 12 (by decide)).2 (by decide)⟩ (zNv _).1 (g142 _ trivial)
  ·(refine zU (ds := ?ds16) (⟨(.mk ?u10 ?u11 ?u12 ?u13 ?u14, ?u15), ?u16⟩ : {y : Need × Nat // RGk 0 m y.1}) qR ?qa16 ?qb16 ?qc16; (case qa16 => (simp only [go_sem]; rfl)); (case' qb16 => exact qE); (case' qc16 => exact qE))
   exact rg_1 0 hm0 (zNv _).2 (g142 _ trivial)
 | succ n ihn =>
 obtain ⟨G, g93, K93⟩ := ihn (by omega);obtain ⟨G142, g142, K142⟩ := yI6;refine zI9 call93 func93 rfl ntmps93 (α := (List Int × Nat) × Nat) (β := Need × Nat) (fun x => 1 <= x.2 /\ x.2 <= 6) (fun x y => RGk (n + 1) x.2 y.1) (fun x => [.loc 1000 0, eInt ((n + 1 : Nat) : Int), eInt (x.2 : Nat)]) (fun x => [zD0 x.1.1 x.1.2]) (fun _ y => zAh y.1) (fun x y => [(1000, zD0 x.1.1 y.2)]) ?_;rintro ⟨⟨L, p0⟩, m⟩ ⟨hm0, hm⟩;simp only at hm0 hm;refine ⟨by simp, ?_⟩
 repeat' (first | (refine zD (K' := ?_) (s' := ?_) (fun F w0 fn hE => ?_) ?_; rotate_left 2; focus ((first | refine wA ?_ | fail); (repeat' (first | refine wA ?_ | refine zC qS qR ?_ ?_ | refine zM qS qR ?_ ?_ | refine zJ qK qK ?_ | refine zO [1000] K90 qR qD qZ qF ?_ ⟨L, _, _, (by first | decide | omega), rfl, rfl, rfl, rfl⟩ qS ?_ | refine zB3 [1000] K90 qR qD qZ qF ?_ ⟨L, _, _, (by first | decide | omega), rfl, rfl, rfl, rfl⟩ qS ?_ | refine zB3 [1000] K142 qR qD qZ qF ?_ ⟨(L, _), trivial, rfl, rfl, rfl, rfl⟩ qS ?_ | exact hE | (show zAl _; simp only [zAl, go_sem, zB2]; (repeat' apply And.intro) <;> first | exact zz0 | exact (zA7 _ _ _ (by omega)).1 | exact (zA7 _ _ _ (by omega)).2 | (refine Int.lt_of_lt_of_le (zA7 _ _ _ (by omega)).2 (by omega)) | (intros; omega)) | exact qT | exact qP | fail)))) | (refine zA3 qS qC qC ?_ ?_ <;> intro hb hc <;> try (simp at hc; done)))
 ·(refine zU (ds := ?ds24) (⟨(.mk ?u18 ?u19 ?u20 ?u21 ?u22, ?u23), ?u24⟩ : {y : Need × Nat // RGk (n + 1) m y.1}) qR ?qa24 ?qb24 ?qc24; (case qa24 => (simp only [go_sem]; rfl)); (case' qb24 => exact qE); (case' qc24 => exact qE))
  exact rg_2 (n + 1) hm0 ⟨(zKz L _ 12 (by decide)).1, Int.le_trans (zKz L _ 12 (by decide)).2 (by decide)⟩ (zNv _).1 (g142 _ trivial)
 ·(refine zU (ds := ?ds32) (⟨(.mk ?u26 ?u27 ?u28 ?u29 ?u30, ?u31), ?u32⟩ : {y : Need × Nat // RGk (n + 1) m y.1}) qR ?qa32 ?qb32 ?qc32; (case qa32 => (simp only [go_sem]; rfl)); (case' qb32 => exact qE); (case' qc32 => exact qE))
  exact rg_1 (n + 1) hm0 (zNv _).2 (g142 _ trivial)
 have b1 := zA7 L p0 6 (by omega);simp only [Bool.or_eq_false_iff, decide_eq_false_iff_not] at hb;have b2 := zA7 L (nxA L p0) (if (m : Int) < 3 then (m : Int) else 3) (by split <;> omega)
 repeat' (first | (refine zD (K' := ?_) (s' := ?_) (fun F w0 fn hE => ?_) ?_; rotate_left 2; focus ((first | (show Run _ _ _ _ _ _; first | refine wA ?_ | refine zF qR ?_) | (show zAg _ _ _ _ _ _ _; first | refine wA ?_ | refine zC qS qR ?_ ?_ | refine zO [1000] K90 qR qD qZ qF ?_ ⟨L, _, _, (by first | decide | (split <;> omega)), rfl, rfl, rfl, rfl⟩ qS ?_ | refine zBg 15 qR qD ?_ | refine zBh 15 qS qR qD qS ?_ | refine zA5 15 qR qD qS ?_ | refine zBg 19 qR qD ?_ | refine zBh 19 qS qR qD qS ?_ | refine zA5 19 qR qD qS ?_ | refine zY qS qZ qZ (fun bn hbn => ?_) | refine zBt qF qR qS ?_) | (show zAs _ _ _ _ _ _ _ _ _ _; first | refine zM qS qR ?_ ?_ | refine zJ qK qK ?_ | refine zB3 [1000] K90 qR qD qZ qF ?_ ⟨L, _, _, (by first | decide | (split <;> omega)), rfl, rfl, rfl, rfl⟩ qS ?_) | (show zAl _; simp only [zAl, go_sem, zB2]; (repeat' apply And.intro) <;> first | exact zz0 | exact (zA7 _ _ _ (by omega)).1 | exact (zA7 _ _ _ (by omega)).2 | (refine Int.lt_of_lt_of_le (zA7 _ _ _ (by omega)).2 (by omega)) | (intros; omega)) | exact qT | exact SLe.refl _ | exact zAc.bool rfl | refine zAc.bool ?_ | refine zAc.int ?_ | refine zAc.str ?_ | exact zAc.pure rfl | exact qM | exact qN | exact qP | fail); (repeat' (first | (show Run _ _ _ _ _ _; first | refine wA ?_ | refine zF qR ?_) | (show zAg _ _ _ _ _ _ _; first | refine wA ?_ | refine zC qS qR ?_ ?_ | refine zO [1000] K90 qR qD qZ qF ?_ ⟨L, _, _, (by first | decide | (split <;> omega)), rfl, rfl, rfl, rfl⟩ qS ?_ | refine zBg 15 qR qD ?_ | refine zBh 15 qS qR qD qS ?_ | refine zA5 15 qR qD qS ?_ | refine zBg 19 qR qD ?_ | refine zBh 19 qS qR qD qS ?_ | refine zA5 19 qR qD qS ?_ | refine zY qS qZ qZ (fun bn hbn => ?_) | refine zBt qF qR qS ?_) | (show zAs _ _ _ _ _ _ _ _ _ _; first | refine zM qS qR ?_ ?_ | refine zJ qK qK ?_ | refine zB3 [1000] K90 qR qD qZ qF ?_ ⟨L, _, _, (by first | decide | (split <;> omega)), rfl, rfl, rfl, rfl⟩ qS ?_) | (show zAl _; simp only [zAl, go_sem, zB2]; (repeat' apply And.intro) <;> first | exact zz0 | exact (zA7 _ _ _ (by omega)).1 | exact (zA7 _ _ _ (by omega)).2 | (refine Int.lt_of_lt_of_le (zA7 _ _ _ (by omega)).2 (by omega)) | (intros; omega)) | exact qT | exact SLe.refl _ | exact hE | omega | exact zAc.bool rfl | refine zAc.bool ?_ | refine zAc.int ?_ | refine zAc.str ?_ | exact zAc.pure rfl | exact qM | exact qN | exact qP | fail)))) | (refine zA3 qS qC qC ?_ ?_ <;> intro hb hc <;> try (simp at hc; done)))
 generalize hM : IntKind.i64.wrap (1 + nxN L (nxA L p0) (if (m : Int) < 3 then (m : Int) else 3)) = M
 have hM1 : (1 <= M /\ M <= 3) /\ M <= (m : Int) := by
  have hb2 : 0 <= nxN L (nxA L p0) (if (m : Int) < 3 then (m : Int) else 3) /\ nxN L (nxA L p0) (if (m : Int) < 3 then (m : Int) else 3) < 3 /\ nxN L (nxA L p0) (if (m : Int) < 3 then (m : Int) else 3) < (m : Int) := ⟨b2.1, Int.lt_of_lt_of_le b2.2 (by split <;> omega), Int.lt_of_lt_of_le b2.2 (by split <;> omega)⟩;generalize nxN L (nxA L p0) (if (m : Int) < 3 then (m : Int) else 3) = z at hM hb2;rw [w64] at hM;omega
 obtain ⟨⟨hMa, hMb⟩, hMc⟩ := hM1;obtain ⟨Q, rfl⟩ : ∃ q : Nat, M = (q : Int) := ⟨M.toNat, by omega⟩;have e3 : (m : Int).tdiv (Q : Int) = ((m / Q : Nat) : Int) := rfl;have e4 : IntKind.i64.wrap (((n + 1 : Nat) : Int) - 1) = (n : Int) := by rw [w64]; omega
 have e5 : IntKind.i64.wrap (((m / Q : Nat) : Int)) = ((m / Q : Nat) : Int) := by
  have := Nat.div_le_self m Q;generalize m / Q = z at this |-;rw [w64]; omega
 have hd : 1 <= m / Q /\ m / Q <= 6 := ⟨Nat.div_pos (by omega) (by omega), Nat.le_trans (Nat.div_le_self _ _) hm⟩;refine zD (fun _ _ _ hE => zCe 1 4 30 5 (fun i => zAh (([] : List Need).getD i default)) rfl rfl (by simp only [List.set]; rfl) rfl hE) ?_;refine zDc [0, 1, 2, 6, 7, 8, 9] (fun x : List Need × Nat × Nat => [(10, .int .i64 x.2.2)]) (fun x => [(1000, zD0 L x.2.1), (1, .var [.int .i64 3, .int .i64 0, .int .i64 0, .nils, .acc 2]), (2, .acc 30 5 x.1.length (fun i => zAh (x.1.getD i default)))]) (fun x => (x.2.2 <= Q /\ x.1.length = x.2.2) /\ ∀ y ∈ x.1, RGk n (m / Q) y) (fun x => 3 - x.2.2) ([], nxA L (nxA L p0), 0) (fun x => qS) ?_ qE qE ?_
 ·exact ⟨⟨by simp, rfl⟩, fun m hm => (by cases hm)⟩
 rintro ⟨acc, p, k⟩ n2 ⟨⟨h1, h2⟩, hno⟩ ih;simp only at h1 h2 hno;have b9 := zA7 L p (Q : Int) (by omega)
 repeat' (first | (refine zD (K' := ?_) (s' := ?_) (fun F w0 fn hE => ?_) ?_; rotate_left 2; focus ((first | refine wB ?_ | refine zF qR ?_ | fail); (repeat' (first | refine wB ?_ | refine zC (by simp only [go_sem, e3, e4, e5]; rfl) qR ?_ ?_ | refine zM (by simp only [go_sem, e3, e4, e5]; rfl) qR ?_ ?_ | refine zJ qK qK ?_ | refine zF3 (by simp only [go_sem, e3, e4, e5]; rfl) ?_ (by simp only [go_sem, e3, e4, e5]; rfl) ?_ | refine zB3 [1000] K93 qR (by simp only [go_sem, e3, e4, e5]; first | done | rfl) (by simp only [go_sem, e3, e4, e5]) (by first | (simp only [go_sem, e3, e4, e5]; done) | (simp only [go_sem, e3, e4, e5]; rfl)) ?_ ⟨((L, _), (m / Q)), hd, rfl, rfl, rfl, rfl⟩ (by simp only [go_sem, e3, e4, e5]; rfl) ?_ | refine zO [1000] K90 qR (by simp only [go_sem, e3, e4, e5]; first | done | rfl) (by simp only [go_sem, e3, e4, e5]) (by first | (simp only [go_sem, e3, e4, e5]; done) | (simp only [go_sem, e3, e4, e5]; rfl)) ?_ ⟨L, _, _, (by omega), rfl, rfl, rfl, rfl⟩ (by simp only [go_sem, e3, e4, e5]; rfl) ?_ | exact qT | exact hE | exact qP | fail)))) | (refine zA3 qS qC qC ?_ ?_ <;> intro hb hc <;> try (simp at hc; done)))
 ·refine zD (fun _ _ _ hE => zHz 3 2 qS hE) ?_
  refine zQ ih ((acc ++ [?u34], ?u35, k + 1)) ?_ ?_ ⟨rfl, qEn, qEn⟩
  ·refine ⟨⟨by simp only; omega, by simp; omega⟩, fun y hy => ?_⟩
   rcases List.mem_append.1 hy with hy | hy
   ·exact hno y hy
   ·rw [zyh] at hy; subst hy; exact g93 ((L, _), m / Q) hd
  ·simp only; omega
 ·refine zD (fun _ _ _ hE => zI 2 qS hE) ?_
  (refine zU (ds := ?ds43) (⟨(.mk ?u37 ?u38 ?u39 ?u40 ?u41, ?u42), ?u43⟩ : {y : Need × Nat // RGk (n + 1) m y.1}) qR ?qa43 ?qb43 ?qc43; (case qa43 => (simp only [go_sem]; rfl)); (case' qb43 => exact qE); (case' qc43 => exact qE))
  exact rg_4 (Q := Q) ⟨by omega, by omega⟩ (zKz L p Q (by omega)) hno
 ·refine zD (fun _ _ _ hE => zI 2 qS hE) ?_
  (refine zU (ds := ?ds51) (⟨(.mk ?u45 ?u46 ?u47 ?u48 ?u49, ?u50), ?u51⟩ : {y : Need × Nat // RGk (n + 1) m y.1}) qR ?qa51 ?qb51 ?qc51; (case qa51 => (simp only [go_sem]; rfl)); (case' qb51 => exact qE); (case' qc51 => exact qE))
  exact rg_3 (Q := Q) ⟨by omega, by omega⟩ hno
end Go.Sx
namespace Go.Sx
open Go.Proofs Tryz
theorem getD_in {α : Type} {P : α -> Prop} {l : List α} {d : α} {i : Nat} (h : ∀ x ∈ l, P x) (hi : i < l.length) : P (l.getD i d) := by
 rw [zz2, zz5 hi];exact h _ (List.getElem_mem hi)
structure PRk (p : Programme) : Prop where
 school : p.School = 1
 id : 1 <= p.Id /\ p.Id <= 3
 version : 1 <= p.Version /\ p.Version <= 3
 since : 0 <= p.From /\ p.From <= 400
 name : nameB p.Name = true /\ p.Name.size <= 100
 need : RGk 3 6 p.Need
 total : 0 <= p.Total /\ p.Total <= 20
 own : 0 <= p.Own /\ p.Own <= 20
 age : 0 <= p.Age /\ p.Age <= 5
 excl : p.Exclude.length <= 1 /\ ∀ x ∈ p.Exclude, (CRt x.1 /\ CRt x.2) /\ zB4 x.1 x.2 = true
theorem PRk.g {p : Programme} (h : PRk p) : PGk p := ⟨h.need.g, Nat.le_trans h.name.2 (by decide), fun x hx => ⟨(h.excl.2 x hx).1.1.1.asc, (h.excl.2 x hx).1.2.1.asc⟩⟩
theorem PRk.chk {p : Programme} (h : PRk p) : zFx 3 p = 0 := by
 have h1 := h.id;have h2 := h.version;have h3 := h.since;have h4 := h.total;have h5 := h.own;have h6 := h.age
 have hr : zLe p = false := by
  simp only [zLe, Bool.or_eq_false_iff, Bool.not_eq_false', zz3, zyf];omega
 have he := h.excl.1;have hx := h.excl.2;rw [zFx, hr, h.name.1, h.need.chk, h.school, if_neg (by decide), if_neg (by simp), if_neg (by simp), if_pos rfl, if_neg (by simp; omega)]
 rcases hE : p.Exclude with _ | ⟨x, r⟩
 ·rfl
 ·rw [hE] at he hx
  have hr : r = [] := by
   have : r.length = 0 := by simp only [List.length_cons] at he; omega
   exact List.eq_nil_of_length_eq_zero this
  subst hr;obtain ⟨⟨h1, h2⟩, h3⟩ := hx x zym;simp [zRo, h1.2, h2.2, h3]
theorem zXc {L : List Int} {p1 p2 p3 p4 p5 p6 p7 p8 : Nat} {nd : Need} {ex : List (Course × Course)} (h1 : RGk 3 6 nd) (h2 : ex.length <= 1 /\ ∀ x ∈ ex, (CRt x.1 /\ CRt x.2) /\ zB4 x.1 x.2 = true) :
  PRk { School := 1, Id := IntKind.i64.wrap (1 + nxN L p1 3), Version := IntKind.i64.wrap (1 + nxN L p2 3), From := IntKind.i64.wrap (100 * nxN L p3 5), Name := ([⟨#[77, 117, 115, 105, 99]⟩, ⟨#[76, 97, 119]⟩, ⟨#[79, 108, 100, 32, 109, 97, 112, 115]⟩] : List ByteArray).getD (nxN L p4 3).toNat ByteArray.empty, Need := nd, Total := nxN L p5 20, Own := IntKind.i64.wrap (nxN L p6 3 * nxN L p7 6), Age := ([0, 0, 0, 2, 5] : List Int).getD (nxN L p8 5).toNat 0, Exclude := ex } := by
 have b3 := zA7 L p3 5 (by omega);have b4 := zA7 L p4 3 (by omega);have b5 := zA7 L p5 20 (by omega);have b6 := zA7 L p6 3 (by omega);have b7 := zA7 L p7 6 (by omega);refine ⟨rfl, zKz L p1 3 (by decide), zKz L p2 3 (by decide), ?_, ?_, h1, ?_, ?_, ?_, h2⟩
 ·have h9 : 0 <= 100 * nxN L p3 5 /\ 100 * nxN L p3 5 <= 400 := by omega
  simp only;generalize 100 * nxN L p3 5 = z at h9;rw [w64]; omega
 ·exact getD_in (P := fun x : ByteArray => nameB x = true /\ x.size <= 100) (by decide) (by show _ < 3; omega)
 ·simp only; omega
 ·simp only
  generalize nxN L p6 3 = a at b6;generalize nxN L p7 6 = b at b7
  rcases (show a = 0 \/ a = 1 \/ a = 2 by omega) with rfl | rfl | rfl <;> rw [w64] <;> omega
 ·exact zI7 (P := fun x => 0 <= x /\ x <= 5) (by decide) (by decide) _
open Go.Proofs Go.RowKit
attribute [local irreducible] Run zAg zAs zH9 zAc SLe OLe
theorem K39h : ∃ G : List Int -> Programme, (∀ x : List Int, True -> PRk (G x)) /\ FnOK prog 39 (fun ds d => ∃ x, True /\ ds = [lngs x] /\ d = zGx (G x)) := by
 obtain ⟨G91, g91, K91⟩ := K91h;obtain ⟨G93, g93, K93⟩ := K93h 3 (by omega);refine zEg call39 func39 rfl ntmps39 (α := List Int) (β := Programme) (fun _ => True) (fun _ y => PRk y) (fun x => [lngs x]) (fun _ y => zGx y) ?_;rintro L _;refine ⟨by simp, ?_⟩;have h16 : 1 <= 6 /\ 6 <= 6 := by decide
 repeat' (first | (refine zD (K' := ?_) (s' := ?_) (fun F w0 fn hE => ?_) ?_; rotate_left 2; focus ((first | refine wA ?_ | fail); (repeat' (first | refine wA ?_ | refine zC qS qR ?_ ?_ | refine zM qS qR ?_ ?_ | refine zJ qK qK ?_ | refine zO [1] K90 qR qD qZ qF ?_ ⟨L, _, _, (by decide), rfl, rfl, rfl, rfl⟩ qS ?_ | refine zB3 [1] K90 qR qD qZ qF ?_ ⟨L, _, _, (by decide), rfl, rfl, rfl, rfl⟩ qS ?_ | refine zO [1] K91 qR qD qZ qF ?_ ⟨(L, _), trivial, rfl, rfl, rfl, rfl⟩ qS ?_ | refine zO [1] K93 qR qD qZ qF ?_ ⟨((L, _), 6), h16, rfl, rfl, rfl, rfl⟩ qS ?_ | refine zG K92 qD ?_ ⟨_, _, rfl, rfl⟩ qS ?_ | exact hE | (show zAl _; simp only [zAl, go_sem, zB2]; (repeat' apply And.intro) <;> first | exact zz0 | exact (zA7 _ _ _ (by omega)).1 | exact (zA7 _ _ _ (by omega)).2 | (refine Int.lt_of_lt_of_le (zA7 _ _ _ (by omega)).2 (by omega)) | (intros; omega)) | exact qT | fail)))) | (refine zA3 qS qC qC ?_ ?_ <;> intro hb hc <;> try (simp at hc; done)))
 ·(refine zR (ds := ?ds12) (⟨⟨?u2, ?u3, ?u4, ?u5, ?u6, ?u7, ?u8, ?u9, ?u10, ?u11⟩, ?u12⟩ : {y : Programme // PRk y}) qR ?qa12 ?qb12; (case qa12 => (simp only [go_sem]; rfl)); case' qb12 => (refine zAc.le qZ ?_; exact qE))
  refine zXc (g93 ((L, _), 6) h16) ⟨zyj 1, fun x hx => ?_⟩;rw [zyh] at hx;subst hx;exact ⟨⟨g91 _ trivial, g91 _ trivial⟩, zEz.2 hc⟩
 ·(refine zR (ds := ?ds24) (⟨⟨?u14, ?u15, ?u16, ?u17, ?u18, ?u19, ?u20, ?u21, ?u22, ?u23⟩, ?u24⟩ : {y : Programme // PRk y}) qR ?qa24 ?qb24; (case qa24 => (simp only [go_sem]; rfl)); case' qb24 => (refine zAc.le qZ ?_; exact qE))
  exact zXc (g93 ((L, _), 6) h16) ⟨zz7 _, fun x hx => (by cases hx)⟩
 ·(refine zR (ds := ?ds36) (⟨⟨?u26, ?u27, ?u28, ?u29, ?u30, ?u31, ?u32, ?u33, ?u34, ?u35⟩, ?u36⟩ : {y : Programme // PRk y}) qR ?qa36 ?qb36; (case qa36 => (simp only [go_sem]; rfl)); case' qb36 => (refine zAc.le qZ ?_; exact qE))
  exact zXc (g93 ((L, _), 6) h16) ⟨zz7 _, fun x hx => (by cases hx)⟩
theorem K34h : ∃ G : List Int -> Programme, (∀ x : List Int, True -> PRk (G x)) /\ FnOK prog 34 (fun ds d => ∃ x, True /\ ds = [lngs x] /\ d = zGx (G x)) := by
 obtain ⟨G39, g39, K39⟩ := K39h;refine zEg call34 func34 rfl ntmps34 (α := List Int) (β := Programme) (fun _ => True) (fun _ y => PRk y) (fun x => [lngs x]) (fun _ y => zGx y) ?_;rintro L _;refine ⟨by simp, ?_⟩
 repeat' (first | (refine zD (K' := ?_) (s' := ?_) (fun F w0 fn hE => ?_) ?_; rotate_left 2; focus ((first | apply zB | fail); (repeat' (first | refine wA ?_ | refine zC qS qR ?_ ?_ | refine zG K39 qD ?_ ⟨L, trivial, rfl, rfl⟩ qS ?_ | exact qT | exact hE | exact qP | fail)))) | (refine zA3 qS qC qC ?_ ?_ <;> intro hb hc <;> try (simp at hc; done)))
 have gg := g39 L trivial
 (refine zR (ds := ?ds48) (⟨⟨?u38, ?u39, ?u40, ?u41, ?u42, ?u43, ?u44, ?u45, ?u46, ?u47⟩, ?u48⟩ : {y : Programme // PRk y}) qR ?qa48 ?qb48; (case qa48 => (simp only [go_sem]; rfl)); case' qb48 => (refine zAc.le qZ ?_; exact qE))
 refine ⟨gg.school, gg.id, gg.version, gg.since, gg.name, gg.need, ?_, ?_, gg.age, gg.excl⟩
 ·have h := gg.total
  have h2 := Int.tmod_nonneg 12 h.1;have h3 := Int.tmod_lt_of_pos (G39 L).Total (show (0 : Int) < 12 by decide);simp only; omega
 ·have h := gg.own
  have h2 := Int.tmod_nonneg 4 h.1;have h3 := Int.tmod_lt_of_pos (G39 L).Own (show (0 : Int) < 4 by decide);simp only; omega
structure ARk (a : Ach) : Prop where
 g : AGk a
 src : ∀ x ∈ a.Sources, 0 <= x /\ (x < 1900000 \/ 1900010 < x)
theorem yJx (L : List Int) (p : Nat) : ∀ x ∈ [IntKind.i64.wrap (2000001 + nxN L p 3)], 0 <= x /\ (x < 1900000 \/ 1900010 < x) := fun x hx => by
 rw [zyh] at hx;have := zA7 L p 3 (by omega);rw [w64] at hx; omega
theorem yJw (L : List Int) (p : Nat) {k : Nat} (hk : k <= 7) : ∀ x ∈ [IntKind.i64.wrap (IntKind.i64.wrap (IntKind.i64.wrap (1000000 * ([1, 1, 1, 2, 3] : List Int).getD (nxN L p 5).toNat 0) + 1) + (k : Int))], 0 <= x /\ (x < 1900000 \/ 1900010 < x) := fun x hx => by
 rw [zyh] at hx;have b := zA7 L p 5 (by omega);have h := getD_in (P := fun x : Int => x = 1 \/ x = 2 \/ x = 3) (l := [1, 1, 1, 2, 3]) (d := 0) (i := (nxN L p 5).toNat) (by decide) (by show _ < 5; omega);generalize ([1, 1, 1, 2, 3] : List Int).getD (nxN L p 5).toNat 0 = z at h hx;rw [w64, w64, w64] at hx
 rcases h with rfl | rfl | rfl <;> omega
theorem K37h : ∃ G : List Int -> List Ach, (∀ x : List Int, True -> (G x).length <= 7 /\ ∀ a ∈ G x, ARk a) /\ FnOK prog 37 (fun ds d => ∃ x, True /\ ds = [lngs x] /\ d = zAj 8 zCk (G x)) := by
 refine zEg call37 func37 rfl ntmps37 (α := List Int) (β := List Ach) (fun _ => True) (fun _ y => y.length <= 7 /\ ∀ a ∈ y, ARk a) (fun x => [lngs x]) (fun _ y => zAj 8 zCk y) ?_;rintro L _;refine ⟨by simp, ?_⟩;have b0 := zA7 L 0 8 (by omega)
 repeat' (first | (refine zD (K' := ?_) (s' := ?_) (fun F w0 fn hE => ?_) ?_; rotate_left 2; focus ((first | apply zB | fail); (repeat' (first | refine wA ?_ | refine zO [0] K90 qR qD qZ qF ?_ ⟨L, _, _, (by decide), rfl, rfl, rfl, rfl⟩ qS ?_ | refine zG K75 qD ?_ ⟨rfl, rfl⟩ qS ?_ | exact qT | exact hE | fail)))) | (refine zA3 qS qC qC ?_ ?_ <;> intro hb hc <;> try (simp at hc; done)))
 refine zD (fun _ _ _ hE => zX 6 65 8 (fun i => zCk (([] : List Ach).getD i default)) rfl rfl rfl hE) ?_;refine zDc [0, 2, 3, 4, 5, 6] (fun x : List Ach × Nat × Nat => [(7, .int .i64 x.2.2)]) (fun x => [(0, zD0 L x.2.1), (1, .acc 65 8 x.1.length (fun i => zCk (x.1.getD i default)))]) (fun x => (x.2.2 <= 7 /\ x.1.length = x.2.2) /\ ∀ a ∈ x.1, ARk a) (fun x => 7 - x.2.2) ([], nxA L 0, 0) (fun x => qS) ?_ qE qE ?_
 ·exact ⟨⟨by simp, rfl⟩, fun a ha => (by cases ha)⟩
 rintro ⟨acc, p, k⟩ n ⟨⟨h1, h2⟩, hda⟩ ih;have c1 := zA7 L p 5 (by omega);dsimp only at h1 h2 hda c1 |-
 repeat' (first | (refine zD (K' := ?_) (s' := ?_) (fun F w0 fn hE => ?_) ?_; rotate_left 2; focus ((first | refine wA ?_ | refine zF qR ?_ | fail); (repeat' (first | refine wA ?_ | refine zC qS qR ?_ ?_ | refine zM qS qR ?_ ?_ | refine zJ qK qK ?_ | refine zO [0] K90 qR qD qZ qF ?_ ⟨L, _, _, (by decide), rfl, rfl, rfl, rfl⟩ qS ?_ | refine zB3 [0] K90 qR qD qZ qF ?_ ⟨L, _, _, (by decide), rfl, rfl, rfl, rfl⟩ qS ?_ | exact hE | (show zAl _; simp only [zAl, go_sem, zB2]; (repeat' apply And.intro) <;> first | exact zz0 | exact (zA7 _ _ _ (by omega)).1 | exact (zA7 _ _ _ (by omega)).2 | (refine Int.lt_of_lt_of_le (zA7 _ _ _ (by omega)).2 (by omega)) | (intros; omega)) | exact qT | fail)))) | (refine zA3 qS qC qC ?_ ?_ <;> intro hb hc <;> try (simp at hc; done)))
 ·refine zQ ih ((acc ++ [⟨⟨?u50, ?u51⟩, ?u52, ?u53, ?u54, ?u55, ?u56, ?u57⟩], ?u58, k + 1)) ?_ ?_ ⟨rfl, qEa, qEa⟩
  ·refine ⟨⟨by simp only; omega, by simp; omega⟩, fun a ha => ?_⟩
   rcases List.mem_append.1 ha with ha | ha
   ·exact hda a ha
   ·rw [zyh] at ha; subst ha
    refine ⟨⟨yDe _, by simp, by simp⟩, fun x hx => ?_⟩;exact yJx L _ x hx
  ·simp only; omega
 ·refine zQ ih ((acc ++ [⟨⟨?u60, ?u61⟩, ?u62, ?u63, ?u64, ?u65, ?u66, ?u67⟩], ?u68, k + 1)) ?_ ?_ ⟨rfl, qEa, qEa⟩
  ·refine ⟨⟨by simp only; omega, by simp; omega⟩, fun a ha => ?_⟩
   rcases List.mem_append.1 ha with ha | ha
   ·exact hda a ha
   ·rw [zyh] at ha; subst ha
    refine ⟨⟨yDe _, by simp, by simp⟩, fun x hx => ?_⟩;exact yJw L _ (by omega) x hx
  ·simp only; omega
 ·refine zD (fun _ _ _ hE => zI 1 qS hE) ?_
  repeat' (first | (refine zD (K' := ?_) (s' := ?_) (fun F w0 fn hE => ?_) ?_; rotate_left 2; focus ((first | (show Run _ _ _ _ _ _; first | refine wA ?_ | refine zF qR ?_) | (show zAg _ _ _ _ _ _ _; first | refine wA ?_ | refine zC qS qR ?_ ?_ | refine zY qS qZ qZ (fun bn hbn => ?_) | refine zBt qF qR qS ?_) | (show zAs _ _ _ _ _ _ _ _ _ _; first | refine zM qS qR ?_ ?_ | refine zJ qK qK ?_) | exact qT | exact SLe.refl _ | exact zAc.bool rfl | refine zAc.bool ?_ | refine zAc.int ?_ | refine zAc.str ?_ | exact zAc.pure rfl | exact qM | exact qN | exact qP | fail); (repeat' (first | (show Run _ _ _ _ _ _; first | refine wA ?_ | refine zF qR ?_) | (show zAg _ _ _ _ _ _ _; first | refine wA ?_ | refine zC qS qR ?_ ?_ | refine zY qS qZ qZ (fun bn hbn => ?_) | refine zBt qF qR qS ?_) | (show zAs _ _ _ _ _ _ _ _ _ _; first | refine zM qS qR ?_ ?_ | refine zJ qK qK ?_) | exact qT | exact SLe.refl _ | exact hE | omega | exact zAc.bool rfl | refine zAc.bool ?_ | refine zAc.int ?_ | refine zAc.str ?_ | exact zAc.pure rfl | exact qM | exact qN | exact qP | fail)))) | (refine zA3 qS qC qC ?_ ?_ <;> intro hb hc <;> try (simp at hc; done)))
  (refine zR (ds := ?ds69) (⟨acc, ⟨by omega, hda⟩⟩ : {y : List Ach // y.length <= 7 /\ ∀ a ∈ y, ARk a}) qR ?qa69 ?qb69; (case qa69 => (simp only [go_sem]; rfl)); case' qb69 => (refine zAc.le qZ ?_; exact qE))
open Tryz bsD
@[go_sem] theorem fTa58 : yF 58 2 true 5 48 (yG 58 [.nils, .nils] (yH 58 0 0 1 22 (yI 58 1 1 1 (ftT prog 58 1 = some 22)))) := by and_intros <;> kernel_rfl
@[go_sem] theorem fTa80 : yF 80 1 false 9 8 (zcT prog 80 = some (.nilfn)) := by and_intros <;> kernel_rfl
@[go_sem] theorem fTa181 : yF 181 1 false 9 8 (zcT prog 181 = some (.nilfn)) := by and_intros <;> kernel_rfl
@[go_sem] theorem fTa186 : yF 186 1 false 1 24 (elT prog 186 = some 4 /\ zcT prog 186 = some (.nils)) := by and_intros <;> kernel_rfl
@[go_sem] theorem fTa191 : yF 191 1 false 6 8 (ikT prog 191 = some .u64 /\ zcT prog 191 = some (.int .u64 0)) := by and_intros <;> kernel_rfl
@[go_sem] theorem fTa226 : yF 226 1 false 9 8 (zcT prog 226 = some (.nilfn)) := by and_intros <;> kernel_rfl
@[go_sem] theorem fTa230 : yF 230 3 true 5 24 (yG 230 [.int .i64 0, .int .i64 0, .bool false] (yH 230 0 0 1 3 (yH 230 1 1 1 3 (yI 230 2 2 1 (ftT prog 230 2 = some 4))))) := by and_intros <;> kernel_rfl
@[go_sem] theorem fTa232 : yF 232 1 false 1 24 (elT prog 232 = some 3 /\ zcT prog 232 = some (.nils)) := by and_intros <;> kernel_rfl
@[go_sem] theorem fTa234 : yF 234 1 false 9 8 (zcT prog 234 = some (.nilfn)) := by and_intros <;> kernel_rfl
@[go_sem] theorem fTa237 : yF 237 1 false 6 4 (ikT prog 237 = some .u32 /\ zcT prog 237 = some (.int .u32 0)) := by and_intros <;> kernel_rfl
@[go_sem] theorem fTa239 : yF 239 1 false 6 8 (ikT prog 239 = some .u64 /\ zcT prog 239 = some (.int .u64 0)) := by and_intros <;> kernel_rfl
@[go_sem] theorem fTa257 : yF 257 1 false 6 8 (ikT prog 257 = some .i64 /\ zcT prog 257 = some (.int .i64 0)) := by and_intros <;> kernel_rfl
@[go_sem] theorem fTa279 : yF 279 1 false 6 8 (ikT prog 279 = some .u64 /\ zcT prog 279 = some (.int .u64 0)) := by and_intros <;> kernel_rfl
@[go_sem] theorem fTa283 : yF 283 1 false 9 8 (zcT prog 283 = some (.nilp)) := by and_intros <;> kernel_rfl
end Go.Sx
namespace Go.Sx
open Go.Proofs Tryz Go.RowKit
attribute [local irreducible] Run zAg zAs OpT zAc SLe OLe
def zC8 (m : Nat) : List Int := ((List.range 10).filter fun k : Nat => m.testBit k).map fun k : Nat => (k : Int)
def zQ7 (m k : Nat) : List Int := ((List.range k).filter fun k : Nat => m.testBit k).map fun k : Nat => (k : Int)
theorem zLk (m k : Nat) : zQ7 m (k + 1) = if m.testBit k then zQ7 m k ++ [(k : Int)] else zQ7 m k := by
 unfold zQ7;rw [List.range_succ, List.filter_append, List.map_append];cases h : m.testBit k <;> simp [h]
theorem zNx (m : Nat) : ∀ k, (zQ7 m k).length <= k
 | 0 => zyj _
 | k + 1 => by
  have := zNx m k;rw [zLk];split <;> simp <;> omega
theorem zS3 {m k : Nat} (h : m >>> k = 0) : ∀ j, zQ7 m (k + j) = zQ7 m k
 | 0 => rfl
 | j + 1 => by
  have h2 : m.testBit (k + j) = false := by
   rw [Nat.testBit_eq_decide_div_mod_eq, <- Nat.shiftRight_eq_div_pow, Nat.shiftRight_add, h];simp
  rw [<- Nat.add_assoc, zLk, h2, if_neg (by simp), zS3 h j]
theorem yBf {m k : Nat} (hk : k <= 10) (h : m >>> k = 0) : zQ7 m k = zC8 m := by
 have := zS3 h (10 - k);rw [show k + (10 - k) = 10 by omega] at this;exact this.symm
theorem K63 : FnOK prog 63 (fun ds d => ∃ m : Nat, m < 1024 /\ ds = [eInt (m : Nat)] /\ d = ints (zC8 m)) := by
 refine zAb call63 func63 rfl ntmps63 ?_;rintro ds d ⟨m, hm, rfl, rfl⟩;refine ⟨by simp, fun w0 => ?_⟩
 repeat' (first | refine wA ?_ | exact qT | fail)
 refine zX 2 3 1 (fun i => eInt (([] : List Int).getD i default)) rfl rfl rfl ?_;refine zH [0] (fun x : Nat × Unit => [(2, .acc 0), (3, .int .i64 x.1)]) (fun x => [(0, .acc 3 1 (zQ7 m x.1).length (fun i => eInt ((zQ7 m x.1).getD i default)))]) (fun x => x.1 <= 10) (fun x => 10 - x.1) (0, ()) (fun x => qS) ?_ qL qL ?_
 ·exact zz7 _
 rintro ⟨k, _⟩ hk;simp only at hk;have e1 : zL6 .i64 (m : Int) (k : Int) = ((m >>> k : Nat) : Int) := bshr m k (by omega);have e2 := yCd m k (by omega) (by omega);rw [e1] at e2;have hl := zNx m k
 repeat' (first | refine wB ?_ | refine zC (by simp only [go_sem, e1]; rfl) qR ?_ ?_ | exact rfl | exact qP | fail)
 (refine zAa qS qC qC ?_ ?_ <;> intro hb hc <;> try (simp at hc; done))
 ·have hpos : 0 < m >>> k := by omega
  have hk10 : k < 10 := by
   rcases Nat.lt_or_ge k 10 with h | h
   ·exact h
   ·exfalso
    obtain rfl : k = 10 := by omega
    have : m >>> 10 = 0 := by rw [Nat.shiftRight_eq_div_pow]; exact Nat.div_eq_of_lt hm
    omega
  have hs := zLk m k;cases hbit : m.testBit k
  ·rw [hbit, if_neg (by simp)] at hs e2
   repeat' (first | refine wB ?_ | refine zC (by simp only [go_sem, e1, e2]; rfl) qR ?_ ?_ | (refine zAa (by simp only [go_sem, e1, e2]; rfl) qC qC ?_ ?_ <;> intro hb hc <;> try (simp at hc; done)) | exact qT | exact qP | fail)
   refine zK (o' := .acc 3 1 (zQ7 m (k + 1)).length fun i => eInt ((zQ7 m (k + 1)).getD i default)) 0 qR (by rw [hs]; exact OLe.refl _) ?_
   repeat' (first | refine zL (k+1,()) ?_ ?_ ⟨rfl, qL, qL⟩ | omega)
  ·rw [hbit, if_pos rfl] at hs e2
   repeat' (first | refine wB ?_ | refine zC (by simp only [go_sem, e1, e2]; rfl) qR ?_ ?_ | exact rfl | exact qP | fail)
   (refine zAa qS qC qC ?_ ?_ <;> intro hb hc <;> try (simp at hc; done))
   repeat' (first | refine wB ?_ | refine zC (by simp only [go_sem, e1]; rfl) qR ?_ ?_ | exact qT | exact qP | fail)
   refine zK (o' := .acc 3 1 (zQ7 m (k + 1)).length fun i => eInt ((zQ7 m (k + 1)).getD i default)) 0 qR (by rw [hs]; exact zBl eInt (zQ7 m k) _ rfl) ?_
   repeat' (first | refine zL (k+1,()) ?_ ?_ ⟨rfl, qL, qL⟩ | omega)
 ·have h0 : m >>> k = 0 := by
   generalize m >>> k = z at hc |-;omega
  rw [<- yBf hk h0]
  repeat' (first | refine zI 0 qS ?_ | refine wA ?_ | refine zE qR ?_ | refine zF qR ?_ | exact qT | exact zAc.pure rfl | fail)
def zA2 {α : Type} [Inhabited α] (l : List α) (js : List Int) : List α := js.map fun k => l.getD k.toNat default
theorem zKk {α : Type} [Inhabited α] (l : List α) (js : List Int) : (zA2 l js).length = js.length := by simp [zA2]
theorem zPj {α : Type} [Inhabited α] (l : List α) (js : List Int) (i : Nat) (h : i < js.length) : zA2 l (js.take (i + 1)) = zA2 l (js.take i) ++ [l.getD (js.getD i default).toNat default] := by
 unfold zA2;rw [List.take_add_one, zz5 h, List.map_append, zz2 (l := js), zz5 h];rfl
theorem K66 : FnOK prog 66 (fun ds d => ∃ (l : List Int) (js : List Int), (js.length <= 1000 /\ ∀ k ∈ js, 0 <= k /\ k < (l.length : Int)) /\ ds = [ints l, ints js] /\ d = zAj 1 eInt (zA2 l js)) := by
 refine zAb call66 func66 rfl ntmps66 ?_;rintro ds d ⟨l, js, ⟨hl, hk⟩, rfl, rfl⟩;refine ⟨by simp, fun w0 => ?_⟩
 repeat' (first | refine wA ?_ | exact qT | fail)
 refine zX 4 3 1 (fun i => eInt (([] : List Int).getD i default)) rfl rfl rfl ?_;refine zH [0, 1, 7, 8] (fun x : Nat × Unit => [(4, .acc 0), (9, .int .i64 x.1)]) (fun x => [(0, .acc 3 1 (zA2 l (js.take x.1)).length (fun i => eInt ((zA2 l (js.take x.1)).getD i default)))]) (fun x => x.1 <= js.length) (fun x => js.length - x.1) (0, ()) (fun x => qS) ?_ qL qL ?_
 ·exact zz7 _
 rintro ⟨i, _⟩ hi;simp only at hi
 repeat' (first | refine wA ?_ | exact qT | fail)
 (refine zAa qS qC qC ?_ ?_ <;> intro hb hc <;> try (simp at hc; done))
 ·have hi2 : i < js.length := by omega
  have hj := hk _ (zAi hi2);have hs := zPj l js i hi2;have hle : (zA2 l (js.take i)).length <= 1000 := by rw [zKk, zyl]; omega
  obtain ⟨n, hn⟩ : ∃ n : Nat, js.getD i default = (n : Int) := ⟨(js.getD i default).toNat, by omega⟩;rw [hn] at hj hs;rw [zya] at hs;have hnl : n < l.length := by omega
  repeat' (first | refine wB ?_ | refine zC (by simp only [go_sem, hn, zya]; rfl) qR ?_ ?_ | exact qT | exact qP | fail)
  refine zK (o' := .acc 3 1 (zA2 l (js.take (i + 1))).length fun q => eInt ((zA2 l (js.take (i + 1))).getD q default)) 0 qR (by rw [hs]; exact zBl eInt (zA2 l (js.take i)) (l.getD n default) rfl) ?_
  repeat' (first | refine zL (i+1,()) ?_ ?_ ⟨rfl, qL, qL⟩ | omega)
 ·have hi2 : i = js.length := by omega
  subst hi2;rw [List.take_length]
  repeat' (first | refine zI 0 qS ?_ | refine wA ?_ | refine zE qR ?_ | refine zF qR ?_ | exact qT | exact zAc.pure rfl | fail)
theorem K60 : FnOK prog 60 (fun ds d => ∃ (l : List Ach) (js : List Int), (js.length <= 1000 /\ ∀ k ∈ js, 0 <= k /\ k < (l.length : Int)) /\ ds = [zAj 8 zCk l, ints js] /\ d = zAj 8 zCk (zA2 l js)) := by
 refine zAb call60 func60 rfl ntmps60 ?_;rintro ds d ⟨l, js, ⟨hl, hk⟩, rfl, rfl⟩;refine ⟨by simp, fun w0 => ?_⟩
 repeat' (first | refine wA ?_ | exact qT | fail)
 refine zX 4 65 8 (fun i => zCk (([] : List Ach).getD i default)) rfl rfl rfl ?_;refine zH [0, 1, 7, 8] (fun x : Nat × Unit => [(4, .acc 0), (9, .int .i64 x.1)]) (fun x => [(0, .acc 65 8 (zA2 l (js.take x.1)).length (fun i => zCk ((zA2 l (js.take x.1)).getD i default)))]) (fun x => x.1 <= js.length) (fun x => js.length - x.1) (0, ()) (fun x => qS) ?_ qL qL ?_
 ·exact zz7 _
 rintro ⟨i, _⟩ hi;simp only at hi
 repeat' (first | refine wA ?_ | exact qT | fail)
 (refine zAa qS qC qC ?_ ?_ <;> intro hb hc <;> try (simp at hc; done))
 ·have hi2 : i < js.length := by omega
  have hj := hk _ (zAi hi2);have hs := zPj l js i hi2;have hle : (zA2 l (js.take i)).length <= 1000 := by rw [zKk, zyl]; omega
  obtain ⟨n, hn⟩ : ∃ n : Nat, js.getD i default = (n : Int) := ⟨(js.getD i default).toNat, by omega⟩;rw [hn] at hj hs;rw [zya] at hs;have hnl : n < l.length := by omega
  repeat' (first | refine wB ?_ | refine zC (by simp only [go_sem, hn, zya]; rfl) qR ?_ ?_ | exact qT | exact qP | fail)
  refine zK (o' := .acc 65 8 (zA2 l (js.take (i + 1))).length fun q => zCk ((zA2 l (js.take (i + 1))).getD q default)) 0 qR (by rw [hs]; exact zBl zCk (zA2 l (js.take i)) (l.getD n default) rfl) ?_
  repeat' (first | refine zL (i+1,()) ?_ ?_ ⟨rfl, qL, qL⟩ | omega)
 ·have hi2 : i = js.length := by omega
  subst hi2;rw [List.take_length]
  repeat' (first | refine zI 0 qS ?_ | refine wA ?_ | refine zE qR ?_ | refine zF qR ?_ | exact qT | exact zAc.pure rfl | fail)
end Go.Sx
