/- Lemmas on the judge: P14, P15, P16. -/
import Derived.Test.YtmbocmonhcplhaaGreatP13
set_option linter.all false
set_option maxHeartbeats 20000000
set_option maxRecDepth 8000
namespace Go.Sx
open Go.Proofs Tryz Go.RowKit
attribute [local irreducible] Run zAg zAs OpT zAc SLe OLe
attribute [go_sem] zC7 zP7
def zBs (c : Case) : List Offer := c.Items.map fun x => zAf c x.Code
theorem zKl (c : Case) : (zBs c).length = c.Items.length := List.length_map ..
@[go_sem] def aOff (l : List Offer) : OB := .acc 76 5 l.length (fun i => zAt (l.getD i default))
theorem zXq (c : Case) {k : Nat} (hk : k < c.Items.length) : (zBs c).take (k + 1) = (zBs c).take k ++ [zAf c (c.Items.getD k default).Code] := by
 rw [List.take_add_one, zz5 (by rw [zKl]; exact hk)];simp [zBs, zz2, hk]
theorem yIi : dE [] = fun _ => false := by funext q; cases q <;> simp [dE]
theorem K68 : FnM prog 68 (fun ds os d os' => ∃ c : Case, c.Items.length <= 4 /\ ds = [zJ6 c] /\ os = [] /\ d = .loc 2 0 /\ os' = [(2, .var (cC c ++ [zAj 5 zAt (zBs c), .omap 1])), (1, oEn c (zBs c) [])]) := by
 refine zA8 call68 func68 rfl ntmps68 ?_;rintro ds os d os' ⟨c, h4, rfl, rfl, rfl, rfl⟩;refine ⟨by simp, fun F w0 => ?_⟩
 repeat' (first | refine wA ?_ | refine zFe ((vE c (zBs c))) qS qS ?_ | exact qT | fail)
 refine zCe 2 24 76 5 (fun i => zAt (([] : List Offer).getD i default)) rfl rfl (by simp only [List.set]; rfl) rfl ?_;refine zH [1, 3, 13, 14] (fun x : Nat × Unit => [(15, .int .i64 x.1)]) (fun x => [(3, aOff ((zBs c).take x.1))]) (fun x => x.1 <= c.Items.length) (fun x => c.Items.length - x.1) (0, ()) (fun x => qS) ?_ qL qL ?_
 ·exact zz7 _
 rintro ⟨k, _⟩ g1;simp only at g1;have hlt : ((zBs c).take k).length = k := by rw [zyl, zKl]; omega
 repeat' (first | refine wA ?_ | exact qT | fail)
 (refine zAa qS qC qC ?_ ?_ <;> intro hb hc <;> try (simp at hc; done))
 ·have hk : k < c.Items.length := by assumption
  have hof : (zDy (c.Items.getD k default).Code c.Offers).getD default = zAf c (c.Items.getD k default).Code := rfl;have htk := zXq c hk
  repeat' (first | refine wB ?_ | refine zC (by simp only [go_sem, hof]; rfl) qR ?_ ?_ | refine zM (by simp only [go_sem, hof]; rfl) qR ?_ ?_ | refine zJ qK qK ?_ | refine zF3 (by simp only [go_sem, hof]; rfl) ?_ (by simp only [go_sem, hof]; rfl) ?_ | refine zG K28 (by simp only [go_sem, hof]; first | done | rfl) ?_ ⟨c.Offers, _, rfl, rfl⟩ (by simp only [go_sem, hof]; rfl) ?_ | exact qT | exact qP | fail)
  refine zHz 6 3 qS ?_;refine zK (o' := aOff ((zBs c).take (k + 1))) 3 qR (by rw [htk]; exact OLe.snoc zAt _ (zAf c (c.Items.getD k default).Code) (SLe.refl _)) ?_;refine zL (k + 1, ()) ?_ ?_ ⟨rfl, qL, qL⟩
  ·show k + 1 <= c.Items.length
   omega
  ·show c.Items.length - (k + 1) < c.Items.length - k
   omega
 ·have hk : k = c.Items.length := by omega
  subst hk;have hT : (zBs c).take c.Items.length = zBs c := by rw [<- zKl c]; exact List.take_length
  rw [hT];refine zI 3 qS ?_;refine zK (o' := oEn c (zBs c) []) 1 qR (zC2 (by simp only [oEn, yIi, List.length_nil])) ?_
  repeat' (first | refine wA ?_ | refine zF qR ?_ | exact qT | fail)
  refine zV qR qS ?_ ?_
  ·exact SLe.refl _
  ·exact qO
theorem yIv (a b c d x : SD) (z : Int) : SLe (.tup [x, .agg [a, b, c, d], eInt z]) (.tup [.any, zJ7, eInt z]) := SLe.tup ⟨SLe.any _, SLe.agg ⟨SLe.any _, SLe.any _, SLe.any _, SLe.any _, trivial⟩, SLe.refl _, trivial⟩
noncomputable def zXf (c : Case) : Int := if (zHs c (zBs c) c.Items.length 0 0 []).1.isSome then 0 else 60
theorem K20 : FnOK prog 20 (fun ds d => ∃ c : Case, zEw c /\ ds = [zJ6 c] /\ d = .tup [.any, zJ7, eInt (zXf c)]) := by
 refine zAb call20 func20 rfl ntmps20 ?_;rintro ds d ⟨c, h, rfl, rfl⟩;refine ⟨by simp, fun w0 => ?_⟩;have h4 := h.items;have h3 := h.has;have hp := h.prog;have hb5 : 2 ^ (c.Items.length + 1) <= 2 ^ 5 := Nat.pow_le_pow_right (n := 2) (by omega) (by omega);have hb6 : ([] : List Nat).length + 2 ^ (c.Items.length + 1) <= 1000 := by simp only [List.length_nil]; omega
 have ihA : ∀ (D2 : List Nat) (r : Option Nat), zHs c (zBs c) c.Items.length 0 0 [] = (r, D2) -> FnM prog 69 (fun ds os d os' => ds = [zRq 0 0, eInt ((0 : Nat) : Int), .loc 1000 0, .loc 1003 0, .loc 1004 0] /\ os = [oPA, oP2 c (zBs c), oEn c (zBs c) [], oPN, oPC] /\ d = .tup [zJ7, .bool r.isSome] /\ os' = zAy 1000 [oPA, oP2 c (zBs c), oEn c (zBs c) D2, oPR c r, oPC]) := fun D2 r q4 =>
  ⟨(K69 c.Items.length).call, fun ds os d os' ⟨e1, e2, e3, e4⟩ => (K69 c.Items.length).ok ds os d os' ⟨c, zBs c, [], 0, 0, 0, ⟨⟨h4, zKl c, h3, hp⟩, by omega, by decide, by decide, hb6⟩, e1, e2, by rw [q4]; exact e3, by rw [q4]; exact e4⟩⟩
 repeat' (first | refine wA ?_ | refine zG K67 qD ?_ ⟨c, h, rfl, rfl⟩ qS ?_ | exact qT | fail)
 (refine zAa qS qC qC ?_ ?_ <;> intro hb hc <;> try (simp at hc; done))
 cases hR : zHs c (zBs c) c.Items.length 0 0 [] with
 | mk r D2 =>
 cases r with
 | some r =>
  have hE : zXf c = 0 := by rw [zXf, hR]; rfl
  rw [hE];have ih1 : FnM prog 69 (fun ds os d os' => ds = [zRq 0 0, eInt ((0 : Nat) : Int), .loc 1000 0, .loc 1003 0, .loc 1004 0] /\ os = [oPA, oP2 c (zBs c), oEn c (zBs c) [], oPN, oPC] /\ d = .tup [zJ7, .bool true] /\ os' = zAy 1000 [oPA, oP2 c (zBs c), oEn c (zBs c) D2, .var [zAj 2 zCv (itT c r c.Items.length)], oPC]) := ihA _ _ hR
  repeat' (first | refine wA ?_ | refine zO [] K68 qR qD qZ qF ?_ ⟨c, h4, rfl, rfl, rfl, rfl⟩ qS ?_ | refine zB7 [5, 4, 3, 6, 7] ih1 qF qR qD (by first | (simp only [go_sem]; done) | rfl) qF ?_ ⟨rfl, rfl, rfl, rfl⟩ qS ?_ | exact qT | fail)
  (refine zAa qS qC qC ?_ ?_ <;> intro hb hc <;> try (simp at hc; done))
  repeat' (first | refine wA ?_ | refine zT qR qS ?_ | exact qT | fail)
  exact zAc.le qZ (yIv _ _ _ _ _ _)
 | none =>
  have hE : zXf c = 60 := by rw [zXf, hR]; rfl
  rw [hE];have ih1 : FnM prog 69 (fun ds os d os' => ds = [zRq 0 0, eInt ((0 : Nat) : Int), .loc 1000 0, .loc 1003 0, .loc 1004 0] /\ os = [oPA, oP2 c (zBs c), oEn c (zBs c) [], oPN, oPC] /\ d = .tup [zJ7, .bool false] /\ os' = zAy 1000 [oPA, oP2 c (zBs c), oEn c (zBs c) D2, oPN, oPC]) := ihA _ _ hR
  repeat' (first | refine wA ?_ | refine zO [] K68 qR qD qZ qF ?_ ⟨c, h4, rfl, rfl, rfl, rfl⟩ qS ?_ | refine zB7 [5, 4, 3, 6, 7] ih1 qF qR qD (by first | (simp only [go_sem]; done) | rfl) qF ?_ ⟨rfl, rfl, rfl, rfl⟩ qS ?_ | exact qT | fail)
  (refine zAa qS qC qC ?_ ?_ <;> intro hb hc <;> try (simp at hc; done))
  repeat' (first | refine wA ?_ | refine zM qS qR ?_ ?_ | refine zJ qK qK ?_ | refine zT qR qS ?_ | exact zz0 | fail)
  exact zAc.le qZ (yIv _ _ _ _ _ _)
def zIc (k : Nat) (g : Nat -> Bool) : Nat -> Bool := fun j => if j < k then g j else if j = k then false else g (j - 1)
theorem zYh (g : Nat -> Bool) : (fun j => zIc 0 g (j + 1)) = g := funext fun j => by simp [zIc]
theorem zYi (k : Nat) (g : Nat -> Bool) : (fun j => zIc (k + 1) g (j + 1)) = zIc k fun j => g (j + 1) := funext fun j => by
 simp only [zIc];by_cases h1 : j < k
 ·rw [if_pos (by omega), if_pos h1]
 ·rw [if_neg (by omega), if_neg h1]
  by_cases h2 : j = k
  ·rw [if_pos (by omega), if_pos h2]
  ·rw [if_neg (by omega), if_neg h2]
   congr 1
   omega
theorem zNe {α : Type} (x : α) (b : List α) : ∀ (a : List α) (g : Nat -> Bool), zE4 (zIc a.length g) (a ++ x :: b) = zE4 g (a ++ b)
 | [], g => by
  rw [List.nil_append, List.nil_append, zE4, if_neg (by simp [zIc]), List.length_nil, zYh]
 | y :: r, g => by
  rw [List.cons_append, List.cons_append, zE4, zE4, List.length_cons, zYi, zNe x b r];have : zIc (r.length + 1) g 0 = g 0 := by simp [zIc]
  rw [this]
theorem zRk {k : Nat} {g : Nat -> Bool} : (∃ j, g j = true) -> ∃ j, zIc k g j = true := fun ⟨j, hj⟩ => by
 by_cases h : j < k
 ·exact ⟨j, by simp only [zIc]; rw [if_pos h]; exact hj⟩
 ·exact ⟨j + 1, by simp only [zIc]; rw [if_neg (by omega), if_neg (by omega)]; exact hj⟩
theorem zTi {k : Nat} {a g : Nat -> Bool} (h : ∀ j, a j = true -> g j = true) : ∀ j, zIc k a j = true -> zIc k g j = true := fun j hj => by
 simp only [zIc] at hj |-;split
 ·rename_i h1; rw [if_pos h1] at hj; exact h _ hj
 ·rename_i h1
  rw [if_neg h1] at hj;split
  ·rename_i h2; rw [if_pos h2] at hj; exact hj
  ·rename_i h2; rw [if_neg h2] at hj; exact h _ hj
theorem zYj (k : Nat) (a g : Nat -> Bool) : zIc k (fun j => g j && !a j) = fun j => zIc k g j && !zIc k a j := funext fun j => by
 simp only [zIc];split
 ·rfl
 ·split <;> rfl
theorem yFr {k n : Nat} {g : Nat -> Bool} (hk : k <= n) (h : ∀ j, g j = true -> j < n) : ∀ j, zIc k g j = true -> j < n + 1 := fun j hj => by
 simp only [zIc] at hj;split at hj
 ·omega
 ·split at hj
  ·cases hj
  ·have := h _ hj; omega
theorem yC9 {k : Nat} {sem sem' : Need -> (Nat -> Bool) -> Prop} {q : Bool} : ∀ (L : List Need) (B B' : Nat -> (Nat -> Bool) -> Prop), (∀ c ∈ L, ∀ g, sem c g -> sem' c (zIc k g)) -> (∀ i g, B i g -> B' i (zIc k g)) -> ∀ i g, zFm sem q L B i g -> zFm sem' q L B' i (zIc k g)
 | [], _, _, _, h, i, g, hk => h i g hk
 | c :: r, B, B', hs, h, i, g, hk => by
  refine yC9 r (zHx sem q c B) (zHx sem' q c B') (fun x hx => hs x (zyc _ hx)) (fun i g hst => ?_) i g hk
  rcases hst with ⟨h1, h2⟩ | ⟨i', a, h1, h2, h3, h4, h5⟩
  ·exact .inl ⟨h1, h i g h2⟩
  ·refine .inr ⟨i', zIc k a, h1, zRk h2, zTi h3, hs c zym a h4, ?_⟩
   rw [<- zYj];exact h i' _ h5
theorem yJ1 (s : Scale) (a b : List Ach) (x : Ach) : ∀ (d : Nat) (n : Need) (g : Nat -> Bool), zKw s (a ++ b) d n g -> zKw s (a ++ x :: b) d n (zIc a.length g) := by
 have leaf : ∀ (n : Need) (g : Nat -> Bool), zX9 n s (a ++ b) g -> zX9 n s (a ++ x :: b) (zIc a.length g) := fun n g h => ⟨zRk h.1, by
  rw [zEc, zNe, <- zEc]; exact h.2⟩
 intro d
 induction d with
 | zero => exact fun n g h => leaf n g h
 | succ d ih =>
  intro n g h
  rcases h with ⟨h1, h2⟩ | ⟨h1, h2, i, h3, h4⟩
  ·exact .inl ⟨h1, leaf n g h2⟩
  ·refine .inr ⟨h1, zRk h2, i, h3, yC9 n.L B0 B0 (fun c _ g h => ih c g h) (fun i g hB => ⟨hB.1, fun j => ?_⟩) i g h4⟩
   simp only [zIc, hB.2];split
   ·rfl
   ·split <;> rfl
def yDp (d : Nat) (p : Programme) (s : Scale) (y : List Ach) : Prop := ∃ m g : Nat -> Bool, (∀ j, m j = true -> j < y.length) /\ (∀ j, g j = true -> m j = true) /\ whL p (zE4 m y) = true /\ zKw s y d p.Need g
theorem yD1 {d : Nat} {p : Programme} {s : Scale} (a b : List Ach) (x : Ach) : yDp d p s (a ++ b) -> yDp d p s (a ++ x :: b) := fun ⟨m, g, h1, h2, h3, h4⟩ => by
 refine ⟨zIc a.length m, zIc a.length g, fun j hj => ?_, zTi h2, by rw [zNe]; exact h3, yJ1 s a b x d _ g h4⟩;have := yFr (k := a.length) (n := (a ++ b).length) (by rw [zye]; omega) h1 j hj;simp only [zye, List.length_cons] at this |-;omega
theorem yD0 {d : Nat} {p : Programme} {s : Scale} {l' l : List Ach} (h : l'.Sublist l) : ∀ pre : List Ach, yDp d p s (pre ++ l') -> yDp d p s (pre ++ l) := by
 induction h with
 | slnil => exact fun _ h => h
 | cons a _ ih => exact fun pre h => yD1 pre _ a (ih pre h)
 | cons_cons a _ ih =>
  intro pre h;have := ih (pre ++ [a]) (by simpa using h);simpa using this
theorem zRr {d : Nat} {p : Programme} {s : Scale} {l : List Ach} {day : Int} (hp : POk d p) (hck : zFx d p = 0) (hs : zA0 s = true) : zF7 d p s l day = true ↔ (zAu p day l).length <= 10 /\ yDp d p s (zAu p day l) := by
 rw [zYx hp hck hs];refine and_congr_right fun hy => ?_;have hV := zT4 hp hck;have ho := zI8 (p := p) (day := day) (l := l);generalize zAu p day l = y at hy ho |-;have hM : 2 ^ y.length <= 1024 := Nat.pow_le_pow_right (n := 2) (by omega) hy
 constructor
 ·rintro ⟨m, hm, h1, sub, h2, h3, h4⟩
  refine ⟨m.testBit, sub.testBit, fun j hj => zFv hm hj, fun j hj => ?_, ?_, (zG1 s y d p.Need 0 sub hV (by omega)).1 h4⟩
  ·rw [<- h3, Nat.testBit_and, zz3] at hj
   exact hj.2
  ·rw [<- zIe, <- zKa hy ho hm]; exact h1
 ·rintro ⟨m, g, h1, h2, h3, h4⟩
  obtain ⟨m, hm, rfl⟩ := bitsOf y.length m h1;obtain ⟨g, hg, rfl⟩ := bitsOf y.length g fun j hj => h1 j (h2 j hj);have hand : g &&& m = g := zGa h2;refine ⟨m, hm, ?_, g, ?_, hand, (zG1 s y d p.Need 0 g hV (by omega)).2 h4⟩
  ·rw [zKa hy ho hm, zIe]; exact h3
  ·have : g &&& m <= m := Nat.and_le_right
   omega
theorem yBz {d : Nat} {p : Programme} {s : Scale} {l' l : List Ach} {day : Int} (hp : POk d p) (hck : zFx d p = 0) (hs : zA0 s = true) (h : l'.Sublist l) (hl : l.length <= 10) (hd : zF7 d p s l' day = true) : zF7 d p s l day = true := by
 rw [zRr hp hck hs] at hd |-;refine ⟨Nat.le_trans (List.length_filter_le _ _) hl, ?_⟩;have := yD0 (d := d) (p := p) (s := s) (h.filter fun a => !zAz p day a) [] hd.2;exact this
def erA (a : Ach) : Ach := { a with Sources := [] }
theorem zKb {α β : Type} (f : α -> β) : ∀ (l : List α) (g : Nat -> Bool), zE4 g (l.map f) = (zE4 g l).map f
 | [], _ => rfl
 | a :: r, g => by
  rw [List.map_cons, zE4, zE4, zKb f r];split <;> rfl
theorem zQt {α : Type} : ∀ (l : List α) (g : Nat -> Bool), (zE4 g l).Sublist l
 | [], _ => List.Sublist.slnil
 | a :: r, g => by
  rw [zE4];split
  ·exact (zQt r _).cons_cons a
  ·exact (zQt r _).cons a
theorem zTa (n : Need) (s : Scale) : ∀ (l : List Ach) (x : Load), (l.map erA).foldl (ldF n s) x = l.foldl (ldF n s) x
 | [], _ => rfl
 | a :: r, x => by rw [List.map_cons, List.foldl_cons, List.foldl_cons, zTa n s r]; rfl
theorem zVy (n : Need) (s : Scale) (l : List Ach) (g : Nat -> Bool) : zDu n s (l.map erA) g = zDu n s l g := by
 rw [zEc, zEc, zKb, zTa]
theorem yEd (s : Scale) (l : List Ach) : ∀ d : Nat, zKw s (l.map erA) d = zKw s l d
 | 0 => by
  funext n g
  simp only [zKw, zX9, zVy]
 | d + 1 => by
  funext n g
  simp only [zKw, zX9, zVy, yEd s l d]
theorem yE9 (p : Programme) : ∀ (r t : List Ach), okX p (r.map erA) (t.map erA) = okX p r t
 | [], _ => rfl
 | a :: r, t => by
  have := yE9 p r (t ++ [a]);rw [List.map_append, List.map_cons, List.map_nil] at this;rw [List.map_cons, okX, okX, this, List.any_map];rfl
theorem zY0 : ∀ (l : List Ach) (z : Int), credits (l.map erA) z = credits l z
 | [], _ => rfl
 | a :: r, z => by rw [List.map_cons, credits, credits, zY0 r]; rfl
theorem yE4 (p : Programme) : ∀ (l : List Ach) (z : Int), zVp p (l.map erA) z = zVp p l z
 | [], _ => rfl
 | a :: r, z => by rw [List.map_cons, zVp, zVp, yE4 p r]; rfl
theorem zXb : ∀ L : List (Ach × Ach), L.Pairwise (fun x y => pair x.1 y.1 = pair x.2 y.2) -> pw pair (L.map Prod.fst) = pw pair (L.map Prod.snd)
 | [], _ => rfl
 | x :: r, h => by
  rw [List.pairwise_cons] at h;rw [List.map_cons, List.map_cons, pw, pw, zXb r h.2, List.all_map, List.all_map]
  congr 1
  rw [Bool.eq_iff_iff, List.all_eq_true, List.all_eq_true];exact ⟨fun q y hy => by have := q y hy; simp only [Function.comp] at this |-; rw [<- h.1 y hy]; exact this, fun q y hy => by have := q y hy; simp only [Function.comp] at this |-; rw [h.1 y hy]; exact this⟩
theorem zZ5 (p : Programme) (L : List (Ach × Ach)) (h1 : ∀ x ∈ L, erA x.1 = erA x.2) (h2 : L.Pairwise (fun x y => pair x.1 y.1 = pair x.2 y.2)) : whL p (L.map Prod.fst) = whL p (L.map Prod.snd) := by
 have e : (L.map Prod.fst).map erA = (L.map Prod.snd).map erA := by
  rw [List.map_map, List.map_map];exact List.map_congr_left h1
 have o1 := yE9 p (L.map Prod.fst) [];have o2 := yE9 p (L.map Prod.snd) [];rw [e] at o1;have o := o1.symm.trans o2;unfold whL;rw [zXb L h2, <- zY0 (L.map Prod.fst), <- yE4 p (L.map Prod.fst), e, zY0, yE4, o]
theorem zZ6 {d : Nat} {p : Programme} {s : Scale} (L : List (Ach × Ach)) (h1 : ∀ x ∈ L, erA x.1 = erA x.2) (h2 : L.Pairwise (fun x y => pair x.1 y.1 = pair x.2 y.2)) : yDp d p s (L.map Prod.fst) ↔ yDp d p s (L.map Prod.snd) := by
 have e : (L.map Prod.fst).map erA = (L.map Prod.snd).map erA := by
  rw [List.map_map, List.map_map];exact List.map_congr_left h1
 have hw : ∀ m, whL p (zE4 m (L.map Prod.fst)) = whL p (zE4 m (L.map Prod.snd)) := fun m => by
  rw [zKb, zKb];exact zZ5 p _ (fun x hx => h1 x (zK6 L m x hx)) (h2.sublist (zQt L m))
 have hs : zKw s (L.map Prod.fst) d = zKw s (L.map Prod.snd) d := by rw [<- yEd, e, yEd]
 unfold yDp;simp only [hw, hs, List.length_map]
theorem yB0 {d : Nat} {p : Programme} {s : Scale} {day : Int} (hp : POk d p) (hck : zFx d p = 0) (hs : zA0 s = true) (L : List (Ach × Ach)) (h1 : ∀ x ∈ L, erA x.1 = erA x.2) (h2 : L.Pairwise (fun x y => pair x.1 y.1 = pair x.2 y.2)) : zF7 d p s (L.map Prod.fst) day = zF7 d p s (L.map Prod.snd) day := by
 have ef : zAu p day (L.map Prod.fst) = (L.filter fun x => !zAz p day x.1).map Prod.fst := by rw [zAu, List.filter_map]; rfl
 have es : zAu p day (L.map Prod.snd) = (L.filter fun x => !zAz p day x.1).map Prod.snd := by
  rw [zAu, List.filter_map]
  congr 1
  refine List.filter_congr fun x hx => ?_;have := congrArg Ach.Day (h1 x hx);simp only [Function.comp, zAz];rw [show x.2.Day = x.1.Day from this.symm]
 rw [Bool.eq_iff_iff, zRr hp hck hs, zRr hp hck hs, ef, es, List.length_map, List.length_map];refine and_congr_right fun _ => zZ6 _ (fun x hx => h1 x ((List.mem_filter.1 hx).1)) (h2.sublist List.filter_sublist)
structure zZ1 (c : Case) : Prop where
 school : c.Programme.School = 1
 src : ∀ a ∈ c.Has, ∀ x ∈ a.Sources, 0 <= x /\ (x < 1900000 \/ 1900010 < x)
theorem zHp (c : Case) {k : Nat} (hk : k < c.Items.length) : (zBs c).getD k default = zAf c (c.Items.getD k default).Code := by
 rw [zz2, zBs, List.getElem?_map, zz5 hk, zz2, zz5 hk]; rfl
theorem zP2 {code : ByteArray} {o : Offer} : ∀ {l : List Offer}, zDy code l = some o -> o ∈ l
 | [], h => by cases h
 | x :: r, h => by
  rw [zDy] at h;split at h
  ·cases h; exact zym
  ·exact zyc _ (zP2 h)
theorem zPk {c : Case} (h : zEw c) {k : Nat} (hk : k < c.Items.length) : yG1 ((zBs c).getD k default) := by
 rw [zHp c hk];obtain ⟨i1, _, _⟩ := h.it _ (zAi hk);obtain ⟨o, ho⟩ := Option.isSome_iff_exists.1 i1;unfold zAf;rw [ho];exact (h.cat.off o (zP2 ho)).1
theorem zVx (c : Case) (l : List Offer) (i o : Nat) : zHw c l i o = 0 ↔ zT3 c l i = false /\ ndF c l i o = false /\ moF c l i = false /\ plF c l i = false /\ gE c l o = true := by
 unfold zHw;cases zT3 c l i <;> cases ndF c l i o <;> cases moF c l i <;> cases plF c l i <;> cases gE c l o <;> simp
theorem zA1 {n : Nat} {q : Nat -> Bool} : (List.range n).any q = false ↔ ∀ k, k < n -> q k = false := by
 rw [List.any_eq_false];simp only [zyp, Bool.not_eq_true]
theorem yIl {c : Case} (h : zEw c) (i : Nat) (t : Int) : ∀ k, k <= c.Items.length -> 0 <= crI c (zBs c) i t k /\ crI c (zBs c) i t k <= 60 * (k : Int)
 | 0, _ => by simp [crI]
 | k + 1, hk => by
  have ih := yIl h i t k (by omega);have ho := (zPk h (k := k) (by omega)).cr;have h4 := h.items;rw [crI];split
  ·rw [show wr (crI c (zBs c) i t k + ((zBs c).getD k default).Credits) = crI c (zBs c) i t k + ((zBs c).getD k default).Credits from by show IntKind.i64.wrap _ = _; rw [w64]; omega]
   omega
  ·omega
theorem zOl {c : Case} (h : zEw c) (i : Nat) (t : Int) {k : Nat} (hk : k < c.Items.length) : crI c (zBs c) i t (k + 1) = if i.testBit k && (c.Items.getD k default).Term == t then crI c (zBs c) i t k + ((zBs c).getD k default).Credits else crI c (zBs c) i t k := by
 have ih := yIl h i t k (by omega);have ho := (zPk h (k := k) (by omega)).cr;have h4 := h.items;rw [crI];split
 ·show IntKind.i64.wrap _ = _
  rw [w64]; omega
 ·rfl
theorem zY1 {c : Case} (h : zEw c) {i i' : Nat} (hi : ∀ j, j < c.Items.length -> i.testBit j = true -> i'.testBit j = true) (t : Int) : ∀ k, k <= c.Items.length -> crI c (zBs c) i t k <= crI c (zBs c) i' t k
 | 0, _ => by simp [crI]
 | k + 1, hk => by
  have ih := zY1 h hi t k (by omega);have ho := (zPk h (k := k) (by omega)).cr;rw [zOl h i t (by omega), zOl h i' t (by omega)];cases hb : i.testBit k
  ·simp only [Bool.false_and, Bool.false_eq_true, if_false]
   split <;> omega
  ·rw [hi k (by omega) hb]
   split <;> omega
theorem yIk {c : Case} (h : zEw c) (i : Nat) (t : Int) {k : Nat} : ∀ m, k + m <= c.Items.length -> crI c (zBs c) i t k <= crI c (zBs c) i t (k + m)
 | 0, _ => Int.le_refl _
 | m + 1, hm => by
  have ih := yIk h i t (k := k) m (by omega);have ho := (zPk h (k := k + m) (by omega)).cr;rw [<- Nat.add_assoc, zOl h i t (by omega)];split <;> omega
theorem zRu {c : Case} (h : zEw c) (i : Nat) (t z : Int) (hz : 0 <= z) : ∀ k, k <= c.Items.length -> z < crI c (zBs c) i t k -> ∃ j, j < k /\ i.testBit j = true /\ (c.Items.getD j default).Term = t /\ z < crI c (zBs c) i t (j + 1)
 | 0, _, h0 => by simp only [crI] at h0; omega
 | k + 1, hk, h0 => by
  by_cases hc : (i.testBit k && (c.Items.getD k default).Term == t) = true
  ·have hc2 := hc
   rw [zz3, beq_iff_eq] at hc2;exact ⟨k, by omega, hc2.1, hc2.2, h0⟩
  ·rw [zOl h i t (by omega), if_neg hc] at h0
   obtain ⟨j, h1, h2⟩ := zRu h i t z hz k (by omega) h0;exact ⟨j, by omega, h2⟩
theorem zY3 (c : Case) (t : Int) (x : Item) : ∀ (L : List Item) (z : Int), crT c (L ++ [x]) t z = if x.Term == t then wr (crT c L t z + (zAf c x.Code).Credits) else crT c L t z
 | [], z => by simp only [List.nil_append, crT]
 | y :: r, z => by rw [List.cons_append, crT, zY3 c t x r, crT]
theorem zY2 {c : Case} (i : Nat) (t : Int) : ∀ k, k <= c.Items.length -> crT c (itT c i k) t 0 = crI c (zBs c) i t k
 | 0, _ => rfl
 | k + 1, hk => by
  have ih := zY2 (c := c) i t k (by omega);rw [itT, crI];cases hb : i.testBit k
  ·rw [if_neg (by simp), List.append_nil, ih, Bool.false_and, if_neg (by simp)]
  ·rw [if_pos rfl, zY3, ih, zyg, zHp c (by omega)]
theorem zHq {c : Case} {i : Nat} {y : Item} : ∀ {k : Nat}, y ∈ itT c i k ↔ ∃ j, j < k /\ i.testBit j = true /\ y = c.Items.getD j default
 | 0 => by simp [itT]
 | k + 1 => by
  rw [itT, zyn, zHq (k := k)]
  constructor
  ·rintro (⟨j, h1, h2⟩ | h)
   ·exact ⟨j, by omega, h2⟩
   ·split at h
    ·rename_i hb
     exact ⟨k, by omega, hb, by simpa using h⟩
    ·cases h
  ·rintro ⟨j, h1, h2, h3⟩
   by_cases hj : j = k
   ·subst hj
    exact .inr (by rw [if_pos h2, h3]; simp)
   ·exact .inl ⟨j, by omega, h2, h3⟩
theorem yH8 {c : Case} {i : Nat} {R : Item -> Item -> Prop} : ∀ {k : Nat}, (itT c i k).Pairwise R ↔ ∀ a, a < k -> i.testBit a = true -> ∀ j, j < a -> i.testBit j = true -> R (c.Items.getD j default) (c.Items.getD a default)
 | 0 => by simp [itT]
 | k + 1 => by
  rw [itT, List.pairwise_append, yH8 (k := k)]
  constructor
  ·rintro ⟨h1, _, h3⟩ a ha hb j hj hbj
   by_cases hk : a = k
   ·subst hk
    exact h3 _ (zHq.2 ⟨j, hj, hbj, rfl⟩) _ (by rw [if_pos hb]; simp)
   ·exact h1 a (by omega) hb j hj hbj
  ·intro h
   refine ⟨fun a ha => h a (by omega), by split <;> simp, fun x hx y hy => ?_⟩;obtain ⟨j, h1, h2, rfl⟩ := zHq.1 hx;split at hy
   ·rename_i hb
    rw [zyh] at hy;subst hy;exact h k (by omega) hb j h1 h2
   ·cases hy
theorem yF8 (c : Case) (L : List Item) : zQa c L = true ↔ (∀ x ∈ L, okA c L x = false /\ zGt c L x (zAf c x.Code) = true) /\ L.Pairwise (fun y x => clI c x y = false) := by
 rw [zQa, List.all_eq_true, List.pairwise_iff_getElem];have gd : ∀ k (hk : k < L.length), L.getD k default = L[k] := fun k hk => by rw [zz2, zz5 hk]; rfl
 constructor
 ·intro h
  constructor
  ·intro x hx
   obtain ⟨k, hk, rfl⟩ := List.mem_iff_getElem.1 hx;have := h k (List.mem_range.2 hk);rw [okI, gd k hk, zz3, zz3] at this;exact ⟨by simpa using this.1.1, this.2⟩
  ·intro a b ha hb hab
   have := h b (List.mem_range.2 hb);rw [okI, gd b hb, zz3, zz3] at this;have h2 : (L.take b).any (clI c L[b]) = false := by simpa using this.1.2
   rw [List.any_eq_false] at h2;have h3 := h2 L[a] (List.mem_take_iff_getElem.2 ⟨a, by omega, rfl⟩);simpa using h3
 ·rintro ⟨h1, h2⟩ k hk
  rw [zyp] at hk;have h3 := h1 _ (List.getElem_mem hk);rw [okI, gd k hk, h3.1, h3.2]
  have : (L.take k).any (clI c L[k]) = false := by
   rw [List.any_eq_false];intro y hy;obtain ⟨a, ha, rfl⟩ := List.mem_take_iff_getElem.1 hy;rw [h2 a k (by omega) hk (by omega)];simp
  rw [this]; rfl
theorem yBl {c : Case} (h : zEw c) {i o : Nat} (hio : ∀ j, j < c.Items.length -> o.testBit j = !i.testBit j) : (zT3 c (zBs c) i = false /\ ndF c (zBs c) i o = false /\ moF c (zBs c) i = false /\ plF c (zBs c) i = false) ↔ zQa c (itT c i c.Items.length) = true := by
 have hbef : ∀ (t : Int) (n : ByteArray), zZf c o t n = (itT c i c.Items.length).any fun y => y.Code == n && decide (y.Term < t) := fun t n => by
  rw [zZf, Bool.eq_iff_iff, zyo, zyo]
  constructor
  ·rintro ⟨j, hj, hq⟩
   rw [zyp] at hj;rw [hio j hj, Bool.not_not, zz3] at hq;exact ⟨_, zHq.2 ⟨j, hj, hq.2, rfl⟩, hq.1⟩
  ·rintro ⟨y, hy, hq⟩
   obtain ⟨j, hj, hb, rfl⟩ := zHq.1 hy;exact ⟨j, List.mem_range.2 hj, by rw [hio j hj, hb, hq]; rfl⟩
 have hcl : ∀ k j, k < c.Items.length -> j < k -> yGy c (zBs c) k j = clI c (c.Items.getD k default) (c.Items.getD j default) := fun k j hk hj => by
  rw [yGy, clI, zHp c hk, zHp c (by omega), Bool.beq_comm, Bool.beq_comm (a := (c.Items.getD k default).Term)]
 rw [yF8, yH8, zT3, ndF, moF, plF, zA1, zA1, zA1, zA1];have hfound : ∀ k, k < c.Items.length -> (zDy (c.Items.getD k default).Code c.Offers).isSome = true := fun k hk => (h.it _ (zAi hk)).1
 constructor
 ·rintro ⟨h1, h2, h3, h4⟩
  refine ⟨fun x hx => ?_, fun a ha hb j hj hbj => ?_⟩
  ·obtain ⟨k, hk, hb, rfl⟩ := zHq.1 hx
   have g1 := h1 k hk;have g2 := h2 k hk;have g4 := h4 k hk;rw [clK, hb, zyg, Bool.or_eq_false_iff] at g1;rw [ndK, hb, zyg, zHp c hk] at g2;rw [plK, hb, zyg, zHp c hk] at g4;have ho := zPk h hk;rw [zHp c hk] at ho
   constructor
   ·rw [okA, hfound k hk, g1.1, zY2 i _ _ (zyj _)]
    have p1 : decide ((zAf c (c.Items.getD k default).Code).Places < 1) = false := zyq (by
     have := ho.pl;rw [beq_eq_false_iff_ne] at g4;omega)
    have p2 : decide (c.Most < crI c (zBs c) i (c.Items.getD k default).Term c.Items.length) = false := zyq fun hc => by
     obtain ⟨j, q1, q2, q3, q4⟩ := zRu h i _ c.Most h.most.1 _ (zyj _) hc;have := h3 j q1;rw [moK, decide_eq_false_iff_not, q3] at this;exact this q4
    rw [p1, p2]; rfl
   ·rw [zGt, List.all_eq_true]
    rw [List.any_eq_false] at g2;intro n hn;have := g2 n hn;rw [<- hbef];simp only [Bool.not_eq_true, Bool.and_eq_false_iff, Bool.not_eq_false'] at this;rw [Bool.or_eq_true];exact this
  ·have g1 := h1 a ha
   rw [clK, hb, zyg, Bool.or_eq_false_iff, zA1] at g1;have := g1.2 j hj;rw [hbj, zyg, hcl a j ha hj] at this;exact this
 ·rintro ⟨h1, h2⟩
  refine ⟨fun k hk => ?_, fun k hk => ?_, fun k hk => ?_, fun k hk => ?_⟩
  ·rw [clK]
   cases hb : i.testBit k
   ·rfl
   ·obtain ⟨g1, _⟩ := h1 _ (zHq.2 ⟨k, hk, hb, rfl⟩)
    rw [okA] at g1;simp only [Bool.or_eq_false_iff] at g1;rw [zyg, g1.1.2, Bool.false_or, zA1];intro j hj;cases hbj : i.testBit j
    ·rfl
    ·rw [zyg, hcl k j hk hj]
     exact h2 k hk hb j hj hbj
  ·rw [ndK]
   cases hb : i.testBit k
   ·rfl
   ·obtain ⟨_, g2⟩ := h1 _ (zHq.2 ⟨k, hk, hb, rfl⟩)
    rw [zGt, List.all_eq_true] at g2;rw [zyg, zHp c hk, List.any_eq_false];intro n hn;have := g2 n hn;rw [<- hbef, Bool.or_eq_true] at this;simp only [Bool.not_eq_true, Bool.and_eq_false_iff, Bool.not_eq_false'];exact this
  ·rw [moK, decide_eq_false_iff_not]
   intro hc;obtain ⟨j, q1, q2, q3, q4⟩ := zRu h i _ c.Most h.most.1 (k + 1) (by omega) hc;obtain ⟨g1, _⟩ := h1 _ (zHq.2 ⟨j, by omega, q2, rfl⟩);rw [okA, zY2 i _ _ (zyj _)] at g1;simp only [Bool.or_eq_false_iff, decide_eq_false_iff_not] at g1;have hle := yIk h i (c.Items.getD k default).Term (k := k + 1) (c.Items.length - (k + 1)) (by omega);rw [show k + 1 + (c.Items.length - (k + 1)) = c.Items.length by omega] at hle;rw [q3] at g1;exact g1.2 (by omega)
  ·rw [plK]
   cases hb : i.testBit k
   ·rfl
   ·obtain ⟨g1, _⟩ := h1 _ (zHq.2 ⟨k, hk, hb, rfl⟩)
    rw [okA] at g1;simp only [Bool.or_eq_false_iff, decide_eq_false_iff_not] at g1;rw [zyg, zHp c hk, beq_eq_false_iff_ne];have := g1.1.1.2;omega
def zVm (c : Case) (i : Nat) : Nat -> List (Ach × Ach)
 | 0 => c.Has.map fun a => (a, a)
 | k + 1 => zVm c i k ++ if i.testBit k then [(zZo c (zBs c) k, zZp c k)] else []
theorem zWk {c : Case} {i o : Nat} (hio : ∀ j, j < c.Items.length -> o.testBit j = !i.testBit j) : ∀ k, k <= c.Items.length -> (zVm c i k).map Prod.fst = zKv c (zBs c) o k
 | 0, _ => by rw [zVm, zKv, List.map_map]; exact List.map_id' _
 | k + 1, hk => by
  rw [zVm, zKv, List.map_append, zWk hio k (by omega), hio k (by omega)];cases i.testBit k <;> simp
theorem zWj {c : Case} {i : Nat} : ∀ k, (zVm c i k).map Prod.snd = acT c i k
 | 0 => by rw [zVm, acT, List.map_map]; exact List.map_id' _
 | k + 1 => by
  rw [zVm, acT, List.map_append, zWj k];cases i.testBit k <;> simp
theorem zQs {c : Case} {i : Nat} {x : Ach × Ach} : ∀ {k : Nat}, x ∈ zVm c i k -> (∃ a ∈ c.Has, x = (a, a)) \/ ∃ j, j < k /\ x = (zZo c (zBs c) j, zZp c j)
 | 0, h => by
  obtain ⟨a, ha, rfl⟩ := List.mem_map.1 h;exact .inl ⟨a, ha, rfl⟩
 | k + 1, h => by
  rw [zVm, zyn] at h
  rcases h with h | h
  ·rcases zQs h with h | ⟨j, h1, h2⟩
   ·exact .inl h
   ·exact .inr ⟨j, by omega, h2⟩
  ·split at h
   ·exact .inr ⟨k, by omega, by simpa using h⟩
   ·cases h
theorem yHg {c : Case} (h : zZ1 c) {k : Nat} (hk : k < 4) : (zZo c (zBs c) k).Sources = [1900000 + (k : Int)] := by
 have e : ∀ z : Int, z = 1 -> wr (wr (wr (1000000 * z) + 900000) + (k : Int)) = 1900000 + (k : Int) := fun z hz => by
  have e1 : wr (1000000 * z) = 1000000 := by subst hz; rfl
  have e2 : wr (1000000 + 900000) = 1900000 := rfl;rw [e1, e2];show IntKind.i64.wrap _ = _;rw [w64]; omega
 unfold zZo;simp only;rw [e _ h.school]
theorem yHh (c : Case) {k : Nat} (hk : k < 4) : (zZp c k).Sources = [-1 - (k : Int)] := by
 show [IntKind.i64.wrap (-1 - (k : Int))] = _;rw [w64]
 congr 1
 omega
theorem zG8 {a b : Ach} (h : ∀ x ∈ a.Sources, ∀ y ∈ b.Sources, x ≠ y) : pair a b = !zD2 a.Course b.Course := by
 have : (a.Sources.any fun x => b.Sources.any fun y => zJa a b x y) = false := by
  rw [List.any_eq_false];intro x hx;rw [Bool.not_eq_true, List.any_eq_false];intro y hy;rw [zJa, beq_eq_false_iff_ne.2 (h x hx y hy)];simp
 rw [pair, this, Bool.not_false, Bool.and_true]
theorem yCt {c : Case} (hg : zEw c) (h : zZ1 c) (i : Nat) : ∀ k, k <= c.Items.length -> (zVm c i k).Pairwise fun x y => pair x.1 y.1 = pair x.2 y.2
 | 0, _ => by
  rw [zVm, List.pairwise_map];exact List.pairwise_iff_getElem.2 fun _ _ _ _ _ => rfl
 | k + 1, hk => by
  have h4 := hg.items;rw [zVm, List.pairwise_append];refine ⟨yCt hg h i k (by omega), by split <;> simp, fun x hx y hy => ?_⟩;split at hy
  ·rw [zyh] at hy
   subst hy;simp only
   rcases zQs hx with ⟨a, ha, rfl⟩ | ⟨j, hj, rfl⟩
   ·have hs := h.src a ha
    rw [zG8 (b := zZo c (zBs c) k) fun x hx y hy => ?_, zG8 (b := zZp c k) fun x hx y hy => ?_]
    ·rfl
    ·rw [yHh c (by omega), zyh] at hy
     have := hs x hx;omega
    ·rw [yHg h (by omega), zyh] at hy
     have := hs x hx;omega
   ·rw [zG8 (b := zZo c (zBs c) k) fun x hx y hy => ?_, zG8 (b := zZp c k) fun x hx y hy => ?_]
    ·rfl
    ·rw [yHh c (by omega), zyh] at hx hy
     omega
    ·rw [yHg h (by omega), zyh] at hx hy
     omega
  ·cases hy
theorem yDb {c : Case} (h : zEw c) (o : Nat) : gE c (zBs c) o = zF7 4 c.Programme c.Scale (zKv c (zBs c) o c.Items.length) (zCz c) := by
 rw [gE, (zVf h.prog).1, Bool.eq_iff_iff, beq_iff_eq, zyf]
theorem yBk {c : Case} (hg : zEw c) (h : zZ1 c) {i o : Nat} (hio : ∀ j, j < c.Items.length -> o.testBit j = !i.testBit j) : gE c (zBs c) o = zF7 4 c.Programme c.Scale (acT c i c.Items.length) (zCz c) := by
 rw [yDb hg, <- zWk hio _ (zyj _), <- zWj];refine yB0 hg.prog hg.chk hg.scale _ (fun x hx => ?_) (yCt hg h i _ (zyj _))
 rcases zQs hx with ⟨a, _, rfl⟩ | ⟨j, hj, rfl⟩
 ·rfl
 ·simp only [erA, zZo, zZp, zHp c hj]
def yJd (c : Case) (ch : Nat) : Bool := zQa c (itT c ch c.Items.length) && zF7 4 c.Programme c.Scale (acT c ch c.Items.length) (zCz c)
theorem zS8 {c : Case} (hg : zEw c) (h : zZ1 c) {i o : Nat} (hio : ∀ j, j < c.Items.length -> o.testBit j = !i.testBit j) : zHw c (zBs c) i o = 0 ↔ yJd c i = true := by
 rw [zVx, yJd, zz3, <- yBl hg hio, yBk hg h hio]
 constructor
 ·rintro ⟨h1, h2, h3, h4, h5⟩; exact ⟨⟨h1, h2, h3, h4⟩, h5⟩
 ·rintro ⟨⟨h1, h2, h3, h4⟩, h5⟩; exact ⟨h1, h2, h3, h4, h5⟩
theorem zUe {c : Case} {o o' : Nat} (ho : ∀ j, j < c.Items.length -> o.testBit j = true -> o'.testBit j = true) : ∀ k, k <= c.Items.length -> (zKv c (zBs c) o' k).Sublist (zKv c (zBs c) o k)
 | 0, _ => List.Sublist.refl _
 | k + 1, hk => by
  rw [zKv, zKv];refine (zUe ho k (by omega)).append ?_;cases hb : o.testBit k
  ·cases o'.testBit k <;> simp
  ·rw [ho k (by omega) hb]; simp
theorem zZ4 {c : Case} (hg : zEw c) {i i' o o' : Nat} (hi : ∀ j, j < c.Items.length -> i.testBit j = true -> i'.testBit j = true) (ho : ∀ j, j < c.Items.length -> o.testBit j = true -> o'.testBit j = true) (h : zHw c (zBs c) i' o' = 0) : zHw c (zBs c) i o = 0 := by
 rw [zVx] at h |-;obtain ⟨h1, h2, h3, h4, h5⟩ := h;rw [zT3, zA1] at h1;rw [ndF, zA1] at h2;rw [moF, zA1] at h3;rw [plF, zA1] at h4;refine ⟨?_, ?_, ?_, ?_, ?_⟩
 ·rw [zT3, zA1]
  intro k hk;have g := h1 k hk;rw [clK] at g |-;cases hb : i.testBit k
  ·rfl
  ·rw [hi k hk hb, zyg, Bool.or_eq_false_iff, zA1] at g
   rw [zyg, g.1, Bool.false_or, zA1];intro j hj;have g2 := g.2 j hj;cases hbj : i.testBit j
   ·rfl
   ·rw [hi j (by omega) hbj] at g2
    exact g2
 ·rw [ndF, zA1]
  intro k hk;have g := h2 k hk;rw [ndK] at g |-;cases hb : i.testBit k
  ·rfl
  ·rw [hi k hk hb, zyg, List.any_eq_false] at g
   rw [zyg, List.any_eq_false];intro n hn;have g2 := g n hn;simp only [Bool.not_eq_true, Bool.and_eq_false_iff, Bool.not_eq_false'] at g2 |-;refine g2.imp id fun hbf => ?_;rw [zZf, zyo] at hbf |-;obtain ⟨j, hj, hq⟩ := hbf;refine ⟨j, hj, ?_⟩;rw [zyp] at hj;rw [zz3] at hq |-;refine ⟨hq.1, ?_⟩;cases hob : o.testBit j
   ·rfl
   ·rw [ho j hj hob] at hq
    cases hq.2
 ·rw [moF, zA1]
  intro k hk;have g := h3 k hk;rw [moK, decide_eq_false_iff_not] at g |-;have := zY1 hg hi (c.Items.getD k default).Term (k + 1) (by omega);omega
 ·rw [plF, zA1]
  intro k hk;have g := h4 k hk;rw [plK] at g |-;cases hb : i.testBit k
  ·rfl
  ·rw [hi k hk hb] at g
   exact g
 ·rw [yDb hg] at h5 |-
  have hl := zOv c (zBs c) o c.Items.length;have h3 := hg.has;have h4 := hg.items;exact yBz hg.prog hg.chk hg.scale (zUe ho _ (zyj _)) (by omega) h5
theorem or_bit (i a j : Nat) : (i ||| 2 ^ a).testBit j = (i.testBit j || decide (a = j)) := by
 rw [Nat.testBit_or, Nat.testBit_two_pow]
def Ext (c : Case) (a i o ch : Nat) : Prop := ch < 2 ^ c.Items.length /\ ∀ j, j < a -> ch.testBit j = i.testBit j /\ ch.testBit j = !o.testBit j
theorem zRt {c : Case} (hg : zEw c) (h : zZ1 c) : ∀ (m a i o : Nat) (D : List Nat), a + m = c.Items.length -> i < 2 ^ a -> o < 2 ^ a -> (∀ j, j < a -> o.testBit j = !i.testBit j) -> ((zHs c (zBs c) m i o D).1.isSome = true ↔ ∃ ch, Ext c a i o ch /\ yJd c ch = true)
 | 0, a, i, o, D, ha, hi, ho, hio => by
  have e : a = c.Items.length := by omega
  subst e;rw [zHs];have hw := zS8 hg h hio
  constructor
  ·intro hs
   by_cases hq : zHw c (zBs c) i o = 0
   ·exact ⟨i, ⟨hi, fun j hj => ⟨rfl, by rw [hio j hj, Bool.not_not]⟩⟩, hw.1 hq⟩
   ·rw [if_neg hq] at hs; cases hs
  ·rintro ⟨ch, ⟨h1, h2⟩, h3⟩
   have : ch = i := Nat.eq_of_testBit_eq fun j => by
    by_cases hj : j < c.Items.length
    ·exact (h2 j hj).1
    ·rw [Nat.testBit_lt_two_pow (Nat.lt_of_lt_of_le h1 (Nat.pow_le_pow_right (n := 2) (by omega) (by omega))), Nat.testBit_lt_two_pow (Nat.lt_of_lt_of_le hi (Nat.pow_le_pow_right (n := 2) (by omega) (by omega)))]
   subst this;rw [if_pos (hw.2 h3)]; rfl
 | m + 1, a, i, o, D, ha, hi, ho, hio => by
  have hat : c.Items.length - (m + 1) = a := by omega
  have bi : ∀ x, x < 2 ^ a -> ∀ j, a <= j -> x.testBit j = false := fun x hx j hj => Nat.testBit_lt_two_pow (Nat.lt_of_lt_of_le hx (Nat.pow_le_pow_right (n := 2) (by omega) hj));have lt2 : ∀ x, x < 2 ^ a -> x < 2 ^ (a + 1) := fun x hx => Nat.lt_trans hx (Nat.pow_lt_pow_right (by omega) (by omega))
  have i1 := zRt hg h m (a + 1) (i ||| 2 ^ a) o (zGj c (zBs c) i o D) (by omega) (zSw hi) (lt2 o ho) (fun j hj => by
   rw [or_bit];by_cases hja : a = j
   ·subst hja; rw [bi o ho a (zyj _), zyr rfl, Bool.or_true]; rfl
   ·rw [zyq hja, Bool.or_false, hio j (by omega)])
  have i2 := zRt hg h m (a + 1) i (o ||| 2 ^ a) (zHs c (zBs c) m (i ||| 2 ^ a) o (zGj c (zBs c) i o D)).2 (by omega) (lt2 i hi) (zSw ho) (fun j hj => by
   rw [or_bit];by_cases hja : a = j
   ·subst hja; rw [bi i hi a (zyj _), zyr rfl, Bool.or_true]; rfl
   ·rw [zyq hja, Bool.or_false, hio j (by omega)])
  rw [zHs, hat]
  constructor
  ·intro hs
   by_cases hq : zHw c (zBs c) i o = 0
   ·rw [if_pos hq] at hs
    by_cases hr : (zHs c (zBs c) m (i ||| 2 ^ a) o (zGj c (zBs c) i o D)).1.isSome = true
    ·obtain ⟨ch, ⟨g1, g2⟩, g3⟩ := i1.1 hr
     refine ⟨ch, ⟨g1, fun j hj => ⟨?_, (g2 j (by omega)).2⟩⟩, g3⟩;rw [(g2 j (by omega)).1, or_bit, zyq (by omega), Bool.or_false]
    ·rw [if_neg hr] at hs
     obtain ⟨ch, ⟨g1, g2⟩, g3⟩ := i2.1 hs;refine ⟨ch, ⟨g1, fun j hj => ⟨(g2 j (by omega)).1, ?_⟩⟩, g3⟩;rw [(g2 j (by omega)).2, or_bit, zyq (by omega), Bool.or_false]
   ·rw [if_neg hq] at hs; cases hs
  ·rintro ⟨ch, ⟨g1, g2⟩, g3⟩
   have hq : zHw c (zBs c) i o = 0 := by
    obtain ⟨oc, hoc, hob⟩ := bitsOf c.Items.length (fun j => decide (j < c.Items.length) && !ch.testBit j) fun j hj => by
     rw [zz3, zyf] at hj; exact hj.1
    have hob : ∀ j, j < c.Items.length -> oc.testBit j = !ch.testBit j := fun j hj => by rw [hob]; simp only [zyr hj, zyg]
    refine zZ4 hg (fun j hj hb => ?_) (fun j hj hb => ?_) ((zS8 hg h hob).2 g3)
    ·by_cases hja : j < a
     ·rw [(g2 j hja).1]; exact hb
     ·rw [bi i hi j (by omega)] at hb; cases hb
    ·by_cases hja : j < a
     ·rw [hob j hj, (g2 j hja).2, hb]; rfl
     ·rw [bi o ho j (by omega)] at hb; cases hb
   rw [if_pos hq];cases hb : ch.testBit a
   ·by_cases hr : (zHs c (zBs c) m (i ||| 2 ^ a) o (zGj c (zBs c) i o D)).1.isSome = true
    ·rw [if_pos hr]; exact hr
    ·rw [if_neg hr]
     refine i2.2 ⟨ch, ⟨g1, fun j hj => ?_⟩, g3⟩;rw [or_bit];by_cases hja : a = j
     ·subst hja; rw [hb, bi i hi a (zyj _), zyr rfl, Bool.or_true]; exact ⟨rfl, rfl⟩
     ·rw [zyq hja, Bool.or_false]; exact g2 j (by omega)
   ·have hr : (zHs c (zBs c) m (i ||| 2 ^ a) o (zGj c (zBs c) i o D)).1.isSome = true := i1.2 ⟨ch, ⟨g1, fun j hj => by
     rw [or_bit];by_cases hja : a = j
     ·subst hja; rw [hb, bi o ho a (zyj _), zyr rfl, Bool.or_true]; exact ⟨rfl, rfl⟩
     ·rw [zyq hja, Bool.or_false]; exact g2 j (by omega)⟩, g3⟩
    rw [if_pos hr]; exact hr
theorem yBa {c : Case} (hg : zEw c) (h : zZ1 c) : zZy 4 c = decide (zXf c = 0) := by
 have e : zXf c = 0 ↔ (zHs c (zBs c) c.Items.length 0 0 []).1.isSome = true := by
  unfold zXf;split <;> simp_all
 rw [Bool.eq_iff_iff, zyf, e, zRt hg h c.Items.length 0 0 0 [] (by omega) (by simp) (by simp) (fun j hj => by omega)];show ((List.range (2 ^ c.Items.length)).any fun ch => yJd c ch) = true ↔ _;rw [zyo]
 constructor
 ·rintro ⟨ch, h1, h2⟩
  exact ⟨ch, ⟨List.mem_range.1 h1, fun j hj => by omega⟩, h2⟩
 ·rintro ⟨ch, ⟨h1, _⟩, h2⟩
  exact ⟨ch, List.mem_range.2 h1, h2⟩
end Go.Sx
