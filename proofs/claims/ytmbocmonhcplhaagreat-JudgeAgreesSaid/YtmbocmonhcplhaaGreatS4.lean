/- Part of the proof that the laws of the judge return true for every input: SxRg, SxRh, SxRi, SxRk, SxBo, SxCv, SxZs, SxMk, SxJn, SxCl, SxLn, SxDr, SxRw, SxRn, SxLv, SxHd, SxIv, SxLk, SxTa, SxVm, SxSc. -/
import Derived.Test.YtmbocmonhcplhaaGreatS3
import Derived.Scope
set_option linter.all false
namespace Go.Sx
open Go.RowKit
open Go.ChangeMaps (setBlock)
structure LR where
 l : Nat
 fn : Nat
 tm : Array Value
 ps : Array Nat
 as : Code
 bd : Code
 dfr : Nat
def LR.loop (r : LR) (st : LoopState) (pe : Option Code) : Loop := { state := st, pending := pe, fn := r.fn, tmps := r.tm, params := r.ps, assign := r.as, body := r.bd, defers := r.dfr }
def zG6 (o : Obj) (K : Option Nat) : OB := .mp ⟨none, 0, fun _ => false, fun _ => .any, some (.raw o K)⟩ []
def zEu (r : LR) (st : LoopState) (pe : Option Code) : OB := zG6 (.loop (r.loop st pe)) (some r.l)
theorem zMf {h : Hp} {e : Nm} {w : World} {k : Nat} {o : Obj} {K : Option Nat} (x : zDp h e w k (zG6 o K)) : w.heap[e.bs k]? = some o ∧ ∀ b, K = some b → e.bs k = b := by
 obtain ⟨o', h1, h2, h3⟩ := x
 subst h2
 exact ⟨h1, h3⟩
theorem yGd {h : Hp} {e : Nm} {w : World} {k : Nat} {o : Obj} {K : Option Nat} (h1 : w.heap[e.bs k]? = some o) (h2 : ∀ b, K = some b → e.bs k = b) : zDp h e w k (zG6 o K) := ⟨o, h1, rfl, h2⟩
theorem yAi.setRaw {F : List Nat} {w0 w : World} {ow ow' : List (Nat × OB)} {h : Hp} {e : Nm} {k : Nat} {o o' : Obj} {K : Option Nat} (O : yAi F w0 ow h e w) (hk : lkO ow k = some (zG6 o K)) (hk' : lkO ow' k = some (zG6 o' K)) (hne : ∀ j, j ≠ k → lkO ow' j = lkO ow j) : yAi F w0 ow' h e (w.putObj (e.bs k) o') := by
 obtain ⟨hb, hK⟩ := zMf (O.own k _ hk)
 have hlt := (Array.getElem?_eq_some_iff.1 hb).1
 have hbk : (zG6 o K).blk e k = some (e.bs k) := rfl
 have key : ∀ j x, lkO ow' j = some x → ∃ y, lkO ow j = some y ∧ x.blk e j = y.blk e j := fun j x hj => by
  by_cases hjk : j = k
  ·subst hjk
   rw [hk'] at hj;cases hj;exact ⟨_, hk, rfl⟩
  ·rw [hne j hjk] at hj
   exact ⟨x, hj, rfl⟩
 refine ⟨fun j x hj => ?_, fun j x b hj hxb => ?_, fun j j' x x' b hjj hj hj' hxb => ?_⟩
 ·by_cases hjk : j = k
  ·subst hjk
   rw [hk'] at hj;cases hj;exact yGd (World.putObj_heap_same hlt) hK
  ·rw [hne j hjk] at hj
   refine zDi (Le.refl h) (fun b hxb => World.putObj_heap_other fun hc => ?_) (O.own j x hj);subst hc;exact O.apart j k x _ _ hjk hj hk hxb hbk
 ·obtain ⟨y, hy, hyb⟩ := key j x hj
  rw [hyb] at hxb;exact O.ownb j y b hy hxb
 ·obtain ⟨y, hy, hyb⟩ := key j x hj
  obtain ⟨y', hy', hyb'⟩ := key j' x' hj';rw [hyb] at hxb;rw [hyb'];exact O.apart j j' y y' b hjj hy hy' hxb
def yCd (F : List Nat) (w0 : Base) (s : St) : Act → World → Prop := fun a w => ∃ h e, Den F w0 s h e a w
theorem zJi {P : Program} {F : List Nat} {w0 : Base} {fin : Exit → Act → World → Prop} {k : List It} {s : St} : Run P F w0 fin (.lp (yCd F w0 s) :: k) s := fun h e _ _ D => ⟨h, e, D⟩
def zOk : Exit → Option (Option Code)
 | .normal => some none
 | .ret => some (some .ret)
 | .exit id => some (some (.exit id))
 | _ => none
def yGr (F : List Nat) (w0 : zB0) (osb : List (Nat × OB)) (pe : Option Code) : Exit → Act → World → Prop := fun ex _ w => zOk ex = some pe ∧
 ∃ h e, Le w0.h h ∧ Sub h w ∧ zEt F w0.w w ∧ (∀ b, b < w0.w.heap.size → h b = w0.h b) ∧ (∀ (i b : Nat), w0.fix[i]? = some b → e.bs (1000 + i) = b) ∧ yAi F w0.w osb h e w
def zPr : List Nat → List SD → List (Nat × SD) → List (Nat × SD)
 | p :: ps, d :: ds, l => zPr ps ds (upd l p d)
 | _, _, l => l
theorem zQ5 {h : Hp} {e : Nm} : ∀ (ps : List Nat) (ds : List SD) (vs : List Value) (sl : List (Nat × SD)) (tm : Array Value), repT h ds e vs → (∀ p ∈ ps, p < tm.size) → (∀ t, rep h (lkp sl t) e (tm.getD t undef)) →
  (((ps.zip vs).foldl (fun t (p : Nat × Value) => t.setIfInBounds p.1 p.2) tm).size = tm.size) ∧ ∀ t, rep h (lkp (zPr ps ds sl) t) e (((ps.zip vs).foldl (fun t (p : Nat × Value) => t.setIfInBounds p.1 p.2) tm).getD t undef)
 | [], ds, vs, sl, tm, _, _, h => by simpa [zPr] using h
 | p :: ps, [], vs, sl, tm, hr, _, h => by simp only [repT] at hr; subst hr; simpa [zPr] using h
 | p :: ps, d :: ds, vs, sl, tm, hr, hp, h => by
  simp only [repT] at hr;obtain ⟨v, vs', rfl, h1, h2⟩ := hr;simp only [List.zip_cons_cons, List.foldl_cons, zPr]
  have := zQ5 ps ds vs' (upd sl p d) (tm.setIfInBounds p v) h2 (fun q hq => by simpa using hp q (by simp [hq])) (fun t => by
   rw [zCg, zJx _ _ _ _ (hp p (by simp))];by_cases ht : t = p
   ·simp only [ht, if_true]; exact h1
   ·simp only [ht, if_false]; exact h t)
  exact ⟨this.1.trans (by simp), this.2⟩
theorem Den.ownP {F : List Nat} {w0 : Base} {s : St} {h : Hp} {e : Nm} {a : Act} {w : World} (D : Den F w0 s h e a w) {os' : List (Nat × OB)} (ho : zC2 s.ow os') : yAi F w0.w os' h e w := by
 have key : ∀ j o, lkO os' j = some o → ∃ o0, lkO s.ow j = some o0 ∧ OLe o0 o := fun j o hj => zFx ho j o hj
 refine ⟨fun j o hj => ?_, fun j o b hj hb => ?_, fun j j' o o' b hne hj hj' hb => ?_⟩
 ·obtain ⟨o0, g1, g2⟩ := key j o hj
  exact g2.ok (D.own j o0 g1)
 ·obtain ⟨o0, g1, g2⟩ := key j o hj
  rw [g2.blk] at hb;exact D.ownb j o0 b g1 hb
 ·obtain ⟨o0, g1, g2⟩ := key j o hj
  obtain ⟨o1, g3, g4⟩ := key j' o' hj';rw [g2.blk] at hb;rw [g4.blk];exact D.apart j j' o0 o1 b hne g1 g3 hb
section
variable {P : Program} {F : List Nat} {b0 : zB0} {l : Nat} {k : List It} {s : St} {osb : List (Nat × OB)}
theorem zMd (ho : zC2 s.ow osb) : Run P F ⟨b0, some l, []⟩ (yGr F b0 osb (some .ret)) (.code .ret :: k) s := fun h e a w D =>
 wpIn_ret (zCc ⟨rfl, h, e, D.le, D.sub, D.keeps, D.neww, D.fix, D.ownP ho⟩)
theorem zE9 (ho : zC2 s.ow osb) : Run P F ⟨b0, some l, []⟩ (yGr F b0 osb none) [] s := fun h e a w D => ⟨rfl, h, e, D.le, D.sub, D.keeps, D.neww, D.fix, D.ownP ho⟩
end
theorem zNo {P : Program} {h0 : Hp} {bl : List Nat} {R : List SD → List OB → SD → List (Nat × OB) → Prop} (r : LR) (slE : List (Nat × SD)) (n : Nat) (l : Nat) (hl : r.l = l) (hsz : r.tm.size = n) (hps : ∀ p ∈ r.ps.toList, p < n)
  (hsl : ∀ h e, Le h0 h → (∀ (i b : Nat), bl[i]? = some b → e.bs (1000 + i) = b) → ∀ t, rep h (lkp slE t) e (r.tm.getD t undef))
  (hrun : ∀ ds os d os', R ds os d os' → ∃ (osu osu' : List OB) (pe : Option Code) (sA : St), os = osu ++ [zEu r .ready none] ∧ d = .bool pe.isNone ∧ os' = zB6 1000 (osu' ++ [zEu r (if pe.isNone then .ready else .done) pe]) ∧ osu'.length = osu.length ∧
   bl.length = os.length ∧ ds.length = r.ps.size ∧
   (∀ F w0, Anch h0 bl w0 → Run P F ⟨w0, some l, []⟩ (fun _ _ _ => False) [.code r.as, .lp (yCd F ⟨w0, some l, []⟩ sA)] ⟨n, 0, zPr r.ps.toList ds slE, zB6 1000 os⟩) ∧
   lkO sA.ow (1000 + osu.length) = some (zEu r .ready none) ∧
   (∀ F w0, Anch h0 bl w0 → Run P F ⟨w0, some l, []⟩ (yGr F w0 (zB6 1000 (osu' ++ [zEu r .busy none])) pe) [.code r.bd] { sA with ow := upd sA.ow (1000 + osu.length) (zEu r .busy none) })) : zTp P l h0 bl R := by
 refine ⟨fun ds os d os' hR h e w vs gh hl0 hbl hs hr ho hb' hap => ?_⟩
 subst hl
 obtain ⟨osu, osu', pe, sA, e1, e2, e3, e4, e5, e7, g1, g2, g3⟩ := hrun ds os d os' hR
 have hm : os[osu.length]? = some (zEu r .ready none) := by rw [e1]; simp
 have hel : e.bs (1000 + osu.length) = r.l := (zMf (ho _ _ hm)).2 _ rfl
 have hrec : w.heap[r.l]? = some (.loop (r.loop .ready none)) := by
  have := (zMf (ho _ _ hm)).1;rw [hel] at this;exact this
 have hvl : vs.length = ds.length := by
  have : ∀ (ds : List SD) (vs : List Value), repT h ds e vs → vs.length = ds.length := by
   intro ds
   induction ds with
   | nil => intro vs hr; simp only [repT] at hr; simp [hr]
   | cons d r ih => intro vs hr; simp only [repT] at hr; obtain ⟨v, vs', rfl, _, h2⟩ := hr; simp [ih vs' h2]
  exact this ds vs hr
 have hy := run_yield (P := P) (args := vs.toArray) hrec (by simp [LR.loop, hvl, e7])
 refine ⟨_, _, _, _, hy, roundIn_of_wpIn trivial ?_⟩
 have han : Anch h0 bl ⟨w, h, zIg e os, gh⟩ := ⟨hl0, fun i b hib => by
  have hi := (List.getElem?_eq_some_iff.1 hib).1;show (zIg e os)[i]? = some b;rw [zFh (by omega), hbl i b hib]⟩
 have hk : ∀ k o, lkO (zB6 1000 os) k = some o → ∃ i, k = 1000 + i ∧ os[i]? = some o := fun k o hk => by
  rw [zDl] at hk;split at hk
  ·exact ⟨k - 1000, by omega, hk⟩
  ·cases hk
 have hfold : (r.ps.zip vs.toArray).foldl (fun tmps (x : Nat × Value) => tmps.setIfInBounds x.1 x.2) r.tm = (r.ps.toList.zip vs).foldl (fun t (p : Nat × Value) => t.setIfInBounds p.1 p.2) r.tm := by
  rw [← Array.foldl_toList, Array.toList_zip]
 obtain ⟨p1, p2⟩ := zQ5 r.ps.toList ds vs slE r.tm hr (fun p hp => by rw [hsz]; exact hps p hp) (hsl h e hl0 hbl)
 rw [← hfold] at p1 p2
 have D0 : Den (zC1 e 1000 os) ⟨⟨w, h, zIg e os, gh⟩, some r.l, []⟩ ⟨n, 0, zPr r.ps.toList ds slE, zB6 1000 os⟩ h e { tmps := (r.ps.zip vs.toArray).foldl (fun tmps (x : Nat × Value) => tmps.setIfInBounds x.1 x.2) r.tm, defers := [] } w := by
  refine ⟨rfl, p1.trans hsz, p2, fun k o hko => ?_, fun k o b hko hbl => ?_, fun k k' o o' b hne hko hko' hbl => ?_, hs, zEt.refl _ _, Le.refl h, fun _ _ => rfl, fun i b hib => ?_⟩
  ·obtain ⟨i, rfl, hi⟩ := hk k o hko
   exact ho i o hi
  ·obtain ⟨i, rfl, hi⟩ := hk k o hko
   have hm : b ∈ zC1 e 1000 os := zDk.2 ⟨i, o, hi, hbl⟩;exact ⟨.inr ⟨hm, by omega⟩, hb' b hm⟩
  ·obtain ⟨i, rfl, hi⟩ := hk k o hko
   obtain ⟨j, rfl, hj⟩ := hk k' o' hko';exact hap i j o o' b (fun hc => hne (by rw [hc])) hi hj hbl
  ·change (zIg e os)[i]? = some b at hib
   have hi : i < os.length := by
    have := (List.getElem?_eq_some_iff.1 hib).1;simpa [zIg] using this
   rw [zFh hi] at hib;simpa using hib
 have hA := g1 _ _ han h e _ w D0
 refine wpIn_mono (show r.as.wpIn (Fence.wide.inRound r.l) 0 P (post P (some r.l) (fun _ _ _ => False) [.lp (yCd (zC1 e 1000 os) ⟨⟨w, h, zIg e os, gh⟩, some r.l, []⟩ sA)]) _ w from hA) fun ex a1 w1 hq => ?_
 cases ex with
 | normal =>
  obtain ⟨h1, e1', D1⟩ := hq;have hfix1 : e1'.bs (1000 + osu.length) = r.l := (zMf (D1.own _ _ g2)).2 _ rfl;have hrec1 := (zMf (D1.own _ _ g2)).1;rw [hfix1] at hrec1;refine ⟨_, run_beginRound hrec1 rfl, ?_⟩;have hset := D1.setMp (m' := ⟨none, 0, fun _ => false, fun _ => .any, some (.raw (.loop (r.loop .busy none)) (some r.l))⟩) (o' := .loop (r.loop .busy none)) g2 (by rw [hfix1]; exact hrec1) ⟨rfl, fun b hb => by cases hb; exact hfix1⟩;rw [hfix1] at hset;have hB := g3 _ _ han h1 e1' a1 _ hset;refine wpIn_mono (show r.bd.wpIn (Fence.wide.inRound r.l) 0 P (post P (some r.l) _ []) a1 _ from hB) fun ex a3 w3 hq3 => ?_;obtain ⟨hj, h3, e3', q1, q2, q3, q4, q5, q6⟩ := hq3
  have hlk : lkO (zB6 1000 (osu' ++ [zEu r .busy none])) (1000 + osu.length) = some (zEu r .busy none) := by
   rw [zDl, if_pos (by omega), Nat.add_sub_cancel_left, ← e4]; simp
  have hfix3 : e3'.bs (1000 + osu.length) = r.l := (zMf (q6.own _ _ hlk)).2 _ rfl;have hrec3 := (zMf (q6.own _ _ hlk)).1;rw [hfix3] at hrec3
  have hlast : ∀ (jump : Option Code), jump = pe → zA8 (zC1 e 1000 os) ⟨w, h, zIg e os, gh⟩ d os' (.returned (.bool jump.isNone)) (w3.putObj r.l (.loop (r.loop (if jump.isNone then .ready else .done) jump))) := fun jump hjp => by
   subst hjp
   have hO := q6.setRaw (o' := .loop (r.loop (if jump.isNone then .ready else .done) jump)) (ow' := zB6 1000 (osu' ++ [zEu r (if jump.isNone then .ready else .done) jump])) hlk (by
    rw [zDl, if_pos (by omega), Nat.add_sub_cancel_left, ← e4]; simp [zEu]) (fun j hj => by
    rw [zDl, zDl];by_cases hj1 : 1000 ≤ j
    ·rw [if_pos hj1, if_pos hj1]
     have hne : j - 1000 ≠ osu'.length := fun hc => hj (by omega);by_cases hlt : j - 1000 < osu'.length
     ·rw [List.getElem?_append_left hlt, List.getElem?_append_left hlt]
     ·rw [List.getElem?_eq_none (by simp; omega), List.getElem?_eq_none (by simp; omega)]
    ·rw [if_neg hj1, if_neg hj1])
   rw [hfix3] at hO;have hnone := (q6.ownb _ _ r.l hlk (by show some (e3'.bs _) = _; rw [hfix3])).2;have hmem : r.l ∈ zC1 e 1000 os := zDk.2 ⟨osu.length, _, hm, by show some (e.bs _) = _; rw [hel]⟩;refine ⟨_, h3, e3', rfl, q1, fun b o hb => ?_, ⟨q3.os, q3.tape, q3.output, by simpa [World.putObj] using q3.size, q3.dr, fun b hb hF => ?_⟩, q4, q5, ?_, by rw [e3]; exact hO⟩
   ·rw [World.putObj_heap_other (fun hc => by rw [hc, hnone] at hb; cases hb)]
    exact q2 b o hb
   ·rw [World.putObj_heap_other (fun hc => hF (by rw [hc]; exact hmem))]
    exact q3.block b hb hF
   ·rw [e2]; simp [rep]
  cases ex with
  | normal =>
   simp only [zOk, zz1] at hj;exact ⟨_, _, run_endRound none hrec3, hlast none hj⟩
  | ret =>
   simp only [zOk, zz1] at hj;exact ⟨_, _, run_endRound (some .ret) hrec3, hlast _ hj⟩
  | exit id =>
   simp only [zOk, zz1] at hj;exact ⟨_, _, run_endRound (some (.exit id)) hrec3, hlast _ hj⟩
  | _ => simp [zOk] at hj
 | _ => exact hq
end Go.Sx
namespace Go.Sx
open Go.RowKit
open Go.ChangeMaps (setBlock)
def yDi (s : St) (ks : List Nat) : List (Nat × SD) := yBl (tau ks) (zPs (fun k => zCq k ks) (fun _ => false) s.sl)
def yF0 (s : St) (ks : List Nat) (os : List OB) (os' : List (Nat × OB)) : Option St :=
 bif nodupB ks && Nat.ble (s.nx + zFr os') 700 && allB (fun k => !zCk s.nx (zFr os') k) ks && (allB (fun k => Nat.blt k 700) ks || allB (fun k => Nat.ble 700 k) (zBt s os' 1000 ks)) &&
  zVn ks (zFr os') (zBt s os' 1000 ks) os' && zLa os' 1000 os && zEa (pbN s.nx (zFr os')) (phN s.nx (zFr os') (zBt s os' 1000 ks)) s.ow then
  some ⟨s.n, s.nx + zFr os', zPs (pbN s.nx (zFr os')) (phN s.nx (zFr os') (zBt s os' 1000 ks)) s.sl,
   zF2 (sgm ks s.nx) os' ++ zS2 (pbN s.nx (zFr os')) (phN s.nx (zFr os') (zBt s os' 1000 ks)) ks s.nx (zFr os') s.ow⟩
 else none
section
variable {P : Program} {F : List Nat} {w0 : Base} {s : St} {h : Hp} {e : Nm} {a : Act} {w : World}
theorem Den.aft (D : Den F w0 s h e a w) {ks : List Nat} {os : List OB} {os' : List (Nat × OB)} {s' : St} (ho : zPd s ks ks = some os) (hs : yF0 s ks os os' = some s')
  {en : Ending} {w' : World} (hp : zA8 (zC1 (e.inn ks) 1000 os) ⟨w, h, zIg (e.inn ks) os, D.gh⟩ (.tup []) os' en w') : ∃ v h' e'', en = .returned v ∧ Den F w0 s' h' e'' a w' := by
 unfold yF0 at hs
 generalize hA : zBt s os' 1000 ks = A at hs
 generalize hB : zFr os' = B at hs
 generalize hcb : (nodupB ks && Nat.ble (s.nx + B) 700 && allB (fun k => !zCk s.nx B k) ks && (allB (fun k => Nat.blt k 700) ks || allB (fun k => Nat.ble 700 k) A) &&
  zVn ks B A os' && zLa os' 1000 os && zEa (pbN s.nx B) (phN s.nx B A) s.ow) = cb at hs
 cases cb
 ·cases hs
 simp only [cond_true, zz1] at hs
 simp only [zz3] at hcb
 obtain ⟨⟨⟨⟨⟨⟨c2, c3⟩, c4⟩, c5⟩, c7⟩, c8⟩, c9⟩ := hcb
 subst hs
 refine D.backM (s' := ⟨s.n, s.nx + B, zPs (pbN s.nx B) (phN s.nx B A) s.sl, zF2 (sgm ks s.nx) os' ++ zS2 (pbN s.nx B) (phN s.nx B A) ks s.nx B s.ow⟩) (ks := ks) (m := s.nx) (B := B) (A := A) (os := os) (d := .tup []) (os' := os') ⟨zE0 c2, Nat.le_of_ble_eq_true c3, fun k hk => by have := zGb c4 k hk; simpa only [Bool.not_eq_true'] using this, (zFb ho).1, (zFb ho).2, ?_, rfl, c7, fun i o o' => zJv c8 i o o'⟩
  (dst := none) (fun t' h => by cases h) rfl (fun i _ => ?_) (fun t' h => by cases h) (fun k o hk => ?_) (fun k hk => zFm (by rw [hA]; exact hk)) hp
 ·simp only [Bool.or_eq_true] at c5
  rcases c5 with c5 | c5
  ·exact .inl fun k hk => zAm (zGb c5 k hk)
  ·exact .inr fun k hk => Nat.le_of_ble_eq_true (zGb c5 k hk)
 ·simp only [zGk]
  cases hx : zDn (pbN s.nx B) (phN s.nx B A) (lkp s.sl i)
  ·exact .inl rfl
  ·exact .inr ⟨rfl, rfl⟩
 ·simp only [zIw] at hk
  split at hk
  ·rename_i o1 h1
   simp only [zz1] at hk;subst hk;exact .inl (zE1 h1)
  ·exact .inr (zGm c9 hk)
theorem yCi (D : Den F w0 s h e a w) {ks : List Nat} {h' : Hp} {e' : Nm} (hl : Le h h') (he : ∀ i, i < ks.length → e'.bs (1000 + i) = e.bs (zC3 ks i)) (t : Nat) : rep h' (lkp (yDi s ks) t) e' (a.tmps.getD t undef) := by
 unfold yDi
 rw [zJt, zCx, zGk]
 cases hx : zDn (fun k => zCq k ks) (fun _ => false) (lkp s.sl t)
 ·simp [rep]
 ·simp only [cond_true]
  refine zEo (pb := fun k => zCq k ks) (ph := fun _ => false) ⟨fun k hk => ?_, fun k hk => by cases hk⟩ _ _ hx (zBa hl _ e _ (D.slot t));obtain ⟨q1, q2, q3⟩ := zM0 ks k 1000 (zCd.1 hk);have := he (zK2 ks k 1000 - 1000) (by omega);rw [q3, show 1000 + (zK2 ks k 1000 - 1000) = zK2 ks k 1000 by omega] at this;exact this
theorem Den.drop (D : Den F w0 s h e a w) (k : Nat) : Den F w0 ⟨s.n, s.nx, s.sl, del s.ow k⟩ h e a w := by
 have key : ∀ j o, lkO (del s.ow k) j = some o → lkO s.ow j = some o := fun j o hj => by
  rw [zP2] at hj;by_cases hjk : j = k
  ·simp [hjk] at hj
  ·simpa only [hjk, if_false] using hj
 exact ⟨D.defers, D.size, D.slot, fun j o hj => D.own j o (key j o hj), fun j o b hj hb => D.ownb j o b (key j o hj) hb, fun j j' o o' b hne hj hj' hb => D.apart j j' o o' b hne (key j o hj) (key j' o' hj') hb, D.sub, D.keeps, D.le, D.neww, D.fix⟩
theorem Den.base (D : Den F w0 s h e a w) (mark : List Deferred) (rd : Option Nat) : Den F ⟨w0.b0, rd, mark ++ w0.ds⟩ s h e { a with defers := mark ++ a.defers } w :=
 ⟨by show mark ++ a.defers = mark ++ w0.ds; rw [D.defers], D.size, D.slot, D.own, D.ownb, D.apart, D.sub, D.keeps, D.le, D.neww, D.fix⟩
def rfS (s : St) (r : LR) (K : Nat) : St := ⟨s.n, s.nx + 2, s.sl, upd (upd s.ow s.nx (zG6 (.deferred (some [])) (some K))) (s.nx + 1) (zEu r .ready none)⟩
def zY3 : Option Code → List It → List It
 | none, k => k
 | some c, k => .code c :: k
def stE (pe : Option Code) : LoopState := if pe.isNone then .ready else .done
theorem zWn {α : Type} : ∀ (l : List (Nat × α)) (k : Nat) (x : α), del (upd l k x) k = del l k
 | [], k, x => by simp [upd, del]
 | (j, d) :: r, k, x => by
  simp only [upd];cases hb : Nat.beq j k
  ·simp only [cond_false, del, hb, zWn r k x]
  ·simp only [cond_true, del, Nat.beq_refl, hb]
theorem zG9 : ∀ (ks l : List Nat) (i : Nat), i < ks.length → zC3 (ks ++ l) i = zC3 ks i
 | [], _, i, h => absurd h (Nat.not_lt_zero i)
 | k :: r, l, 0, _ => rfl
 | k :: r, l, i + 1, h => by simp only [List.cons_append, zC3]; exact zG9 r l i (by simpa using h)
end
end Go.Sx
namespace Go.Sx
open Go.RowKit
open Go.ChangeMaps (setBlock)
def yEr (P : Program) (fn : Func) (R : Ending → World → Prop) : Exit → Act → World → Prop := bodyPostM Fence.wide 0 P fn R
section
variable {P : Program} {b0 : zB0} {s : St}
theorem zG3 {F : List Nat} {w0 : Base} {h : Hp} {e : Nm} {a : Act} {w : World} (D : Den F w0 s h e a w) {fn : Func} {l : List ResultVar} {ds : List SD} (hr : fn.results = l.toArray) (hq : zN7 P s l = some ds) : ∃ v, (results fn a.tmps).run P w = .ok v w ∧ rep h (zLm ds) e v := by
 obtain ⟨vs, g1, g2⟩ := zKa (P := P) D hq
 refine ⟨if hz : vs.toArray.size = 1 then vs.toArray[0] else .tuple vs.toArray, ?_, ?_⟩
 ·rw [zEe, hr]
  simp only [List.mapM_toArray, Sem.run_bind];rw [map_eq_pure_bind];simp only [Sem.run_bind, g2, Result.andThen_ok, Sem.run_pure]
 ·match ds, vs, g1 with
  | [], vs, g1 =>
   simp only [repT] at g1;subst g1;simp [zLm, rep, repT]
  | [d1], vs, g1 =>
   simp only [repT] at g1;obtain ⟨v, vs', rfl, g3, rfl⟩ := g1;simpa [zLm] using g3
  | d1 :: d2 :: r, vs, g1 =>
   have : vs.toArray.size ≠ 1 := by
    simp only [repT] at g1;obtain ⟨v, vs', rfl, _, v2, vs2, rfl, _⟩ := g1;simp
   rw [dif_neg this];simp only [zLm, rep];exact ⟨vs, rfl, g1⟩
theorem zQz {k : List It} {fn : Func} {l : List ResultVar} {ds : List SD} {d : SD} (hr : fn.results = l.toArray) (hq : zN7 P s l = some ds) (hd : zAc (zLm ds) d) : Run P [] b0.std (yEr P fn (zD6 b0 d)) (.code .ret :: k) s := fun h e a w D => by
 refine wpIn_ret (zCc ?_)
 obtain ⟨v, g1, g2⟩ := zG3 D hr hq
 show LeavesInM Fence.wide 0 P fn a.tmps (zD6 b0 d) a.defers .returning w
 rw [show a.defers = [] from D.defers]
 exact ⟨v, g1, v, h, rfl, D.le, D.sub, D.keeps.below, D.neww, hd h e _ g2⟩
theorem zJ9 (nK K : Nat) {k : List It} {fn : Func} {l : List ResultVar} {ds : List SD} {d : SD} (hk : lkO s.ow nK = some (zG6 (.deferred (some [])) (some K))) (hr : fn.results = l.toArray) (hq : zN7 P s l = some ds) (hd : zAc (zLm ds) d) :
  Run P [] ⟨b0, none, [{ target := .collected K, args := #[] }]⟩ (yEr P fn (zD6 b0 d)) (.code .ret :: k) s := fun h e a w D => by
 refine wpIn_ret (zCc ?_)
 show LeavesInM Fence.wide 0 P fn a.tmps (zD6 b0 d) a.defers .returning w
 rw [show a.defers = [{ target := .collected K, args := #[] }] from D.defers]
 obtain ⟨k1, k2⟩ := zMf (D.own _ _ hk)
 have k2 := k2 K rfl
 have D' := D.setMp (m' := ⟨none, 0, fun _ => false, fun _ => .any, some (.raw (.deferred none) none)⟩) (o' := .deferred none) hk k1 ⟨rfl, fun b hb => by cases hb⟩
 rw [k2] at D' k1
 refine ⟨by simp, .inl ⟨K, _, rfl, run_takeDeferred k1, ?_⟩⟩
 have hq' : zN7 P { s with ow := upd s.ow nK (.mp ⟨none, 0, fun _ => false, fun _ => .any, some (.raw (.deferred none) none)⟩ []) } l = some ds := by
  have hat : ∀ x l, atD s x = some l → atD { s with ow := upd s.ow nK (.mp ⟨none, 0, fun _ => false, fun _ => .any, some (.raw (.deferred none) none)⟩ []) } x = some l := fun x l hx => by
   cases x <;> simp only [atD] at hx ⊢ <;> try exact hx
   ·rename_i j off
    simp only [zA2];by_cases hj : j = nK
    ·subst hj; rw [hk] at hx; simp [zG6, lvE] at hx
    ·simp only [hj, if_false]; exact hx
   ·rename_i j es i off
    simp only [zA2];by_cases hj : j = nK
    ·subst hj; rw [hk] at hx; simp [zG6, lvE] at hx
    ·simp only [hj, if_false]; exact hx
  clear hr hd
  induction l generalizing ds with
  | nil => exact hq
  | cons x r ih =>
   simp only [zN7] at hq ⊢;split at hq
   ·rename_i d1 ds1 h1 h2
    simp only [zz1] at hq;subst hq
    have hx : resD P { s with ow := upd s.ow nK (.mp ⟨none, 0, fun _ => false, fun _ => .any, some (.raw (.deferred none) none)⟩ []) } x = some d1 := by
     cases x <;> simp only [resD] at h1 ⊢
     ·exact h1
     ·split at h1
      ·rename_i l0 hl0
       rw [hat _ _ hl0];exact h1
      ·cases h1
    rw [hx, ih h2]
   ·cases hq
 obtain ⟨v, g1, g2⟩ := zG3 D' hr hq'
 exact ⟨v, g1, v, h, rfl, D'.le, D'.sub, D'.keeps.below, D'.neww, hd h e _ g2⟩
theorem zOp {f : Nat} {fn : Func} {c : Code} {n : Nat} {R : List SD → SD → Prop} (hcall : ∀ args w, (callFunc f args).run P w = .ok (.enter f args) w) (hf : P.funcs[f]? = some fn) (hb : fn.body = some c) (hn : fn.ntmps = n)
  (hrun : ∀ ds d, R ds d → ds.length ≤ n ∧ ∀ w0 : zB0, Run P [] w0.std (yEr P fn (zD6 w0 d)) [.code c] ⟨n, 0, zR4 0 ds, []⟩) : FnOK P f R := by
 refine ⟨hcall, fun ds d hR h e w vs gh hs hr => ?_⟩
 obtain ⟨hlen, hrun⟩ := hrun ds d hR
 have hvl : vs.length = ds.length := by
  clear hR hrun hlen
  induction ds generalizing vs with
  | nil => simp only [repT] at hr; simp [hr]
  | cons d r ih => simp only [repT] at hr; obtain ⟨v, vs', rfl, _, h2⟩ := hr; simp [ih vs' h2]
 refine (callsIn_wide (n := 0)).1 (callsIn_of_wp_marks hf hb trivial ?_)
 refine hrun ⟨w, h, [], gh⟩ h e _ w ⟨rfl, ?_, fun t => ?_, fun k o hk => by simp [lkO] at hk, fun k o b hk => by simp [lkO] at hk, fun k k' o o' b _ hk => by simp [lkO] at hk, hs, zEt.refl _ _, Le.refl h, fun _ _ => rfl, fun i b hb => by simp [Base.fix, zB0.std] at hb⟩
 ·simp; omega
 ·have := zGl (e := e) 0 t hr
  simp only [Nat.zero_le, if_true, Nat.sub_zero] at this
  have e1 : (vs.toArray ++ Array.replicate (fn.ntmps - vs.toArray.size) undef).getD t undef = vs.getD t undef := by
   simp only [Array.getD_eq_getD_getElem?, Array.getElem?_append, zz2];by_cases ht : t < vs.length
   ·simp [ht]
   ·simp only [List.size_toArray, ht, if_false, Array.getElem?_replicate]
    rw [List.getElem?_eq_none (by omega)];split <;> simp
  rw [e1];exact this
end
end Go.Sx
namespace Go.Sx
open Go.RowKit
open Go.ChangeMaps (setBlock)
section
variable {P : Program} {F : List Nat} {w0 : Base} {s : St} {h : Hp} {e : Nm} {a : Act} {w : World}
theorem zEl {fin : Exit → Act → World → Prop} {k : List It} {g : Operand} {ps : Array Nat} {as bd : Code} {gf : Nat} {caps caps' : List SD} (ks : List Nat) {os osu' : List OB} {pe : Option Code} {s2 : LR → Nat → St} (hrd : w0.rd = none)
  (hg : ev s g = .fn gf caps) (hcn : (!zGy s.nx caps && !zGy (s.nx + 1) caps) = true) (hcr : zI7 (tau (ks ++ [s.nx + 1])) caps = caps') (hca : zC6 (fun x => zCq x (ks ++ [s.nx + 1])) (fun x => zCq x (ks ++ [s.nx + 1])) caps = true)
  (hfr : (s.free s.nx && s.free (s.nx + 1) && nodupB (ks ++ [s.nx + 1]) && !zCq s.nx ks) = true)
  (hos : ∀ r K, zPd (rfS s r K) (ks ++ [s.nx + 1]) (ks ++ [s.nx + 1]) = some (os ++ [zEu r .ready none]))
  (hit : ∀ (h0 : Hp) (bl : List Nat) (r : LR), r.ps = ps → r.as = as → r.bd = bd → r.tm.size = s.n → bl.length = os.length + 1 → Le w0.h h0 → (∀ j b, j < ks.length → zC3 ks j = 1000 + j → w0.fix[j]? = some b → bl[j]? = some b) →
   (∀ h e, Le h0 h → (∀ (i b : Nat), bl[i]? = some b → e.bs (1000 + i) = b) → ∀ t, rep h (lkp (yDi s ks) t) e (r.tm.getD t undef)) →
   zZj P gf h0 bl (fun ds o d o' => ds = .yld r.l :: caps' ∧ o = os ++ [zEu r .ready none] ∧ d = .tup [] ∧ o' = zB6 1000 (osu' ++ [zEu r (stE pe) pe])))
  (hs : ∀ r K, yF0 (rfS s r K) (ks ++ [s.nx + 1]) (os ++ [zEu r .ready none]) (zB6 1000 (osu' ++ [zEu r (stE pe) pe])) = some (s2 r K))
  (hre : ∀ r K, lkO (s2 r K).ow (s.nx + 1) = some (zEu r (stE pe) pe))
  (hK : ∀ r K, Run P F ⟨w0.b0, none, { target := .collected K, args := #[] } :: w0.ds⟩ fin (zY3 pe k) ⟨(s2 r K).n, (s2 r K).nx, (s2 r K).sl, del (s2 r K).ow (s.nx + 1)⟩) :
  Run P F w0 fin (.code (.rangeFunc g ps as bd) :: k) s := fun h e a w D => by
 show (Code.rangeFunc g ps as bd).wpIn (fe w0.rd) 0 P (post P w0.rd fin k) a w
 rw [hrd]
 simp only [zz3] at hfr
 obtain ⟨⟨⟨f1, f2⟩, f3⟩, f4⟩ := hfr
 have hv := D.ev g
 rw [hg] at hv
 simp only [rep] at hv
 obtain ⟨vs, hv, hc⟩ := hv
 refine wpIn_rangeFunc fun fn _ => ?_
 show ∃ (l : Nat) (mark : List Deferred) (w₁ : World) (d : Deferred) (w₁' : World) (f : FuncId) (args : Array Value) (w₂ : World), _
 obtain ⟨r, hr⟩ : ∃ r : LR, r = ⟨w.heap.size + 1, fn, a.tmps, ps, as, bd, w.heap.size⟩ := ⟨_, rfl⟩
 have hrl : r.l = w.heap.size + 1 := by rw [hr]
 have D1 := D.newObj (k := s.nx) (m := ⟨none, 0, fun _ => false, fun _ => .any, some (.raw (.deferred (some [])) (some w.heap.size))⟩) (o := .deferred (some [])) (Free.of f1) ⟨rfl, fun b hb => by cases hb; rfl⟩ (s.nx + 1)
 have hsz1 : (w.alloc (.deferred (some []))).heap.size = w.heap.size + 1 := World.size_alloc _ _
 have F2 : Free ⟨s.n, s.nx + 1, s.sl, upd s.ow s.nx (zG6 (.deferred (some [])) (some w.heap.size))⟩ (s.nx + 1) := by
  have hF := Free.of f2;refine ⟨hF.sl, fun j o hj => ?_, hF.lt⟩;simp only [zA2] at hj;by_cases hjk : j = s.nx
  ·simp only [hjk, if_true, zz1] at hj
   subst hj;exact ⟨by omega, (fun x hx => by simp [zG6] at hx), fun kd x hx => by simp only [zG6, OB.mp.injEq] at hx; rw [← hx.2]; rfl⟩
  ·simp only [hjk, if_false] at hj
   exact hF.ow j o hj
 have D2 := Den.newObj (s := ⟨s.n, s.nx + 1, s.sl, upd s.ow s.nx (zG6 (.deferred (some [])) (some w.heap.size))⟩) D1 (k := s.nx + 1) (m := ⟨none, 0, fun _ => false, fun _ => .any, some (.raw (.loop (r.loop .ready none)) (some r.l))⟩) (o := .loop (r.loop .ready none)) F2 ⟨rfl, fun b hb => by cases hb; rw [hsz1, hrl]⟩ (s.nx + 2)
 generalize hw1 : (w.alloc (.deferred (some []))).alloc (.loop (r.loop .ready none)) = w1 at D2
 generalize he1 : (e.setB s.nx w.heap.size).setB (s.nx + 1) (w.alloc (.deferred (some []))).heap.size = e1 at D2
 change Den F w0 (rfS s r w.heap.size) h e1 a w1 at D2
 simp only [zz3, Bool.not_eq_true'] at hcn
 have hcaps : repT h caps e1 vs := by
  rw [← he1];exact zGe (Nm.but_setB _ _ _) caps vs hcn.2 (zGe (Nm.but_setB _ _ _) caps vs hcn.1 hc)
 have hlen : (os ++ [zEu r .ready none]).length = (ks ++ [s.nx + 1]).length := (zFb (hos r w.heap.size)).1
 have hcon := hit h (zIg (e1.inn (ks ++ [s.nx + 1])) (os ++ [zEu r .ready none])) r (by rw [hr]) (by rw [hr]) (by rw [hr]) (by rw [hr]; exact D.size) (by simp [zIg]) D.le (fun j b hj hjk hb => by
  have hi1 : j < (os ++ [zEu r .ready none]).length := by rw [hlen]; simp; omega
  rw [zFh hi1];have q1 := (Free.of f1).lt;have q2 := (Free.of f2).lt;have hfx : e.bs (1000 + j) = b := D.fix j b hb;simp only [Nm.inn, Nat.add_sub_cancel_left, zG9 _ _ _ hj, hjk];rw [← he1];simp [Nm.setB, show ¬ (1000 + j = s.nx) by omega, show ¬ (1000 + j = s.nx + 1) by omega, hfx]) (fun h' e' hl hbl t => by
  have htm : r.tm = a.tmps := by rw [hr]
  rw [htm];refine yCi D hl (fun i hi => ?_) t;have hi1 : i < (os ++ [zEu r .ready none]).length := by rw [hlen]; simp; omega
  have hb := hbl i _ (zFh hi1);rw [hb];simp only [Nm.inn, Nat.add_sub_cancel_left, zG9 _ _ _ hi];have hmem := zEg hi
  have n1 : zC3 ks i ≠ s.nx := fun hc => by
   rw [Bool.not_eq_true'] at f4;have := zCd.2 hmem;rw [hc, f4] at this;cases this
  have n2 : zC3 ks i ≠ s.nx + 1 := fun hc => by
   have hnd := zE0 f3;have := (List.nodup_append.1 hnd).2.2 (zC3 ks i) hmem (s.nx + 1) (by simp);exact this hc
  rw [← he1];simp [Nm.setB, n1, n2])
 refine ⟨w.heap.size + 1, [{ target := .collected w.heap.size, args := #[] }], w1, { target := .fn (.func gf) vs.toArray, args := #[.func (.yield (w.heap.size + 1)) #[] #[]] }, w1, gf, #[.func (.yield (w.heap.size + 1)) #[] #[]] ++ vs.toArray, w1, ?_, ?_, fun f' _ => trivial, ?_, fun hh => (by cases hh), ?_⟩
 ·rw [← hw1, hr]
  exact run_enterLoop_outer _ _ _ _ _
 ·have hev : a.eval g = .func (.func gf) #[] vs.toArray := hv
  simp only [resolve, hev];simp [go_sem]
 ·have hcl := hcon.call
  simp [invoke, go_sem, hcl]
 ·have hyv : repT h (.yld r.l :: caps) e1 (.func (.yield (w.heap.size + 1)) #[] #[] :: vs) := by
   simp only [repT, rep];exact ⟨_, _, rfl, by rw [hrl], hcaps⟩
  have hpm := zS3 (s := rfS s r w.heap.size) (ks := ks ++ [s.nx + 1]) (ds0 := .yld r.l :: caps) (ds := .yld r.l :: caps') f3 (by simp only [zI7, ren, hcr]) (by simp only [zC6, zDn, Bool.true_and]; exact hca) (hos r w.heap.size);obtain ⟨q1, q2, q3, q4⟩ := D2.passF hpm hyv
  have hcalls := hcon.ok _ _ _ _ ⟨rfl, rfl, rfl, rfl⟩ h (e1.inn (ks ++ [s.nx + 1])) w1 _ D2.gh (Le.refl h) (fun i b hb => by
   have hi : i < (os ++ [zEu r .ready none]).length := by
    have := (List.getElem?_eq_some_iff.1 hb).1;simpa [zIg] using this
   rw [zFh hi] at hb;simpa using hb) D2.sub q1 q2 q3 q4
  have harr : (Value.func (.yield (w.heap.size + 1)) #[] #[] :: vs).toArray = #[Value.func (.yield (w.heap.size + 1)) #[] #[]] ++ vs.toArray := by apply Array.ext'; simp
  rw [harr] at hcalls;refine callsIn_wide.2 (hcalls.mono fun en w2 hq => ?_);obtain ⟨v, h', e'', rfl, D3⟩ := D2.aft (hos r w.heap.size) (hs r w.heap.size) hq;obtain ⟨k1, k2⟩ := zMf (D3.own _ _ (hre r w.heap.size));have k2 := k2 _ rfl;have k1' : w2.heap[w.heap.size + 1]? = some (.loop (r.loop (stE pe) pe)) := by rw [← hrl, ← k2]; exact k1
  have hst : (r.loop (stE pe) pe).state ≠ .busy := by cases pe <;> simp [LR.loop, stE]
  refine ⟨pe, _, run_endLoop k1' hst, ?_⟩;have D4 := D3.setMp (m' := ⟨none, 0, fun _ => false, fun _ => .any, some (.raw (.loop { r.loop (stE pe) pe with state := .exhausted }) (some r.l))⟩) (o' := .loop { r.loop (stE pe) pe with state := .exhausted }) (hre r w.heap.size) k1 ⟨rfl, fun b hb => by cases hb; exact k2⟩;have D5 := (D4.drop (s.nx + 1)).base [{ target := .collected w.heap.size, args := #[] }] none;simp only [zWn] at D5;rw [k2, hrl] at D5;have hfinal := hK r w.heap.size _ _ _ _ D5;cases pe with
  | none => exact hfinal
  | some c => exact hfinal
end
section
variable {P : Program} {F : List Nat} {b0 : zB0} {s : St} {k : List It} {fn : Func} {l : List ResultVar} {ds : List SD} {d : SD} {os' : List (Nat × OB)}
theorem zOj {h : Hp} {e : Nm} {a : Act} {w : World} (D : Den F b0.std s h e a w) (hr : fn.results = l.toArray) (hq : zN7 P s l = some ds) (hd : SLe (zLm ds) d) (ho : zC2 s.ow os') : LeavesInM Fence.wide 0 P fn a.tmps (zA8 F b0 d os') a.defers .returning w := by
 obtain ⟨v, g1, g2⟩ := zG3 D hr hq
 rw [show a.defers = [] from D.defers]
 exact ⟨v, g1, v, h, e, rfl, D.le, D.sub, D.keeps, D.neww, D.fix, hd h e _ g2, D.ownP ho⟩
theorem zUo (hr : fn.results = l.toArray) (hq : zN7 P s l = some ds) (hd : SLe (zLm ds) d) (ho : zC2 s.ow os') : Run P F b0.std (yEr P fn (zA8 F b0 d os')) (.code .ret :: k) s := fun h e a w D =>
 wpIn_ret (zCc (zOj D hr hq hd ho))
end
section
variable {P : Program} {F : List Nat} {w0 : Base} {s : St} {h : Hp} {e : Nm} {a : Act} {w : World} {Q : Exit → Act → World → Prop} {ops : Array Oper} {rest : List Oper} {h0 : Hp} {bl : List Nat}
end
end Go.Sx
namespace Go.Sx
open Go.RowKit
mutual
@[go_sem] def yDb : SD → Bool
 | .any | .int .. | .bool _ | .str _ | .nils | .nilp | .nilfn | .nilif | .nilmap => true
 | .tup l => zXw l
 | _ => false
@[go_sem] def zXw : List SD → Bool
 | [] => true
 | d :: r => yDb d && zXw r
end
mutual
theorem zMc {h h' : Hp} : ∀ (d : SD) (e : Nm) (v : Value), yDb d = true → rep h d e v → rep h' d e v
 | .any, _, _, _, _ => by simp [rep]
 | .int .., _, _, _, x => by simpa [rep] using x
 | .bool .., _, _, _, x => by simpa [rep] using x
 | .str .., _, _, _, x => by simpa [rep] using x
 | .nils, _, _, _, x => by simpa [rep] using x
 | .nilp, _, _, _, x => by simpa [rep] using x
 | .nilfn, _, _, _, x => by simpa [rep] using x
 | .nilif, _, _, _, x => by simpa [rep] using x
 | .nilmap, _, _, _, x => by simpa [rep] using x
 | .tup l, e, v, hs, x => by
  simp only [rep] at x ⊢;obtain ⟨vs, h1, h2⟩ := x;exact ⟨vs, h1, zN0 l e vs (by simpa [yDb] using hs) h2⟩
 | .agg _, _, _, hs, _ | .list .., _, _, hs, _ | .lng .., _, _, hs, _ | .fp _, _, _, hs, _ | .loc .., _, _, hs, _ | .acc _, _, _, hs, _ | .accH .., _, _, hs, _ | .aptr .., _, _, hs, _ | .accp .., _, _, hs, _ | .vsl .., _, _, hs, _
 | .bfn .., _, _, hs, _ | .gd .., _, _, hs, _ | .fn .., _, _, hs, _ | .iface .., _, _, hs, _ | .omap _, _, _, hs, _ | .fmap .., _, _, hs, _ | .yld _, _, _, hs, _ | .val _, _, _, hs, _ => by simp [yDb] at hs
theorem zN0 {h h' : Hp} : ∀ (l : List SD) (e : Nm) (vs : List Value), zXw l = true → repT h l e vs → repT h' l e vs
 | [], _, _, _, x => by simpa [repT] using x
 | d :: r, e, vs, hs, x => by
  simp only [zXw, zz3] at hs;simp only [repT] at x ⊢;obtain ⟨v, vs', h1, h2, h3⟩ := x;exact ⟨v, vs', h1, zMc d e v hs.1 h2, zN0 r e vs' hs.2 h3⟩
end
@[go_sem] def frzAll (s : St) : List Nat → Option St
 | [] => some s
 | k :: r => match yDh s k with
  | some s' => frzAll s' r
  | none => none
section
variable {P : Program} {F : List Nat} {w0 : Base} {s : St} {h : Hp} {e : Nm} {a : Act} {w : World} {Q : Exit → Act → World → Prop} {ops : Array Oper} {rest : List Oper}
theorem Den.frzAll : ∀ {ks : List Nat} {s : St} {h : Hp} {sf : St}, Den F w0 s h e a w → frzAll s ks = some sf → ∃ h', Den F w0 sf h' e a w
 | [], s, h, sf, D, hq => by
  simp only [Sx.frzAll, zz1] at hq;subst hq;exact ⟨h, D⟩
 | k :: r, s, h, sf, D, hq => by
  simp only [Sx.frzAll] at hq;split at hq
  ·rename_i s' h1
   obtain ⟨h', D'⟩ := D.frz h1;exact D'.frzAll hq
  ·cases hq
theorem Den.lent (D : Den F w0 s h e a w) {w' : World} (hb : Below w.heap.size w w') : Den F w0 s h e a w' :=
 D.called (Le.refl h) (fun b o ho => by
  have h1 := D.sub b o ho
  have hlt : b < w.heap.size := by
   rcases Nat.lt_or_ge b w.heap.size with h2 | h2
   ·exact h2
   ·rw [Array.getElem?_eq_none h2] at h1; cases h1
  rw [hb.block b hlt]; exact h1) hb (fun _ _ => rfl)
end
end Go.Sx
namespace Go.Sx
open Go.RowKit
section
variable {P : Program} {F : List Nat} {w0 : Base} {s s0 : St} {Q : Exit → Act → World → Prop} {id : Nat} {l : List Oper} {rs : List Rec} {rest : List Oper}
theorem yDy {t S T te : Nat} {n : Nat} {f : Nat → SD} {x : Operand} {ty : Nat} {pos : String} {af : Array Edge} {ops : Array Oper} (bl : List UInt8) (hx : unG s x = .list 1 n f) (hg : zAn (gCs s [x] [])) (hl : n = bl.length) (hf : ∀ i, i < n → f i = byF bl i)
  (hS : P.underlying S = some (.slice te)) (he : P.underlying te = some (.int .u8)) (hT : P.underlying T = some .string) (ht : t < s.n) :
  zHi P F w0 ops s.n ⟨some t, .convert S T x, ty, pos, af, none⟩ ⟨zBf s (tmpsOf [x]), [], some t, .str ⟨bl.toArray⟩, [], []⟩ := fun σ hn h1 _ _ h e a w D K Q hK => by
 rw [if_pos (by simp [Region.wanted])]
 have hev := zBb (s := s) (s' := σ) (l := [x]) h1
 have hx' : unG σ x = .list 1 n f := by rw [← hx]; simp only [unG, hev x List.mem_cons_self]
 have hg' : zAn (gCs σ [x] []) := by rw [zAs hev]; exact hg
 subst hl
 have hv : rep h (unG σ x) e (a.eval x) := D.unG hg' (List.mem_singleton_self x)
 rw [hx'] at hv
 simp only [rep] at hv
 obtain ⟨ao, cap, h4, _, _, h6⟩ := hv
 have h5 : 0 < bl.length → ∃ b o, ao = some ⟨b, o, none⟩ ∧ ∀ j, j < bl.length → w.cell? ⟨b, o + j, none⟩ = some (.int .u8 ((bl.getD j 0).toNat : Int)) := fun hp => by
  obtain ⟨⟨b, o, sp⟩, cs, T1, fr, rfl, hsp, h7, h8⟩ := h6 hp;simp only at hsp;subst hsp;refine ⟨b, o, rfl, fun j hj => ?_⟩;obtain ⟨u, u1, u2, u3, _⟩ := h8 j hj;have hu := u1 e;rw [hf j hj] at hu;simp only [byF, rep] at hu;subst hu;have hw := D.sub _ _ h7;simp only at hw;unfold World.cell?;simp only [hw]
  have h9 : cs.toList[o + j]? = some (.int .u8 ((bl.getD j 0).toNat : Int)) := by
   have e1 : (Value.int IntKind.u8 ((bl.getD j 0).toNat : Int)).cells = #[.int .u8 ((bl.getD j 0).toNat : Int)] := rfl;rw [e1, Nat.mul_one, cut] at u2;have := congrArg (·[0]?) u2;simpa using this.symm
  simpa using h9
 have hrun := zWs (P := P) (w := w) (S := S) (T := T) (cap := cap) hS he hT h5
 unfold Oper.wp
 have hex : (execOp a.eval ⟨some t, .convert S T x, ty, pos, af, none⟩).run P w = .ok (.value (.string ⟨bl.toArray⟩)) w := by
  simp only [execOp, h4, Sem.run_bind, hrun, Result.andThen_ok];rfl
 rw [hex]
 exact hK _ _ _ _ (D.put (by rw [hn]; exact ht) (by simp only [rep]))
theorem yD2 {t S T te : Nat} {n : Nat} {f : Nat → SD} {x : Operand} {ty : Nat} {pos : String} {af : Array Edge} {s' : St} (bl : List UInt8) (hx : unG s x = .list 1 n f) (hg : zAn (gCs s [x] [])) (hl : n = bl.length) (hf : ∀ i, i < n → f i = byF bl i)
  (hS : P.underlying S = some (.slice te)) (he : P.underlying te = some (.int .u8)) (hT : P.underlying T = some .string) (hs : zC0 s t (.str ⟨bl.toArray⟩) = some s')
  (hn : zAy P F w0 Q id l s0 (rs ++ [⟨zBf s (tmpsOf [x]), [], some t, .str ⟨bl.toArray⟩, [], []⟩]) rest s') : zAy P F w0 Q id l s0 rs (⟨some t, .convert S T x, ty, pos, af, none⟩ :: rest) s := fun K => by
 obtain ⟨ht, rfl⟩ := zA0 hs
 exact hn (K.snoc zBe (fun p hp => by cases hp) (yDy bl hx hg hl hf hS he hT ht) ⟨rfl, fun _ => rfl, fun _ => rfl⟩)
end
end Go.Sx
namespace Go.Sx
theorem qS {p : Prop} (h : p := by simp only [go_sem]; rfl) : p := h
theorem qR {p : Prop} (h : p := by rfl) : p := h
theorem qD {p : Prop} (h : p := by simp only [go_sem]; first | done | rfl) : p := h
theorem qZ {p : Prop} (h : p := by simp only [go_sem]) : p := h
theorem qK {p : Prop} (h : p := by kernel_rfl) : p := h
theorem qF {p : Prop} (h : p := by first | (simp only [go_sem]; done) | (simp only [go_sem]; rfl)) : p := h
theorem qL {p : Prop} (h : p := by
 simp only [go_sem]; repeat' (first | exact trivial | exact zz0 | exact SLe.refl _ | exact OLe.refl _ | exact ⟨_, rfl, OLe.refl _⟩ | refine ⟨_, rfl, ?_⟩ | refine OLe.var ?_ | (show zAh _ _; refine ⟨?_, ?_⟩) | (show zAh [] []; exact zz0) | (refine SLe.int ?_; rw [w64]; omega) | refine SLe.int ?_ | refine SLe.bool ?_ | apply And.intro)) : p := h
theorem qP {p : Prop} (h : p := by
 (show zAn _; first | exact zz0 | (simp only [zAn, go_sem, Bool.not_eq_true', Bool.not_eq_false', implies_true, true_and, and_true, and_self, imp_self]; done) | (simp only [zAn, go_sem]; (repeat' apply And.intro) <;> first | exact zz0 | omega) | (simp only [zAn, go_sem]; (repeat' (first | exact zz0 | assumption | apply And.intro | (intro hx; simp [hx]; done) | intro _ | omega)); done) | (simp [zAn, go_sem]; done) | (simp [zAn, go_sem] at *; first | done | assumption | omega | (simp_all; done)) | (simp only [zAn, go_sem]; intros; simp_all; done) | (simp only [zAn, go_sem, ByteArray.size_append, size_mk, List.size_toArray, List.length_append, List.length_cons, List.length_nil, and_true, true_and]; (repeat' apply And.intro) <;> omega))) : p := h
theorem bF : (∀ (p : Prop) [Decidable p], (decide p = true) = p) ∧ (∀ (p : Prop) [Decidable p], (decide p = false) = ¬p) ∧ (∀ a b : Int, (¬a < b) = (b ≤ a)) ∧ (∀ a b : Int, (¬a ≤ b) = (b < a)) ∧ (∀ n m : Nat, ((n : Int) < m) = (n < m)) ∧ (∀ n m : Nat, ((n : Int) ≤ m) = (n ≤ m)) ∧
  (∀ a b : Bool, ((a && b) = true) = (a = true ∧ b = true)) ∧ (∀ a b : Bool, ((a || b) = true) = (a = true ∨ b = true)) ∧ (∀ a b : Bool, ((a || b) = false) = (a = false ∧ b = false)) ∧ (∀ a : Bool, ((!a) = true) = (a = false)) ∧ (∀ a : Bool, ((!a) = false) = (a = true)) ∧
  (∀ (α : Type) [BEq α] [LawfulBEq α] (a b : α), ((a == b) = true) = (a = b)) ∧ (∀ (α : Type) [BEq α] [LawfulBEq α] (a b : α), ((a == b) = false) = (a ≠ b)) ∧ (∀ (α : Type) [BEq α] [LawfulBEq α] (a b : α), ((a != b) = true) = (a ≠ b)) ∧ ∀ (α : Type) [BEq α] [LawfulBEq α] (a b : α), ((a != b) = false) = (a = b) :=
 ⟨fun _ _ => decide_eq_true_eq, fun _ _ => propext decide_eq_false_iff_not, fun _ _ => propext Int.not_lt, fun _ _ => propext Int.not_le, fun _ _ => propext Int.ofNat_lt, fun _ _ => propext Int.ofNat_le, fun a b => zz3 a b, fun a b => Bool.or_eq_true a b, fun _ _ => propext Bool.or_eq_false_iff, fun a => Bool.not_eq_true' a, fun a => Bool.not_eq_false' a,
  fun _ _ _ _ _ => propext beq_iff_eq, fun _ _ _ _ _ => propext beq_eq_false_iff_ne, fun _ _ _ _ _ => propext bne_iff_ne, fun _ _ _ _ _ => propext bne_eq_false_iff_eq⟩
end Go.Sx
namespace Go.Sx
open Go.RowKit
section
variable {P : Program} {F : List Nat} {w0 : Base} {s : St} {ops : Array Oper} {Q : Exit → Act → World → Prop} {rest : List Oper}
end
end Go.Sx
namespace Go.Sx
open Go.RowKit
section
variable {P : Program} {F : List Nat} {w0 : Base} {fin : Exit → Act → World → Prop} {k : List It} {s : St}
end
end Go.Sx
namespace Go.Sx
open Go.RowKit
def clF (lo : Nat) (f : Nat → SD) (i : Nat) : SD := if i < lo then f i else .any
section
variable {P : Program} {F : List Nat} {w0 : Base} {s : St} {ops : Array Oper} {Q : Exit → Act → World → Prop} {rest : List Oper}
theorem yA0 {T te es lo n k : Nat} {f : Nat → SD} {x : Operand} {ty : Nat} {pos : String} {af : Array Edge} {s' : St} (hx : ev s x = .accp k es lo) (ho : lkO s.ow k = some (.acc te es n f)) (hb : (Nat.beq (kdT P T) 1 && Nat.beq (szT P te) es && Nat.ble 1 es && zBi P te) = true) (hte : elT P T = some te)
  (hs : (⟨s.n, s.nx, s.sl, upd s.ow k (.acc te es n (clF lo f))⟩ : St) = s') (hn : zAi P F w0 ops Q rest s') : zAi P F w0 ops Q (⟨none, .call ⟨.builtin .clear, #[x], #[T]⟩, ty, pos, af, none⟩ :: rest) s := fun h e a w D => by
 subst hs
 simp only [zz3] at hb
 obtain ⟨⟨⟨c3, c4⟩, c5⟩, c6⟩ := hb
 have c4 := zz4 c4
 have c5 := Nat.le_of_ble_eq_true c5
 obtain ⟨te2, hu⟩ := zPb c3
 have := zBr hu hte
 subst this
 obtain ⟨m0, hm0⟩ : ∃ m, szT P te = m + 1 := ⟨szT P te - 1, by omega⟩
 obtain ⟨i, hi, hsz⟩ := zAl hm0
 have hes : es = i.size := by omega
 cases hz : i.zero with
 | none => simp [zBi, hi, hz] at c6
 | some z =>
  simp only [zBi, hi, Option.bind_some, hz, zz3] at c6;have hzs : z.cells.size = es := by rw [zz4 c6.1, c4]
  have hz1 : ∀ v ∈ z.cells, v.oneCell' = true := Array.all_eq_true_iff_forall_mem.1 c6.2;have hxv := D.ev x;rw [hx] at hxv;simp only [rep] at hxv;obtain ⟨b, n1, c, x1, x2, x3, x4⟩ := hxv;obtain ⟨xs, o1, o2, o3⟩ := D.own _ _ ho;refine zAf rfl fun K hK => ?_;unfold Oper.wp
  rcases o1.2 with ⟨hv, _⟩ | ⟨g', cap, cur, hv, _, hg, hnc, hcm, hcs, htake⟩
  ·rw [x1] at hv; cases hv
  ·rw [x1] at hv
   simp only [Value.slice.injEq, zz1, Addr.mk.injEq, and_true] at hv;obtain ⟨rfl, rfl, rfl⟩ := hv;have hxl := o1.1;have hmc : n1 * es ≤ c * es := Nat.mul_le_mul_right _ hnc;by_cases hmz : n1 - lo = 0
   ·have hr : (execOp a.eval ⟨none, .call ⟨.builtin .clear, #[x], #[T]⟩, ty, pos, af, none⟩).run P w = .ok (.value (.tuple #[])) w := by
     have e1 : ∀ ad, (Builtin.clear_ #[T] ty #[.slice (some ad) (n1 - lo) (c - lo)]).run P w = .ok (.tuple #[]) w := fun ad => by
      simp [Builtin.clear_, run_underlying hu, hmz]
     simp only [execOp, resolve, invoke, builtin, Sem.run_bind, Sem.run_pure, Result.andThen_ok, List.map_toArray, List.map_cons, List.map_nil, x4, e1]
    rw [hr];refine hK _ _ (hn h e _ _ ((D.setOwn (o' := .acc te es n1 (clF lo f)) ho rfl ⟨xs, o1, o2, fun j hj => ?_⟩ (fun _ _ => rfl) rfl rfl rfl rfl).put_none _));have : clF lo f j = f j := by unfold clF; rw [if_pos (by omega)]
    rw [this]; exact o3 j hj
   ·have ea : (if c = lo then (⟨b, 0, none⟩ : Addr) else ⟨b, lo * es, none⟩) = ⟨b, lo * es, none⟩ := if_neg (by omega)
    rw [ea] at x4;generalize hm : n1 - lo = m at *;generalize hzc : (Builtin.zeroCells z.cells m).toList = zs;have hzl : zs.length = m * es := by rw [← hzc]; simp [Builtin.zeroCells, hzs]
    have hz1' : ∀ v ∈ zs, v.oneCell' = true := fun v hv => by
     rw [← hzc] at hv;simp only [Builtin.zeroCells, Array.toList_map, Array.toList_range, List.mem_map] at hv;obtain ⟨j, hj, rfl⟩ := hv;have hpos : j % z.cells.size < z.cells.size := Nat.mod_lt _ (by omega);rw [getElem!_pos z.cells _ hpos];exact hz1 _ (Array.getElem_mem _)
    have hlm : lo * es + m * es = n1 * es := by rw [← Nat.add_mul]; congr 1; omega
    have hst := run_storeCells_at P b (lo * es) te zs 0 cur w hg (by rw [hzl]; omega) hz1';simp only [Nat.add_zero] at hst;have hm1 : ∃ q, m = q + 1 := ⟨m - 1, by omega⟩
    have hr : (execOp a.eval ⟨none, .call ⟨.builtin .clear, #[x], #[T]⟩, ty, pos, af, none⟩).run P w = .ok (.value (.tuple #[])) (w.setRow b (cur.toList.take (lo * es) ++ zs ++ cur.toList.drop (lo * es + zs.length)).toArray) := by
     have e1 : (Builtin.clear_ #[T] ty #[.slice (some ⟨b, lo * es, none⟩) m (c - lo)]).run P w = .ok (.tuple #[]) (w.setRow b (cur.toList.take (lo * es) ++ zs ++ cur.toList.drop (lo * es + zs.length)).toArray) := by
      obtain ⟨q, rfl⟩ := hm1;simp [Builtin.clear_, run_underlying hu, zeroValue, typeInfo, hi, hz, hzc, hst]
     simp only [execOp, resolve, invoke, builtin, Sem.run_bind, Sem.run_pure, Result.andThen_ok, List.map_toArray, List.map_cons, List.map_nil, x4, e1]
    rw [hr];have hblk : (OB.acc te es n1 f).blk e k = some b := by simp [OB.blk, x1, Value.ownBlock]
    have hlen : (cur.toList.take (lo * es) ++ zs ++ cur.toList.drop (lo * es + zs.length)).length = c * es := by
     simp only [List.length_append, List.length_take, List.length_drop, hzl, Array.length_toList];omega
    refine hK _ _ (hn h e _ _ ((D.setOwn (w' := w.setRow b (cur.toList.take (lo * es) ++ zs ++ cur.toList.drop (lo * es + zs.length)).toArray) (o' := .acc te es n1 (clF lo f)) ho rfl ?_ (fun b' hb' => ?_) rfl rfl rfl (by simp)).put_none _))
    ·refine ⟨xs.take (lo * es) ++ zs, ⟨?_, .inr ⟨b, c, _, x1, Nat.zero_le _, setRow_heap w b cur _ te _ hg, hnc, hcm, ?_, ?_⟩⟩, o2, fun j hj => ?_⟩
     ·rw [List.length_append, List.length_take, hzl]; omega
     ·simpa using hlen
     ·have h1 : (cur.toList.take (lo * es)).length = lo * es := by rw [List.length_take, Array.length_toList]; omega
      rw [← htake];simp only [List.toList_toArray, List.take_append, List.take_take, h1, hzl, List.length_append];rw [Nat.min_eq_right (by omega), Nat.min_eq_left (by omega), List.take_of_length_le (l := zs) (by omega), show n1 * es - (lo * es + m * es) = 0 by omega, List.take_zero, List.append_nil]
     ·have hj' : (j + 1) * es ≤ n1 * es := Nat.mul_le_mul_right _ hj
      rw [Nat.add_mul, Nat.one_mul] at hj';by_cases hjl : j < lo
      ·obtain ⟨u, u1, u2, u3⟩ := o3 j hj
       refine ⟨u, by unfold clF; rw [if_pos hjl]; exact u1, ?_, u3⟩;have hjl' : (j + 1) * es ≤ lo * es := Nat.mul_le_mul_right _ hjl;rw [Nat.add_mul, Nat.one_mul] at hjl';rw [u2];simp only [cut];rw [List.drop_append_of_le_length (by rw [List.length_take]; omega), List.take_append_of_le_length (by rw [List.length_drop, List.length_take]; omega), List.drop_take, List.take_take, Nat.min_eq_left (by omega)]
      ·refine ⟨.agg (cut (xs.take (lo * es) ++ zs) (j * es) es).toArray, by unfold clF; rw [if_neg hjl]; intro e; simp [rep], by simp [Value.cells], ?_, fun v hv => ?_⟩
       ·simp only [Value.cells, List.size_toArray, cut, List.length_take, List.length_drop, List.length_append, hzl]
        omega
       ·simp only [Value.cells, cut, List.mem_toArray] at hv
        have h1 := List.mem_of_mem_take hv;have hjl' : lo * es ≤ j * es := Nat.mul_le_mul_right _ (by omega);rw [List.drop_append, List.drop_of_length_le (by rw [List.length_take]; omega), List.nil_append] at h1;exact hz1' v (List.mem_of_mem_drop h1)
    ·have : b' ≠ b := fun hc => by subst hc; exact hb' hblk
     exact setRow_other w b b' _ this
theorem yAz {t T te es n k : Nat} {kk : IntKind} {l : Int} {f : Nat → SD} {x y : Operand} {ty : Nat} {pos : String} {af : Array Edge} {s' : St} (hx : ev s x = .acc k) (hy : ev s y = .int kk l) (ho : lkO s.ow k = some (.acc te es n f)) (hb : (Nat.beq (kdT P T) 1 && Nat.blt t s.n && zVq k s.ow && Nat.ble 1 (szT P te)) = true) (hte : elT P T = some te) (hp : 0 ≤ l ∧ l ≤ (n : Int) ∧ 0 < n)
  (hs : (⟨s.n, s.nx, upd (zKd k s.sl) t (.acc k), upd (zF3 k s.ow) k (.acc te es l.toNat f)⟩ : St) = s') (hn : zAi P F w0 ops Q rest s') : zAi P F w0 ops Q (⟨some t, .slice T x none (some y) none, ty, pos, af, none⟩ :: rest) s := fun h e a w D => by
 subst hs
 simp only [zz3] at hb
 obtain ⟨⟨⟨c3, c4⟩, c5⟩, c6⟩ := hb
 have ht := zAm c4
 have c6 := Nat.le_of_ble_eq_true c6
 obtain ⟨te2, hu⟩ := zPb c3
 have := zBr hu hte
 subst this
 obtain ⟨m0, hm0⟩ : ∃ m, szT P te = m + 1 := ⟨szT P te - 1, by omega⟩
 obtain ⟨i, hi, hsz⟩ := zAl hm0
 have hxv := D.ev x
 rw [hx] at hxv
 have hyv := D.ev y
 rw [hy] at hyv
 simp only [rep] at hxv hyv
 obtain ⟨p1, p2, p3⟩ := hp
 obtain ⟨xs, o1, o2, o3⟩ := D.own _ _ ho
 refine zAf rfl fun K hK => ?_
 unfold Oper.wp
 rcases o1.2 with ⟨_, hv⟩ | ⟨b, c, cur, hv, hb0, hg, hnc, hcm, hcs, htake⟩
 ·omega
 ·have hbd : (Instr.sliceBounds true n c none (some (.int kk l)) none).run P w = .ok (0, l.toNat, c) w := by
   have : 0 ≤ l ∧ l ≤ (c : Int) := ⟨p1, by omega⟩;simp [Instr.sliceBounds, Instr.sliceBound, asIntOf, this]
  have hxe : a.eval x = .slice (some ⟨b, 0, none⟩) n c := hxv.1.trans hv
  have hr : (execOp a.eval ⟨some t, .slice T x none (some y) none, ty, pos, af, none⟩).run P w = .ok (.value (.slice (some ⟨b, 0, none⟩) l.toNat c)) w := by
   have e2 : (Instr.sliceAt T (.slice (some ⟨b, 0, none⟩) n c) none (some (.int kk l)) none).run P w = .ok (.slice (some ⟨b, 0, none⟩) l.toNat c) w := by
    simp [Instr.sliceAt, Instr.slice, run_underlying hu, hbd, sizeOf, typeInfo, hi, Addr.add_mid]
   simp [execOp, hxe, hyv, e2]
  rw [hr];obtain ⟨Dp, hNo⟩ := D.purge (k := k) c5;have hln : l.toNat ≤ n := by omega
  have hle : l.toNat * es ≤ n * es := Nat.mul_le_mul_right _ hln;have hxl := o1.1;have D1 := Dp.acc' (k := k) (T := te) (es := es) (n := l.toNat) (f := f) (v' := .slice (some ⟨b, 0, none⟩) l.toNat c) (w' := w) (row := (e.hd k).ownBlock) hNo ?_ (fun b hb => ?_) (fun b' hb => ?_) ⟨⟨rfl, rfl, rfl, Nat.le_refl _, fun _ _ _ => rfl⟩, Nat.le_refl _⟩
  ·have D2 := D1.put (i := t) (d := .acc k) (v := .slice (some ⟨b, 0, none⟩) l.toNat c) ht ?_
   ·exact hK _ _ (hn _ _ _ _ (D2.congr rfl (fun _ => rfl) fun _ => rfl))
   ·simp only [rep, Nm.setH, if_true]
    exact ⟨trivial, _, _, _, rfl⟩
  ·refine ⟨xs.take (l.toNat * es), ?_, Nat.le_trans hln o2, fun j hj => ?_⟩
   ·simp only [Nm.setH, if_true]
    refine ⟨by rw [List.length_take]; omega, .inr ⟨b, c, cur, rfl, hb0, hg, Nat.le_trans hln hnc, hcm, hcs, ?_⟩⟩;rw [← htake, List.take_take, Nat.min_eq_left hle]
   ·obtain ⟨u, u1, u2, u3⟩ := o3 j (by omega)
    refine ⟨u, u1, ?_, u3⟩;have hj' : (j + 1) * es ≤ l.toNat * es := Nat.mul_le_mul_right _ hj;rw [Nat.add_mul, Nat.one_mul] at hj';rw [u2];simp only [cut];rw [List.drop_take, List.take_take, Nat.min_eq_left (by omega)]
  ·refine ⟨(D.ownb k _ b ho (by simpa [OB.blk] using hb)).1, (D.ownb k _ b ho (by simpa [OB.blk] using hb)).2, fun j o' hjk hj hc => ?_⟩
   obtain ⟨o0, g1, g2, _⟩ := zCi k _ j o' hj;rw [g2.blk] at hc;exact D.apart j k o0 _ b hjk g1 ho hc (by simpa [OB.blk] using hb)
  ·left
   rw [hv];simpa [Value.ownBlock] using hb
end
end Go.Sx
namespace Go.Sx
open Go.RowKit
section
variable {P : Program} {F : List Nat} {w0 : Base} {s : St} {Q : Exit → Act → World → Prop} {ops : Array Oper} {rest : List Oper}
def zP3 (s : St) (k es n : Nat) (g : Nat → SD) : St := ⟨s.n, s.nx, zXa k (.list es n g) (fun o => .loc k o) (.omap k) s.sl, []⟩
theorem zLg {f t : Nat} {args : Array Operand} {tys : Array Nat} {ty : Nat} {pos : String} {af : Array Edge} {R : List SD → SD → Prop} (k : Nat) {T es n : Nat} {g : Nat → SD} {ds : List SD} {d : SD} {s' : St} (ho : lkO s.ow k = some (.acc T es n g)) (hf : FnOK P f R)
  (ha : args.toList.map (unG (zP3 s k es n g)) = ds) (hg : zAn (gCs (zP3 s k es n g) args.toList [])) (hR : R ds d) (hsc : yDb d = true) (hs : zC0 s t d = some s')
  (hn : zAi P F w0 ops Q rest s') : zAi P F w0 ops Q (⟨some t, .call ⟨.value (.func f), args, tys⟩, ty, pos, af, none⟩ :: rest) s := fun h e a w D => by
 subst ha
 obtain ⟨ht, rfl⟩ := zA0 hs
 refine zAf rfl fun K hK => ?_
 unfold Oper.wp
 rw [zEx hf]
 obtain ⟨xs, o1, o2, o3⟩ := D.own k _ ho
 have key : ∃ h2, Le h h2 ∧ Sub h2 w ∧ rep h2 (.list es n g) e (e.hd k) := by
  rcases o1.2 with ⟨hv, hn0⟩ | ⟨b, cap, cur, hv, _, hgg, hnc, hcm, hcs, htake⟩
  ·refine ⟨h, Le.refl h, D.sub, ?_⟩
   rw [hv];simp only [rep];exact ⟨none, 0, by rw [hn0], by omega, ⟨Nat.zero_le _, zOh o2⟩, fun hc => absurd hc (by omega)⟩
  ·have hblk : (OB.acc T es n g).blk e k = some b := by simp [OB.blk, hv, Value.ownBlock]
   have b2 := (D.ownb k _ b ho hblk).2
   have q1 : Le h (h.set b (.cells cur T (0, 0))) := fun c x hx => by
    simp only [Hp.set];by_cases hb : c = b
    ·subst hb; rw [b2] at hx; cases hx
    ·simp [hb, hx]
   refine ⟨h.set b (.cells cur T (0, 0)), q1, fun c y hx => ?_, ?_⟩
   ·simp only [Hp.set] at hx
    by_cases hb : c = b
    ·subst hb
     simp only [if_true, zz1] at hx;subst hx;exact hgg
    ·simp only [hb, if_false] at hx
     exact D.sub c y hx
   ·rw [hv]
    simp only [rep];refine ⟨_, cap, rfl, hnc, ⟨hcm, zOh o2⟩, fun hn0 => ⟨⟨b, 0, none⟩, cur, T, (0, 0), rfl, rfl, by simp [Hp.set], fun i hi => ?_⟩⟩;obtain ⟨u, u1, u2, u3⟩ := o3 i hi;refine ⟨u, fun e' => zBa q1 _ e' _ (u1 e'), ?_, u3⟩;rw [u2, ← htake];simp only [cut, List.drop_take, List.take_take, Nat.zero_add]
    congr 1
    have : (i + 1) * es ≤ n * es := Nat.mul_le_mul_right _ hi;rw [Nat.add_mul] at this;omega
 obtain ⟨h2, l1, l2, l3⟩ := key
 have hev : ∀ x : Operand, rep h2 (ev (zP3 s k es n g) x) e (a.eval x) := fun x => by
  have hF := fun d v => zEq (h := h2) (e := e) (k := k) (d0 := .list es n g) (L := fun o => .loc k o) (dm := .omap k) (fun v hv => by simp only [rep] at hv; rw [hv.1]; exact l3) (fun _ _ x => x) (fun _ x => x) d v;have hx := zBa l1 _ e _ (D.ev x);cases x with
  | tmp t =>
   have := hF _ _ hx;simp only [Sx.ev, zP3, zP1] at this ⊢;exact this
  | const v => exact zG4 h2 e v
  | func f => exact hx
  | global g => simp [Sx.ev, rep]
 have hT : ∀ l : List Operand, (∀ x ∈ l, ∀ c d, ev (zP3 s k es n g) x = .gd c d → c = true) → repT h2 (l.map (unG (zP3 s k es n g))) e (l.map a.eval) := by
  intro l
  induction l with
  | nil => intro _; simp [repT]
  | cons x r ih =>
   intro hl;simp only [List.map_cons, repT];exact ⟨_, _, rfl, zD4 (hev x) fun c d hc => hl x (by simp) c d hc, ih fun y hy => hl y (by simp [hy])⟩
 refine (hf.ok _ _ hR h2 e w _ (D.gh.mono l1) l2 (hT _ (zAt hg).1)).mono fun en w' hq => ?_
 obtain ⟨v, h', rfl, g1, g2, g3, g4, g5⟩ := hq
 exact hK _ _ (hn _ _ _ _ ((D.lent g3).put ht (zMc _ _ _ hsc (g5 e))))
theorem yDu {t T : Nat} {x y : Operand} {ty : Nat} {pos : String} {af : Array Edge} {p : List Prop} {d : SD} {s' : St} (hq : slA P s T (ev s x) (ev s y) = some (p, d)) (hp : zAn p) (hs : zC0 s t d = some s')
  (hn : zAi P F w0 ops Q rest s') : zAi P F w0 ops Q (⟨some t, .slice T x (some y) none none, ty, pos, af, none⟩ :: rest) s := fun h e a w D => by
 obtain ⟨ht, rfl⟩ := zA0 hs
 exact zAf rfl fun K hK => zZk D ht hq hp K _ fun h' e' a' w' D' => hK _ _ (hn _ _ _ _ D')
end
end Go.Sx
namespace Go.Sx
open Go.RowKit
section
variable {P : Program} {F : List Nat} {w0 : Base} {s : St} {Q : Exit → Act → World → Prop} {id : Nat} {l : List Oper} {s0 : St} {rs : List Rec}
theorem yD0 {r r' : List Oper} {s' : St} {p : List Prop} {q : List Rec} (h : zPn P l r s = (p, s', r')) (hp : zAn p) (hr : zAw P l r s = q) (hn : zAy P F w0 Q id l s0 (rs ++ q) r' s') : zAy P F w0 Q id l s0 rs r s :=
 yD1 h hp (hr ▸ hn)
theorem zBj {r r' : List Oper} {s' : St} {p : List Prop} {q : List Rec} (h : zPn P l r s = (p, s', r')) (_ : Nat.blt (zMs r') (zMs r) = true) (hp : zAn p) (hr : zAw P l r s = q) (hn : zAy P F w0 Q id l s0 (rs ++ q) r' s') : zAy P F w0 Q id l s0 rs r s := yD0 h hp hr hn
end
theorem zIq {P : Program} {F : List Nat} {w0 : Base} {s : St} {ops : Array Oper} {rest : List Oper} (k : Nat) {o o' : OB} {Q : Exit → Act → World → Prop} (ho : lkO s.ow k = some o) (hl : OLe o o') (hn : zAi P F w0 ops Q rest ⟨s.n, s.nx, s.sl, upd s.ow k o'⟩) : zAi P F w0 ops Q rest s := fun h e a w D =>
 hn h e a w (by
  have h2 : ∀ j x, lkO (upd s.ow k o') j = some x → ∃ o0, lkO s.ow j = some o0 ∧ OLe o0 x := fun j x hj => by
   simp only [zA2] at hj;by_cases hjk : j = k
   ·subst hjk; simp only [if_true, zz1] at hj; subst hj; exact ⟨o, ho, hl⟩
   ·simp only [hjk, if_false] at hj; exact ⟨x, hj, OLe.refl _⟩
  refine ⟨D.defers, D.size, D.slot, fun j o hj => ?_, fun j o b hj hb => ?_, fun j j' o o' b hne hj hj' hb => ?_, D.sub, D.keeps, D.le, D.neww, D.fix⟩
  ·obtain ⟨o0, g1, g2⟩ := h2 j o hj
   exact g2.ok (D.own j o0 g1)
  ·obtain ⟨o0, g1, g2⟩ := h2 j o hj
   rw [g2.blk] at hb;exact D.ownb j o0 b g1 hb
  ·obtain ⟨o0, g1, g2⟩ := h2 j o hj
   obtain ⟨o1, g3, g4⟩ := h2 j' _ hj';rw [g2.blk] at hb;rw [g4.blk];exact D.apart j j' o0 o1 b hne g1 g3 hb)
end Go.Sx
namespace Go.Sx
open Go.RowKit
section
variable {P : Program} {F : List Nat} {w0 : Base} {s : St} {h : Hp} {e : Nm} {a : Act} {w : World} {fin : Exit → Act → World → Prop} {kl : List It}
def yC6 (s : St) (k : Nat) (d0 : SD) : St := ⟨s.n, s.nx, zXa k d0 (fun _ => .any) .any s.sl, zPe k d0 (fun _ => .any) .any s.ow⟩
theorem Den.val (D : Den F w0 s h e a w) {k : Nat} {d0 : SD} (h0 : ∀ v, rep h (.acc k) e v → rep h d0 e v) : Den F w0 (yC6 s k d0) h e a w :=
 D.frz_core (Le.refl h) D.sub (fun _ _ => rfl) (fun j o b _ hj hb => (D.ownb j o b hj hb).2)
  (zEq h0 (fun _ _ _ => by simp [rep]) fun _ _ => by simp [rep]) (zFg h0 (fun _ _ _ => by simp [rep]) fun _ _ => by simp [rep])
variable {Q : Exit → Act → World → Prop} {ops : Array Oper} {rest : List Oper} {l : List Oper} {s0 : St} {rs : List Rec} {id : Nat}
end
end Go.Sx
namespace Go.Sx
open Go.RowKit
section
variable {P : Program} {F : List Nat} {w0 : Base} {s : St} {h : Hp} {e : Nm} {a : Act} {w : World}
variable {Q : Exit → Act → World → Prop} {ops : Array Oper} {rest : List Oper} {l : List Oper} {s0 : St} {rs : List Rec} {id : Nat}
end
end Go.Sx
namespace Go.Sx
open Go.RowKit
@[go_sem] abbrev zF5 (T es n : Nat) (f : Nat → SD) (i : Nat) (d : SD) : OB := .mp ⟨none, 0, fun _ => false, fun _ => .any, some (.live T es n f i)⟩ [(d, .any)]
theorem zF9 {o : OB} (h : o.isAcc = true) (e : Nm) (k : Nat) : o.blk e k = (e.hd k).ownBlock := by
 cases o with
 | var l => cases h
 | acc T es n f => rfl
 | mp m l =>
  simp only [OB.isAcc] at h;simp only [OB.blk];split
  ·rfl
  ·split at h
   ·exact absurd ‹_› (‹∀ (T es n : Nat) (f : Nat → SD) (i : Nat), m.it = some (.live T es n f i) → False› _ _ _ _ _)
   ·cases h
section
variable {P : Program} {F : List Nat} {w0 : Base} {s : St} {h : Hp} {e : Nm} {a : Act} {w : World}
theorem Den.accG (D : Den F w0 s h e a w) {k : Nat} {kill : Option Nat} (hf : Free s k) {ob : OB} (hacc : ob.isAcc = true) {v' : Value} {w' : World} {row : Option Nat} (h1 : zDp h (e.setH k v') w' k ob)
  (hrow : ∀ b, row = some b → (w0.w.heap.size ≤ b ∨ (b ∈ F ∧ 700 ≤ k)) ∧ h b = none ∧ ∀ j o', kill ≠ some j → lkO s.ow j = some o' → o'.blk e j ≠ some b)
  (hblk : ∀ b, v'.ownBlock = some b → row = some b ∨ b = w.heap.size) (hg : Grw w w' row) :
  Den F w0 { s with ow := upd (zLb kill s.ow) k ob } h (e.setH k v') a w' := by
 have he := e.but_setH k v'
 have hfresh : h w.heap.size = none := by
  cases hx : h w.heap.size with
  | none => rfl
  | some o => have := (Array.getElem?_eq_some_iff.1 (D.sub _ _ hx)).1; omega
 have keep : ∀ b, b < w.heap.size → row ≠ some b → w'.heap[b]? = w.heap[b]? := fun b hb hne => hg.block b hb (fun hc => hne hc.symm)
 have hlk : ∀ j o, j ≠ k → lkO (upd (zLb kill s.ow) k ob) j = some o → kill ≠ some j ∧ lkO s.ow j = some o := fun j o hj ho => by
  rw [zA2] at ho;simp only [hj, if_false, zOi] at ho;by_cases hk : kill = some j
  ·simp [hk] at ho
  ·simp only [hk, if_false] at ho; exact ⟨hk, ho⟩
 have other : ∀ j o, kill ≠ some j → lkO s.ow j = some o → ∀ b, o.blk e j = some b → b < w.heap.size ∧ row ≠ some b := fun j o hj ho b hb => ⟨zD9 (D.own j o ho) hb, fun hc => (hrow b hc).2.2 j o hj ho hb⟩
 have hmine : ∀ b, v'.ownBlock = some b → (w0.w.heap.size ≤ b ∨ (b ∈ F ∧ 700 ≤ k)) ∧ h b = none ∧ ∀ j o', kill ≠ some j → lkO s.ow j = some o' → o'.blk e j ≠ some b := fun b hb => by
  rcases hblk b hb with hr | hr
  ·exact hrow b hr
  ·subst hr
   exact ⟨.inl D.keeps.size, hfresh, fun j o' hj ho hc => by have := (other j o' hj ho _ hc).1; omega⟩
 have hkk : ∀ o, lkO (upd (zLb kill s.ow) k ob) k = some o → o = ob := fun o ho => by
  rw [zA2] at ho;simp only [if_true, zz1] at ho;exact ho.symm
 have hbl : ob.blk (e.setH k v') k = v'.ownBlock := by rw [zF9 hacc]; simp [Nm.setH]
 refine ⟨D.defers, D.size, fun t => zDo he _ _ (hf.sl t) (D.slot t), fun j x hj => ?_, fun j x b hj hb => ?_, fun j j' o1 o2 b hne hj hj' hb => ?_, fun b x hx => ?_, ?_, D.le, D.neww, D.fix⟩
 ·by_cases hjk : j = k
  ·subst hjk; rw [hkk x hj]; exact h1
  ·obtain ⟨q1, q2⟩ := hlk j x hjk hj
   obtain ⟨_, m1, m2⟩ := hf.ow j x q2;exact zJp he hjk m1 m2 (zDi (Le.refl h) (fun b hb => keep b (other j x q1 q2 b hb).1 (other j x q1 q2 b hb).2) (D.own j x q2))
 ·by_cases hjk : j = k
  ·subst hjk
   rw [hkk x hj, hbl] at hb;exact ⟨(hmine b hb).1, (hmine b hb).2.1⟩
  ·obtain ⟨q1, q2⟩ := hlk j x hjk hj
   rw [zBv he hjk] at hb;exact D.ownb j x b q2 hb
 ·by_cases hjk : j = k
  ·subst hjk
   have hjk' : j' ≠ j := fun x => hne x.symm;obtain ⟨q1, q2⟩ := hlk j' o2 hjk' hj';rw [hkk o1 hj, hbl] at hb;rw [zBv he hjk'];exact (hmine b hb).2.2 j' o2 q1 q2
  ·obtain ⟨q1, q2⟩ := hlk j o1 hjk hj
   rw [zBv he hjk] at hb;by_cases hjk' : j' = k
   ·subst hjk'
    rw [hkk o2 hj', hbl];exact fun hc => (hmine b hc).2.2 j o1 q1 q2 hb
   ·obtain ⟨q3, q4⟩ := hlk j' o2 hjk' hj'
    rw [zBv he hjk'];exact D.apart j j' o1 o2 b hne q2 q4 hb
 ·have hlt := (Array.getElem?_eq_some_iff.1 (D.sub _ _ hx)).1
  rw [keep b hlt (fun hc => by have := (hrow b hc).2.1; rw [this] at hx; cases hx)];exact D.sub b x hx
 ·refine ⟨hg.os.trans D.keeps.os, hg.tape.trans D.keeps.tape, hg.output.trans D.keeps.output, Nat.le_trans D.keeps.size hg.size, Nat.le_trans D.keeps.dr hg.dr, fun b hb hF => ?_⟩
  rw [keep b (Nat.lt_of_lt_of_le hb D.keeps.size) (fun hc => ?_)]
  ·exact D.keeps.block b hb hF
  ·rcases (hrow b hc).1 with hx | hx
   ·omega
   ·exact hF hx.1
def apT (P : Program) (T : Nat) : Option Nat :=
 bif Nat.beq (kdT P T) 1 then
  match elT P T with
  | some te => bif Nat.ble 1 (szT P te) && Nat.ble 1 (byT P te) && Nat.ble (byT P te) 2048 && zBi P te then some te else none
  | none => none
 else none
theorem zTy (D : Den F w0 s h e a w) {t T te nx : Nat} (ht : t < s.n) (hF : Free s nx) {x y : Operand} {ty : Nat} {pos : String} {af : Array Edge} {g : Option (Nat × Bool)} (hT : apT P T = some te)
  {v : Value} {n : Nat} {xs : List Value} {kill : Option Nat} (hxv : a.eval x = v) (hown : w.ownsRow 0 te (szT P te) v n xs)
  (hrow : ∀ b, v.ownBlock = some b → (w0.w.heap.size ≤ b ∨ (b ∈ F ∧ 700 ≤ nx)) ∧ h b = none ∧ ∀ j o', kill ≠ some j → lkO s.ow j = some o' → o'.blk e j ≠ some b)
  {ao : Option Addr} {m c : Nat} {news : List Value} (hyv : a.eval y = .slice ao m c) (hao : ao = none → m = 0) (hnl : news.length = m * szT P te) (hnc : ∀ ad, ao = some ad → ∀ j u, news[j]? = some u → w.cell? (ad.add j) = some u) (hn1 : ∀ u ∈ news, u.oneCell' = true)
  (hbn : n + m ≤ 68719476736) {ob : OB} (hacc : ob.isAcc = true) (hob : ∀ v' w', w'.ownsRow 0 te (szT P te) v' (n + m) (xs ++ news) → zDp h (e.setH nx v') w' nx ob)
  (K : Act → World → Prop) (Q : Exit → Act → World → Prop) (hK : ∀ h' e' a' w', Den F w0 ⟨s.n, s.nx, upd s.sl t (.acc nx), upd (zLb kill s.ow) nx ob⟩ h' e' a' w' → K a' w') :
  (⟨some t, .call ⟨.builtin .append, #[x, y], #[T, T]⟩, ty, pos, af, g⟩ : Oper).wp P a w K Q := by
 unfold apT at hT
 cases hk : Nat.beq (kdT P T) 1
 ·rw [hk] at hT; cases hT
 ·rw [hk] at hT
  simp only [cond_true] at hT;obtain ⟨te0, hu⟩ := zPb hk;split at hT
  ·rename_i te' hte
   have := zBr hu hte;subst this;cases hb : (Nat.ble 1 (szT P te') && Nat.ble 1 (byT P te') && Nat.ble (byT P te') 2048 && zBi P te')
   ·rw [hb] at hT; cases hT
   ·rw [hb] at hT
    simp only [cond_true, zz1] at hT;subst hT;simp only [zz3] at hb;obtain ⟨⟨⟨b1, b2⟩, b4⟩, b3⟩ := hb;have b4 := Nat.le_of_ble_eq_true b4;have b1 := Nat.le_of_ble_eq_true b1;have b2 := Nat.le_of_ble_eq_true b2;obtain ⟨m0, hm0⟩ : ∃ m, szT P te' = m + 1 := ⟨szT P te' - 1, by omega⟩;obtain ⟨i, hi, hs⟩ := zAl hm0;have hes : szT P te' = i.size := by omega
    have hby : byT P te' = i.bytes := by simp [byT, Program.bytesOf, hi]
    cases hz : i.zero with
    | none => simp [zBi, hi, hz] at b3
    | some z =>
     have hzs : z.cells.size = i.size := by
      simp only [zBi, hi, Option.bind_some, hz, zz3] at b3;rw [← hes];exact zz4 b3.1
     rw [hes] at hown hnl
     have run : ∃ v' w', (Builtin.append_ #[T, T] ty #[v, .slice ao m c]).run P w = .ok v' w' ∧ w'.ownsRow 0 te' i.size v' (n + m) (xs ++ news) ∧ Grw w w' v.ownBlock ∧ (v'.ownBlock = v.ownBlock ∨ v'.ownBlock = some w.heap.size) := by
      have hbytes : (n + m) * i.bytes ≤ 140737488355328 := by
       have : (n + m) * i.bytes ≤ 68719476736 * 2048 := Nat.mul_le_mul hbn (by rw [← hby]; exact b4);omega
      have h63 : n + m ≤ maxLen := by
       simp only [maxLen]; omega
      cases ao with
      | some ad =>
       obtain ⟨v', w', r1, r2, r3, _, r5⟩ := run_append_own_at (P := P) w 0 T ty te' i z i.size i.bytes hu hi hz rfl rfl hzs (by omega) v n xs hown ad m c news hnl (hnc ad rfl) hn1 h63 hbytes (Nat.zero_le _);exact ⟨v', w', r1, r2, ⟨r3, zUx _ _ _ _ r1⟩, r5⟩
      | none =>
       have hm := hao rfl;subst hm;have hnn : news = [] := List.eq_nil_of_length_eq_zero (by simpa using hnl);subst hnn;refine ⟨v, w, ?_, by simpa using hown, ⟨⟨rfl, rfl, rfl, Nat.le_refl _, fun _ _ _ => rfl⟩, Nat.le_refl _⟩, .inl rfl⟩
       rcases hown.2 with ⟨rfl, rfl⟩ | ⟨g, cap, cur, rfl, _, _, hnc', _⟩
       ·simp [Builtin.append_, run_underlying hu, sizeOf, typeInfo, hi, Builtin.lenOf, Builtin.firstCells]
       ·simp [Builtin.append_, run_underlying hu, sizeOf, typeInfo, hi, Builtin.lenOf, Builtin.firstCells, hnc', storeCells]
     obtain ⟨v', w', r1, r2, r3, r4⟩ := run;unfold Oper.wp
     have hexec : (execOp a.eval ⟨some t, .call ⟨.builtin .append, #[x, y], #[T, T]⟩, ty, pos, af, g⟩).run P w = .ok (.value v') w' := by
      simp only [execOp, resolve, invoke, builtin, Sem.run_bind, Sem.run_pure, Result.andThen_ok, List.map_toArray, List.map_cons, List.map_nil, hxv, hyv, r1]
     rw [hexec]
     have D1 := D.accG (k := nx) (kill := kill) (ob := ob) (v' := v') (w' := w') (row := v.ownBlock) hF hacc (hob v' w' (by rw [hes]; exact r2)) hrow (fun b hb => by
      rcases r4 with hr | hr
      ·rw [hr] at hb; exact .inl hb
      ·rw [hr] at hb; cases hb; exact .inr rfl) r3
     have D2 := D1.put (i := t) (d := .acc nx) (v := v') ht (by
      simp only [rep, Nm.setH, if_true];refine ⟨trivial, ?_⟩
      rcases r2.2 with ⟨hv, _⟩ | ⟨g, cap, cur, hv, _⟩
      ·exact ⟨none, 0, 0, hv⟩
      ·exact ⟨_, _, _, hv⟩)
     exact hK _ _ _ _ (D2.congr rfl (fun _ => rfl) fun _ => rfl)
  ·cases hT
theorem zM9 {xs ys : List Value} {es n j : Nat} (hl : xs.length = n * es) (hj : j < n) : cut (xs ++ ys) (j * es) es = cut xs (j * es) es := by
 have : (j + 1) * es ≤ n * es := Nat.mul_le_mul_right _ hj
 rw [Nat.add_mul, Nat.one_mul] at this
 simp only [cut]
 rw [List.drop_append_of_le_length (by omega), List.take_append_of_le_length (by rw [List.length_drop]; omega)]
theorem zOy {xs ys : List Value} {es n j : Nat} (hl : xs.length = n * es) : cut (xs ++ ys) ((n + j) * es) es = cut ys (j * es) es := by
 simp only [cut]
 rw [Nat.add_mul, ← hl, List.drop_append, List.drop_eq_nil_of_le (by omega), List.nil_append]
 congr 2
 omega
def yC1 (P : Program) (s : St) (T : Nat) (x y : SD) : Option (List Prop × List (Nat × Option OB) × OB) :=
 match apT P T with
 | some te => match y with
  | .acc j => match lkO s.ow j with
   | some (.mp m2 ((d, _) :: _)) => match m2.it with
    | some (.live te2 es2 n2 _ i2) => bif Nat.beq te te2 && Nat.beq (szT P te) es2 && Nat.beq n2 1 && Nat.beq i2 0 then
      match x with
      | .nils => some ([], [], zF5 te (szT P te) 1 (fun _ => .any) 0 d)
      | .acc k => match lkO s.ow k with
       | some (.acc te' es' n f) => bif Nat.beq te te' && Nat.beq (szT P te) es' then some ([n + 1 ≤ 68719476736], [(k, none)], zF5 te (szT P te) (n + 1) f n d) else none
       | _ => none
      | _ => none
     else none
    | _ => none
   | _ => none
  | y => match yA2 (szT P te) y with
   | some (m, g) => match x with
    | .acc k => match lkO s.ow k with
     | some (.mp m1 ((d, _) :: _)) => match m1.it with
      | some (.live te' es' n f i) => bif Nat.beq te te' && Nat.beq (szT P te) es' then some ([n + m ≤ 68719476736], [(k, none)], zF5 te (szT P te) (n + m) (zA3 n f g) i d) else none
      | _ => none
     | _ => none
    | _ => none
   | none => none
 | none => none
theorem zKl {m : MD} {d c : SD} {r : List (SD × SD)} {k T es n i : Nat} {f : Nat → SD} (hit : m.it = some (.live T es n f i)) (x : zDp h e w k (.mp m ((d, c) :: r))) :
  ∃ xs, w.ownsRow 0 T es (e.hd k) n xs ∧ n ≤ maxN ∧ i < n ∧ (∀ j, j < n → j ≠ i → yEv h (f j) xs es j) ∧ ∃ u : Value, rep h d e u ∧ u.cells.toList = cut xs (i * es) es ∧ u.cells.size = es ∧ ∀ c ∈ u.cells, c.oneCell' = true := by
 unfold zDp at x
 simp only [hit] at x
 obtain ⟨xs, h1, h2, h3, h4, u, h5, h6⟩ := x
 exact ⟨xs, h1, h2, h3, h4, u, h5 d c r rfl, h6⟩
theorem zIx {d : SD} {k T es n i : Nat} {f : Nat → SD} {xs : List Value} (h1 : w.ownsRow 0 T es (e.hd k) n xs) (h2 : n ≤ maxN) (h3 : i < n) (h4 : ∀ j, j < n → j ≠ i → yEv h (f j) xs es j)
  {u : Value} (h5 : rep h d e u) (h6 : u.cells.toList = cut xs (i * es) es ∧ u.cells.size = es ∧ ∀ c ∈ u.cells, c.oneCell' = true) : zDp h e w k (zF5 T es n f i d) :=
 ⟨xs, h1, h2, h3, h4, u, fun d' c r hr => by cases hr; exact h5, h6⟩
theorem zCr {T es n i : Nat} {f : Nat → SD} {d : SD} : (zF5 T es n f i d).isAcc = true := rfl
theorem yAm (D : Den F w0 s h e a w) {t T nx : Nat} (ht : t < s.n) (hF : Free s nx) {x y : Operand} {ty : Nat} {pos : String} {af : Array Edge} {g : Option (Nat × Bool)} {p : List Prop} {u : List (Nat × Option OB)} {ob : OB}
  (hq : yC1 P s T (ev s x) (ev s y) = some (p, u, ob)) (hp : zAn p) (hsd : ∀ k ob', u = [(k, ob')] → k < 700 ∨ 700 ≤ nx) (K : Act → World → Prop) (Q : Exit → Act → World → Prop) (hK : ∀ h' e' a' w', Den F w0 ⟨s.n, s.nx, upd s.sl t (.acc nx), zNg ((nx, some ob) :: u) s.ow⟩ h' e' a' w' → K a' w') :
  (⟨some t, .call ⟨.builtin .append, #[x, y], #[T, T]⟩, ty, pos, af, g⟩ : Oper).wp P a w K Q := by
 have he := fun v' : Value => e.but_setH nx v'
 have hmen : ∀ {j : Nat} {m : MD} {d c : SD} {r : List (SD × SD)}, lkO s.ow j = some (.mp m ((d, c) :: r)) → men nx d = false := fun ho => by
  have := (hF.ow _ _ ho).2.2 _ _ rfl;simp only [zC4, Bool.or_eq_false_iff] at this;exact this.1
 have hrowk : ∀ {k : Nat} {o : OB}, lkO s.ow k = some o → o.isAcc = true → (k < 700 ∨ 700 ≤ nx) → ∀ b, (e.hd k).ownBlock = some b → (w0.w.heap.size ≤ b ∨ (b ∈ F ∧ 700 ≤ nx)) ∧ h b = none ∧ ∀ j o', some k ≠ some j → lkO s.ow j = some o' → o'.blk e j ≠ some b := fun {k o} ho hac hs7 b hb => by
  have hbk : o.blk e k = some b := by rw [zF9 hac]; exact hb
  refine ⟨?_, (D.ownb k _ b ho hbk).2, fun j o' hjk hj hc => D.apart j k o' _ b (fun hc => hjk (by rw [hc])) hj ho hc hbk⟩
  rcases (D.ownb k _ b ho hbk).1 with hx | hx
  ·exact .inl hx
  ·rcases hs7 with hh | hh
   ·have := hx.2; omega
   ·exact .inr ⟨hx.1, hh⟩
 unfold yC1 at hq
 split at hq
 ·rename_i te hT
  split at hq
  ·rename_i j hy
   split at hq
   ·rename_i m2 d c0 r2 hoj
    split at hq
    ·rename_i te2 es2 n2 f2 i2 hit
     cases hb : (Nat.beq te te2 && Nat.beq (szT P te) es2 && Nat.beq n2 1 && Nat.beq i2 0)
     ·rw [hb] at hq; cases hq
     ·rw [hb] at hq
      simp only [cond_true] at hq;simp only [zz3] at hb;obtain ⟨⟨⟨c1, c2⟩, c3⟩, c4⟩ := hb;have c1 := zz4 c1;have c2 := zz4 c2;have c3 := zz4 c3;have c4 := zz4 c4;subst c1 c3 c4;obtain ⟨ys, y1, y2, y3, y4, uv, y5, y6, y7, y8⟩ := zKl hit (D.own j _ hoj);rw [← c2] at y1 y6 y7;have hyl : ys.length = 1 * szT P te := y1.1
      have hyc : cut ys (0 * szT P te) (szT P te) = ys := by
       simp only [cut, Nat.zero_mul, List.drop_zero];exact List.take_of_length_le (by omega)
      rw [hyc] at y6;have hyv := D.ev y;rw [hy] at hyv;simp only [rep] at hyv;have hyone : ∀ u ∈ ys, u.oneCell' = true := fun u hu => y8 u (by rw [← y6] at hu; simpa using hu)
      obtain ⟨ao, cc, hys, hao⟩ : ∃ b cc, a.eval y = .slice (some ⟨b, 0, none⟩) 1 cc ∧ (e.hd j).ownBlock = some b := by
       rcases y1.2 with ⟨hv, hn⟩ | ⟨g, cap, cur, hv, _⟩
       ·omega
       ·exact ⟨g, cap, by rw [hyv.1, hv], by rw [hv]; rfl⟩
      have hyn : ∀ ad, some (⟨ao, 0, none⟩ : Addr) = some ad → ∀ i u, ys[i]? = some u → w.cell? (ad.add i) = some u := fun ad had i u hu => by
       cases had;exact y1.cells hao i u hu
      have el : ∀ v', ∃ u : Value, rep h d (e.setH nx v') u ∧ u.cells.toList = ys ∧ u.cells.size = szT P te ∧ ∀ c ∈ u.cells, c.oneCell' = true := fun v' => ⟨uv, zDo (he v') d uv (hmen hoj) y5, y6, y7, y8⟩;split at hq
      ·rename_i hx
       simp only [zz1, Prod.mk.injEq] at hq;obtain ⟨rfl, rfl, rfl⟩ := hq;have hxv := D.ev x;rw [hx] at hxv;simp only [rep] at hxv;refine zTy D ht hF (kill := none) hT hxv (World.ownsRow_nil w 0 te (szT P te)) (fun b hb => by simp [Value.ownBlock] at hb) hys (fun hc => by cases hc) hyl hyn hyone (by omega) zCr (fun v' w' hw => ?_) K Q hK;obtain ⟨u, u1, u2, u3, u4⟩ := el v';rw [List.nil_append] at hw;refine zIx (xs := ys) (by simpa [Nm.setH] using hw) (by simp [maxN]) (by omega) (fun j hj hne => by omega) u1 ⟨by rw [hyc]; exact u2, u3, u4⟩
      ·rename_i k hx
       split at hq
       ·rename_i te' es' n f hok
        cases hb2 : (Nat.beq te te' && Nat.beq (szT P te) es')
        ·rw [hb2] at hq; cases hq
        ·rw [hb2] at hq
         simp only [cond_true, zz1, Prod.mk.injEq] at hq;obtain ⟨rfl, rfl, rfl⟩ := hq;simp only [zz3] at hb2;have f1 := zz4 hb2.1;have f2 := zz4 hb2.2;subst f1 f2;simp only [zAn] at hp;have hxv := D.ev x;rw [hx] at hxv;simp only [rep] at hxv;obtain ⟨xs, o1, o2, o3⟩ := D.own k _ hok;refine zTy D ht hF (kill := some k) hT hxv.1 o1 (hrowk hok rfl (hsd k none rfl)) hys (fun hc => by cases hc) hyl hyn hyone hp.1 zCr (fun v' w' hw => ?_) K Q hK;obtain ⟨u, u1, u2, u3, u4⟩ := el v';refine zIx (xs := xs ++ ys) (by simpa [Nm.setH] using hw) hp.1 (by omega) (fun j hj hne => ?_) u1 ⟨?_, u3, u4⟩
         ·obtain ⟨q, q1, q2, q3⟩ := o3 j (by omega)
          exact ⟨q, q1, by rw [zM9 o1.1 (by omega)]; exact q2, q3⟩
         ·rw [show n * szT P te = (n + 0) * szT P te by rw [Nat.add_zero], zOy o1.1, hyc]; exact u2
       ·cases hq
      ·cases hq
    ·cases hq
   ·cases hq
  ·rename_i hny
   split at hq
   ·rename_i m gf hsrc
    split at hq
    ·rename_i k hx
     split at hq
     ·rename_i m1 d c0 r1 hok
      split at hq
      ·rename_i te' es' n f i hit
       cases hb2 : (Nat.beq te te' && Nat.beq (szT P te) es')
       ·rw [hb2] at hq; cases hq
       ·rw [hb2] at hq
        simp only [cond_true, zz1, Prod.mk.injEq] at hq;obtain ⟨rfl, rfl, rfl⟩ := hq;simp only [zz3] at hb2;have f1 := zz4 hb2.1;have f2 := zz4 hb2.2;subst f1 f2;simp only [zAn] at hp;have hxv := D.ev x;rw [hx] at hxv;simp only [rep] at hxv;obtain ⟨ao, c, hyv, hao, hml, news, hnl, hnc, hn1, hng⟩ := zPl D.sub (D.ev y) hsrc;obtain ⟨xs, o1, o2, o3, o4, uv, y5, y6, y7, y8⟩ := zKl hit (D.own k _ hok);have hacc : (OB.mp m1 ((d, c0) :: r1)).isAcc = true := by simp only [OB.isAcc, hit]
        refine zTy D ht hF (kill := some k) hT hxv.1 o1 (hrowk hok hacc (hsd k none rfl)) hyv hao hnl hnc hn1 hp.1 zCr (fun v' w' hw => ?_) K Q hK;refine zIx (xs := xs ++ news) (by simpa [Nm.setH] using hw) hp.1 (by omega) (fun j hj hne => ?_) (zDo (he v') d uv (hmen hok) y5) ⟨by rw [zM9 o1.1 o3]; exact y6, y7, y8⟩;by_cases hjn : j < n
        ·obtain ⟨q, q1, q2, q3⟩ := o4 j hjn hne
         exact ⟨q, fun e' => by simp only [zA3, hjn, if_true]; exact q1 e', by rw [zM9 o1.1 hjn]; exact q2, q3⟩
        ·obtain ⟨q, q1, q2, q3⟩ := hng (j - n) (by omega)
         refine ⟨q, fun e' => by simp only [zA3, hjn, if_false]; exact q1 e', ?_, q3⟩;rw [show j * szT P te = (n + (j - n)) * szT P te by rw [show n + (j - n) = j by omega], zOy o1.1];exact q2
      ·cases hq
     ·cases hq
    ·cases hq
   ·cases hq
 ·cases hq
theorem zTo {σ : St} {T : Nat} {x y : SD} {r : List Prop × List (Nat × Option OB) × OB} (hx : OwM s σ x) (hy : OwM s σ y) (hq : yC1 P s T x y = some r) : yC1 P σ T x y = some r := by
 unfold yC1 at hq ⊢
 split at hq
 ·split at hq
  ·rename_i j
   split at hq
   ·rename_i ho
    simp only [hy j _ (by simp [men]) ho];split at hq
    ·cases hb : (Nat.beq _ _ && Nat.beq _ _ && Nat.beq _ 1 && Nat.beq _ 0)
     ·rw [hb] at hq; cases hq
     ·rw [hb] at hq
      simp only [cond_true] at hq ⊢;split at hq
      ·exact hq
      ·rename_i k
       split at hq
       ·rename_i ho2
        simp only [hx k _ (by simp [men]) ho2];exact hq
       ·cases hq
      ·cases hq
    ·cases hq
   ·cases hq
  ·split at hq
   ·split at hq
    ·rename_i k
     split at hq
     ·rename_i ho2
      simp only [hx k _ (by simp [men]) ho2];exact hq
     ·cases hq
    ·cases hq
   ·cases hq
 ·cases hq
variable {Q : Exit → Act → World → Prop} {l : List Oper} {s0 : St} {rs : List Rec} {id : Nat} {rest : List Oper}
theorem zQ1 {t T : Nat} {x y : Operand} {ty : Nat} {pos : String} {af : Array Edge} {p : List Prop} {u : List (Nat × Option OB)} {ob : OB} {s' : St} (hq : yC1 P s T (ev s x) (ev s y) = some (p, u, ob)) (hp : zAn p) (hs : apS s t u ob = some s')
  (hn : zAy P F w0 Q id l s0 (rs ++ [zS0 s t x y u ob]) rest s') : zAy P F w0 Q id l s0 rs (⟨some t, .call ⟨.builtin .append, #[x, y], #[T, T]⟩, ty, pos, af, none⟩ :: rest) s := fun K => by
 unfold apS at hs
 cases hb : Nat.blt t s.n
 ·rw [hb] at hs; cases hs
 rw [hb] at hs
 simp only [cond_true, zz1] at hs
 subst hs
 have g1 : ∀ p ∈ (zS0 s t x y u ob).slots, lkp s.sl p.1 = p.2 := zBe
 have g2 : ∀ p ∈ (zS0 s t x y u ob).keys, lkO s.ow p.1 = some p.2 := zDd
 refine hn (K.snoc g1 g2 (fun σ hn h1 h2 h3 h e a w D K Q hK => ?_) ⟨rfl, fun _ => rfl, fun _ => rfl⟩)
 rw [if_pos (by simp [Region.wanted])]
 have hev := zBb (s := s) (s' := σ) (l := [x, y]) h1
 have e1 := hev x (by simp)
 have e2 := hev y (by simp)
 have hm : OwM s σ (ev s x) := fun k o hm ho => h2 (k, o) (zCj (by simp [zRh, hm]) ho)
 have hm2 : OwM s σ (ev s y) := fun k o hm ho => h2 (k, o) (zCj (by simp [zRh, hm]) ho)
 refine yAm D (by rw [hn]; exact zAm hb) (h3 (apK s u) (by simp [zS0])) (by rw [e1, e2]; exact zTo hm hm2 hq) hp zNh K Q fun h' e' a' w' D' => hK h' e' a' w' D'
theorem zAg {fin : Exit → Act → World → Prop} {kl : List It} (k : Nat) {T es n i : Nat} {f : Nat → SD} {d : SD} (ho : lkO s.ow k = some (zF5 T es n f i d)) (hd : zCy d = true)
  (hn : Run P F w0 fin kl ⟨s.n, s.nx, s.sl, upd s.ow k (.acc T es n (fun j => if j = i then d else f j))⟩) : Run P F w0 fin kl s := fun h e a w D => by
 refine hn h e a w ?_
 have hb : ∀ e : Nm, (OB.acc T es n (fun j => if j = i then d else f j)).blk e k = (zF5 T es n f i d).blk e k := fun e => by rw [zF9 rfl, zF9 zCr]
 refine ⟨D.defers, D.size, D.slot, fun j o hj => ?_, fun j o b hj hbb => ?_, fun j j' o o' b hne hj hj' hbb => ?_, D.sub, D.keeps, D.le, D.neww, D.fix⟩
 ·rw [zA2] at hj
  by_cases hjk : j = k
  ·subst hjk
   simp only [if_true, zz1] at hj;subst hj;obtain ⟨xs, o1, o2, o3, o4, uv, y5, y6⟩ := zKl rfl (D.own j _ ho);refine ⟨xs, o1, o2, fun q hq => ?_⟩;by_cases hqi : q = i
   ·subst hqi
    exact ⟨uv, fun e' => by show rep h (if q = q then d else f q) e' uv; rw [if_pos rfl]; exact zDc (e' := e') _ _ hd y5, y6⟩
   ·obtain ⟨u, u1, u2⟩ := o4 q hq hqi
    exact ⟨u, fun e' => by show rep h (if q = i then d else f q) e' u; rw [if_neg hqi]; exact u1 e', u2⟩
  ·simp only [hjk, if_false] at hj
   exact D.own j o hj
 ·rw [zA2] at hj
  by_cases hjk : j = k
  ·subst hjk
   simp only [if_true, zz1] at hj;subst hj;rw [hb] at hbb;exact D.ownb j _ b ho hbb
  ·simp only [hjk, if_false] at hj
   exact D.ownb j o b hj hbb
 ·rw [zA2] at hj hj'
  by_cases hjk : j = k
  ·subst hjk
   simp only [if_true, zz1] at hj;subst hj;rw [hb] at hbb;have hjk' : ¬ j' = j := fun hc => hne hc.symm;simp only [hjk', if_false] at hj';exact D.apart j j' _ o' b hne ho hj' hbb
  ·simp only [hjk, if_false] at hj
   by_cases hjk' : j' = k
   ·subst hjk'
    simp only [if_true, zz1] at hj';subst hj';rw [hb];exact D.apart j j' o _ b hne hj ho hbb
   ·simp only [hjk', if_false] at hj'
    exact D.apart j j' o o' b hne hj hj' hbb
def elL (es off : Nat) (c : List SD) (x old : SD) : Option SD :=
 bif Nat.beq off 0 && Nat.beq c.length es then some x else
  match cellsD old with
  | some l => bif Nat.ble (off + c.length) l.length then some (.agg (l.take off ++ c ++ l.drop (off + c.length))) else none
  | none => none
theorem yEt {es off : Nat} {c : List SD} {x old d : SD} {u v : Value} (hq : elL es off c x old = some d) (hc : cellsD x = some c) (hx : rep h x e v) (ho : rep h old e u) (hus : u.cells.size = es) :
  off + c.length ≤ es ∧ ∃ u', rep h d e u' ∧ u'.cells.toList = (u.cells.toList.take off ++ v.cells.toList ++ u.cells.toList.drop (off + c.length)) := by
 have hcl := zAq (zAx hc hx)
 unfold elL at hq
 cases hb : (Nat.beq off 0 && Nat.beq c.length es)
 ·rw [hb] at hq
  simp only [cond_false] at hq;cases hcd : cellsD old with
  | none => rw [hcd] at hq; cases hq
  | some l =>
   rw [hcd] at hq;simp only at hq;cases hb2 : Nat.ble (off + c.length) l.length
   ·rw [hb2] at hq; cases hq
   ·rw [hb2] at hq
    simp only [cond_true, zz1] at hq;subst hq;have h1 := Nat.le_of_ble_eq_true hb2;have hol := zAq (zAx hcd ho);have hol' : l.length = es := by rw [← hol]; simpa using hus
    refine ⟨by omega, .agg (u.cells.toList.take off ++ v.cells.toList ++ u.cells.toList.drop (off + c.length)).toArray, ?_, by simp [Value.cells]⟩;simp only [rep];exact ⟨_, rfl, zBg (zBg (zDh off (zAx hcd ho)) (zAx hc hx)) (zBy _ (zAx hcd ho))⟩
 ·rw [hb] at hq
  simp only [cond_true, zz1] at hq;subst hq;simp only [zz3] at hb;have h1 := zz4 hb.1;have h2 := zz4 hb.2;subst h1;refine ⟨by omega, v, hx, ?_⟩;have : u.cells.toList.drop c.length = [] := List.drop_eq_nil_of_le (by simp; omega);simp [this]
def yAe (P : Program) (s : St) (T : Nat) (p x : SD) : Option (Nat × OB) :=
 match p with
 | .aptr k es i off => match lkO s.ow k with
  | some (.mp m ((d0, _) :: _)) => match m.it, cellsD x with
   | some (.live te es' n f i0), some c => bif Nat.beq i i0 && Nat.beq es es' && Nat.beq c.length (szT P T) && Nat.ble 1 c.length then
     match elL es off c x d0 with
     | some d => some (k, zF5 te es n f i0 d)
     | none => none
    else none
   | _, _ => none
  | _ => none
 | _ => none
theorem zTn {σ : St} {T : Nat} {p x : SD} {r : Nat × OB} (hm : OwM s σ p) (hq : yAe P s T p x = some r) : yAe P σ T p x = some r := by
 unfold yAe at hq ⊢
 split at hq
 ·rename_i k es i off
  split at hq
  ·rename_i ho
   simp only [hm k _ (by simp [men]) ho];exact hq
  ·cases hq
 ·cases hq
theorem zNp (D : Den F w0 s h e a w) {T : Nat} {x y : Operand} {ty : Nat} {pos : String} {af : Array Edge} {k : Nat} {o : OB} (hq : yAe P s T (ev s x) (ev s y) = some (k, o))
  (K : Act → World → Prop) (Q : Exit → Act → World → Prop) (hK : ∀ h' e' a' w', Den F w0 { s with ow := upd s.ow k o } h' e' a' w' → K a' w') : (⟨none, .store T x y, ty, pos, af, none⟩ : Oper).wp P a w K Q := by
 unfold yAe at hq
 split at hq
 ·rename_i k0 es i off hx
  split at hq
  ·rename_i m d0 c0 r0 ho
   split at hq
   ·rename_i te es' n f i0 c hit hc
    cases hb : (Nat.beq i i0 && Nat.beq es es' && Nat.beq c.length (szT P T) && Nat.ble 1 c.length)
    ·rw [hb] at hq; cases hq
    ·rw [hb] at hq
     simp only [cond_true] at hq;simp only [zz3] at hb;obtain ⟨⟨⟨b0, b1⟩, b2⟩, b3⟩ := hb;have b0 := zz4 b0;have b1 := zz4 b1;subst b0 b1;have b2 := zz4 b2;have b3 := Nat.le_of_ble_eq_true b3;split at hq
     ·rename_i d hd
      simp only [zz1, Prod.mk.injEq] at hq;obtain ⟨rfl, rfl⟩ := hq;have hxv := D.ev x;rw [hx] at hxv;simp only [rep] at hxv;obtain ⟨b, mm0, cp, x1, x2, x3⟩ := hxv;obtain ⟨xs, o1, o2, o3, o4, u, u1, u2, u3, u4⟩ := zKl hit (D.own k0 _ ho)
      rcases o1.2 with ⟨hv, _⟩ | ⟨g, cap, cur, hv, _, hg, hnc, hcm, hcs, htake⟩
      ·rw [x1] at hv; cases hv
      ·rw [x1] at hv
       cases hv;have hcv := zAx hc (D.ev y);have hcl := zAq hcv;obtain ⟨q1, u', q2, q3⟩ := yEt hd hc (D.ev y) u1 u3;have hxl := o1.1;have hin : (i + 1) * es ≤ n * es := Nat.mul_le_mul_right _ x2;rw [Nat.add_mul, Nat.one_mul] at hin;have hmc : n * es ≤ cp * es := Nat.mul_le_mul_right _ hnc;obtain ⟨mm, hm⟩ : ∃ m, szT P T = m + 1 := ⟨szT P T - 1, by omega⟩;obtain ⟨ti, hi, hs⟩ := zAl hm;have hst := run_storeCells_at P b (i * es + off) te (a.eval y).cells.toList 0 cur w hg (by rw [hcl]; simp; omega) (zDw hcv);simp only [Nat.add_zero] at hst;have hsz : (a.eval y).cells.size = ti.size := by rw [hs, ← hm, ← b2, ← hcl]; simp
       have hr : (execOp a.eval ⟨none, .store T x y, ty, pos, af, none⟩).run P w = .ok .skip (w.setRow b (cur.toList.take (i * es + off) ++ (a.eval y).cells.toList ++ cur.toList.drop (i * es + off + (a.eval y).cells.toList.length)).toArray) := by
        simp [execOp, x3, Instr.storeAt, Instr.sureAddr, storeVar, sizeOf, typeInfo, hi, hsz, hst]
       unfold Oper.wp;rw [hr];have hacc : (OB.mp m ((d0, c0) :: r0)).isAcc = true := by simp only [OB.isAcc, hit]
       have hblk : (OB.mp m ((d0, c0) :: r0)).blk e k0 = some b := by rw [zF9 hacc]; simp [x1, Value.ownBlock]
       have hlen : (cur.toList.take (i * es + off) ++ (a.eval y).cells.toList ++ cur.toList.drop (i * es + off + c.length)).length = cp * es := by
        simp only [List.length_append, List.length_take, List.length_drop, hcl, Array.length_toList];omega
       refine hK h e _ _ ((D.setOwn (w' := w.setRow b (cur.toList.take (i * es + off) ++ (a.eval y).cells.toList ++ cur.toList.drop (i * es + off + (a.eval y).cells.toList.length)).toArray) (o' := zF5 te es n f i d) ho (by rw [hblk, zF9 zCr]; simp [x1, Value.ownBlock]) ?_ ?_ rfl rfl rfl (by simp)).put_none _)
       ·rw [hcl]
        obtain ⟨s1, s2⟩ := zUh (xs := xs) (c := (a.eval y).cells.toList) (es := es) (o := off) (i := i) (n := n) hxl x2 (by rw [hcl]; exact q1);rw [hcl] at s1 s2;refine zIx (xs := xs.take (i * es + off) ++ (a.eval y).cells.toList ++ xs.drop (i * es + off + c.length)) ⟨?_, .inr ⟨b, cp, _, x1, Nat.zero_le _, setRow_heap w b cur _ te _ hg, hnc, hcm, ?_, ?_⟩⟩ o2 o3 (fun j hj hji => ?_) q2 ⟨?_, ?_, ?_⟩
        ·simp only [List.length_append, List.length_take, List.length_drop, hcl]
         omega
        ·simpa using hlen
        ·rw [← htake]
         have hA : (cur.toList.take (i * es + off) ++ (a.eval y).cells.toList).length = i * es + off + c.length := by
          rw [List.length_append, List.length_take, hcl, Array.length_toList];omega
         show List.take (n * es) (cur.toList.take (i * es + off) ++ (a.eval y).cells.toList ++ cur.toList.drop (i * es + off + c.length)) = _;rw [List.take_append, List.take_of_length_le (by omega), hA, List.take_take, Nat.min_eq_left (by omega), List.drop_take]
        ·obtain ⟨w1, w2, w3, w4⟩ := o4 j hj hji
         exact ⟨w1, w2, by rw [s1 j hji hj]; exact w3, w4⟩
        ·rw [s2, q3, u2]
        ·have := congrArg List.length q3
         simp only [Array.length_toList, List.length_append, List.length_take, List.length_drop, hcl, u3] at this;omega
        ·intro v hv
         have hv' : v ∈ u'.cells.toList := by simpa using hv
         rw [q3] at hv';simp only [List.mem_append] at hv'
         rcases hv' with (hv' | hv') | hv'
         ·exact u4 v (by simpa using List.mem_of_mem_take hv')
         ·exact zDw hcv v hv'
         ·exact u4 v (by simpa using List.mem_of_mem_drop hv')
       ·intro b' hbk
        exact setRow_other w _ b' _ (fun hc => hbk (by rw [hblk, hc]))
     ·cases hq
   ·cases hq
  ·cases hq
 ·cases hq
variable {ops : Array Oper}
theorem zJ5 {T : Nat} {x y : Operand} {ty : Nat} {pos : String} {af : Array Edge} {k : Nat} {o : OB} {s' : St} (hq : yAe P s T (ev s x) (ev s y) = some (k, o)) (hs : asS s k o = some s')
  (hn : zAi P F w0 ops Q rest s') : zAi P F w0 ops Q (⟨none, .store T x y, ty, pos, af, none⟩ :: rest) s := fun h e a w D => by
 simp only [asS, zz1] at hs
 subst hs
 exact zAf rfl fun K hK => zNp D hq K _ fun h' e' a' w' D' => hK _ _ (hn _ _ _ _ D')
theorem zU0 {T : Nat} {x y : Operand} {ty : Nat} {pos : String} {af : Array Edge} {k : Nat} {o : OB} {s' : St} (hq : yAe P s T (ev s x) (ev s y) = some (k, o)) (hs : asS s k o = some s')
  (hn : zAy P F w0 Q id l s0 (rs ++ [zIs s x y k o]) rest s') : zAy P F w0 Q id l s0 rs (⟨none, .store T x y, ty, pos, af, none⟩ :: rest) s := fun K => by
 simp only [asS, zz1] at hs
 subst hs
 have g1 : ∀ p ∈ (zIs s x y k o).slots, lkp s.sl p.1 = p.2 := zBe
 have g2 : ∀ p ∈ (zIs s x y k o).keys, lkO s.ow p.1 = some p.2 := zDd
 refine hn (K.snoc g1 g2 (fun σ hn h1 h2 h3 h e a w D K Q hK => ?_) ⟨rfl, fun _ => rfl, fun _ => rfl⟩)
 rw [if_pos (by simp [Region.wanted])]
 have hev := zBb (s := s) (s' := σ) (l := [x, y]) h1
 have e1 := hev x (by simp)
 have e2 := hev y (by simp)
 have hm : OwM s σ (ev s x) := fun k o hm ho => h2 (k, o) (zCj (by simp [zRh, hm]) ho)
 exact zNp D (by rw [e1, e2]; exact zTn hm hq) K Q fun h' e' a' w' D' => hK h' e' a' w' D'
def yCv (P : Program) (s : St) (t T : Nat) (x : SD) : Option OB :=
 bif Nat.beq (kdT P T) 1 && Nat.blt t s.n then
  match elT P T, cellsD x with
  | some te, some c => bif Nat.ble 1 (szT P te) && Nat.ble (szT P te) 16777216 && Nat.beq c.length (szT P te) && bsD.bdZ P te then some (zF5 te (szT P te) 1 (fun _ => .any) 0 x) else none
  | _, _ => none
 else none
theorem zTw (D : Den F w0 s h e a w) {t T nx : Nat} (hF : Free s nx) {x : Operand} {ty : Nat} {pos : String} {af : Array Edge} {g : Option (Nat × Bool)} {ob : OB} (hmx : men nx (ev s x) = false)
  (hq : yCv P s t T (ev s x) = some ob) (K : Act → World → Prop) (Q : Exit → Act → World → Prop) (hK : ∀ h' e' a' w', Den F w0 ⟨s.n, s.nx, upd s.sl t (.acc nx), zNg [(nx, some ob)] s.ow⟩ h' e' a' w' → K a' w') :
  (⟨some t, .buildSlice T 1 #[(0, x)], ty, pos, af, g⟩ : Oper).wp P a w K Q := by
 unfold yCv at hq
 cases hk : (Nat.beq (kdT P T) 1 && Nat.blt t s.n)
 ·rw [hk] at hq; cases hq
 ·rw [hk] at hq
  simp only [cond_true] at hq;simp only [zz3] at hk;obtain ⟨hk1, hk2⟩ := hk;obtain ⟨te, hu⟩ := zPb hk1;have ht := zAm hk2;split at hq
  ·rename_i te' c hte hc
   have := zBr hu hte;subst this;cases hb : (Nat.ble 1 (szT P te') && Nat.ble (szT P te') 16777216 && Nat.beq c.length (szT P te') && bsD.bdZ P te')
   ·rw [hb] at hq; cases hq
   ·rw [hb] at hq
    simp only [cond_true, zz1] at hq;subst hq;simp only [zz3] at hb;obtain ⟨⟨⟨b1, b3⟩, b4⟩, b6⟩ := hb;have b1 := Nat.le_of_ble_eq_true b1;have b3 := Nat.le_of_ble_eq_true b3;have b4 := zz4 b4;obtain ⟨m, hm⟩ : ∃ m, szT P te' = m + 1 := ⟨szT P te' - 1, by omega⟩;obtain ⟨i, hi, hs⟩ := zAl hm;cases hz : i.zero with
    | none => simp [bsD.bdZ, hi, hz] at b6
    | some z =>
     have hes : szT P te' = i.size := by omega
     have hcv := zAx hc (D.ev x);have hcl := zAq hcv
     have hvs : (a.eval x).cells.size = i.size := by
      have : (a.eval x).cells.toList.length = c.length := hcl;rw [Array.length_toList] at this;omega
     obtain ⟨cells', f1, f2⟩ := zM4 (es := i.size) [a.eval x] 0 ((Array.range (1 * i.size)).map (z.cells[· % z.cells.size]!)) (fun v hv => by rw [List.mem_singleton] at hv; subst hv; exact hvs) (by simp);have hrun := run_buildSlice (P := P) w T te' 1 #[(0, a.eval x)] cells' i z hu hi hz (by omega) (by omega) f1
     have hcells : cells'.toList = (a.eval x).cells.toList := by
      rw [f2];simp only [Nat.zero_mul, List.take_zero, List.nil_append, List.length_cons, List.length_nil, Nat.zero_add, List.flatMap_cons, List.flatMap_nil, List.append_nil];rw [List.drop_eq_nil_of_le (by simp), List.append_nil]
     have hcsz : cells'.size = i.size := by
      have := congrArg List.length hcells;simp only [Array.length_toList] at this;omega
     unfold Oper.wp
     have hex : (execOp a.eval ⟨some t, .buildSlice T 1 #[(0, x)], ty, pos, af, g⟩).run P w = .ok (.value (.slice (some ⟨w.heap.size, 0, none⟩) 1 1)) (w.alloc (.cells cells' te')) := by
      have h2 : (#[(0, x)].map fun (i, x) => (i, a.eval x)) = #[(0, a.eval x)] := by simp
      simp only [execOp, Sem.run_bind, h2, hrun, Result.andThen_ok];rfl
     rw [hex]
     have D1 := D.accG (k := nx) (kill := none) (ob := zF5 te' (szT P te') 1 (fun _ => .any) 0 (ev s x)) (v' := .slice (some ⟨w.heap.size, 0, none⟩) 1 1) (w' := w.alloc (.cells cells' te')) (row := none)
      hF zCr ?_ (fun b hb => by cases hb) (fun b hb => by simp [Value.ownBlock] at hb; exact .inr hb.symm) (Grw.alloc w _ none)
     ·have D2 := D1.put (i := t) (d := .acc nx) (v := .slice (some ⟨w.heap.size, 0, none⟩) 1 1) ht (by simp only [rep, Nm.setH, if_true]; exact ⟨trivial, _, _, _, rfl⟩)
      exact hK _ _ _ _ (D2.congr rfl (fun _ => rfl) fun _ => rfl)
     ·refine zIx (xs := cells'.toList) ?_ (by simp [maxN]) (by omega) (fun j hj hne => by omega) (zDo (e.but_setH nx _) _ (a.eval x) hmx (D.ev x)) ⟨?_, by omega, fun c hc => zDw hcv c (by simpa using hc)⟩
      ·simp only [Nm.setH, if_true]
       refine ⟨by rw [Array.length_toList]; omega, .inr ⟨w.heap.size, 1, cells', rfl, Nat.zero_le _, heap_alloc_new w _, Nat.le_refl _, by simp [maxLen], by omega, ?_⟩⟩;exact List.take_of_length_le (by rw [Array.length_toList]; omega)
      ·simp only [cut, Nat.zero_mul, List.drop_zero]
       rw [List.take_of_length_le (by rw [Array.length_toList]; omega), hcells]
  ·cases hq
def zVb (s : St) (t : Nat) (x : Operand) (ob : OB) : Rec := ⟨zBf s (tmpsOf [x]), [], some t, .acc s.nx, [(s.nx, some ob)], [s.nx]⟩
theorem yD4 {t T : Nat} {x : Operand} {ty : Nat} {pos : String} {af : Array Edge} {ob : OB} {s' : St} (hq : yCv P s t T (ev s x) = some ob) (hm : men s.nx (ev s x) = false) (hs : bsS s t ob = some s')
  (hn : zAy P F w0 Q id l s0 (rs ++ [zVb s t x ob]) rest s') : zAy P F w0 Q id l s0 rs (⟨some t, .buildSlice T 1 #[(0, x)], ty, pos, af, none⟩ :: rest) s := fun K => by
 simp only [bsS, zz1] at hs
 subst hs
 have g1 : ∀ p ∈ (zVb s t x ob).slots, lkp s.sl p.1 = p.2 := zBe
 refine hn (K.snoc (r := zVb s t x ob) g1 (fun p hp => by cases hp) (fun σ hn h1 h2 h3 h e a w D K Q hK => ?_) ⟨rfl, fun _ => rfl, fun _ => rfl⟩)
 rw [if_pos (by simp [Region.wanted])]
 have hev := zBb (s := s) (s' := σ) (l := [x]) h1
 have e1 := hev x (by simp)
 have hq' : yCv P σ t T (ev σ x) = some ob := by
  rw [e1];unfold yCv at hq ⊢;rw [hn];exact hq
 exact zTw D (h3 s.nx (by simp [zVb])) (by rw [e1]; exact hm) hq' K Q fun h' e' a' w' D' => hK h' e' a' w' D'
end
end Go.Sx
namespace Go.Sx
open Go.RowKit
section
variable {P : Program} {F : List Nat} {w0 : Base} {s : St} {h : Hp} {e : Nm} {a : Act} {w : World} {fin : Exit → Act → World → Prop} {kl : List It}
def hdS (s : St) (k n : Nat) (o : OB) : St := ⟨s.n, s.nx, (yC6 s k (.accH k n)).sl, upd (yC6 s k (.accH k n)).ow k o⟩
theorem yB6 (D : Den F w0 s h e a w) {k n : Nat} (hl : lenD s (.acc k) = some n) {v : Value} (x : rep h (.acc k) e v) : rep h (.accH k n) e v := by
 simp only [rep] at x ⊢
 obtain ⟨x1, ao, m, c, x2⟩ := x
 refine ⟨x1, ao, c, ?_⟩
 have hs : e.hd k = .slice ao m c := by rw [← x1, x2]
 simp only [lenD] at hl
 split at hl
 ·rename_i T es n' f ho
  cases hl;obtain ⟨xs, g1, _⟩ := D.own _ _ ho
  rcases g1.2 with ⟨hv, hn0⟩ | ⟨g, cap, cur, hv, _⟩
  ·rw [hs] at hv; cases hv; rw [x2, hn0]
  ·rw [hs] at hv; cases hv; exact x2
 ·rename_i m0 l ho
  obtain ⟨es, hlv⟩ : ∃ es, lvN m0 = some (es, n) := by
   cases hv : lvN m0 with
   | none => rw [hv] at hl; cases hl
   | some p => rw [hv] at hl; simp only [Option.map_some, zz1] at hl; subst hl; exact ⟨p.1, rfl⟩
  unfold lvN at hlv;split at hlv
  ·rename_i T es' n' f i hit
   cases hlv;have g := D.own _ _ ho;unfold zDp at g;simp only [hit] at g;obtain ⟨xs, g1, _⟩ := g
   rcases g1.2 with ⟨hv, hn0⟩ | ⟨g, cap, cur, hv, _⟩
   ·rw [hs] at hv; cases hv; rw [x2, hn0]
   ·rw [hs] at hv; cases hv; exact x2
  ·cases hlv
 ·cases hl
theorem Den.hdr (D : Den F w0 s h e a w) {k n : Nat} {o : OB} (ho : lkO s.ow k = some o) (hl : lenD s (.acc k) = some n) : Den F w0 (hdS s k n o) h e a w := by
 have D1 := D.val (k := k) (d0 := .accH k n) fun v x => yB6 D hl x
 have hno : lkO (yC6 s k (.accH k n)).ow k = none := by
  cases hx : lkO (yC6 s k (.accH k n)).ow k with
  | none => rfl
  | some o' => exact absurd rfl (zDr _ _ _ hx).1
 exact D1.addOwn (o := o) hno (D.own k o ho) (fun b hb => D.ownb k o b ho hb) (fun j o' b hj hb hc => by
  have hjk : j ≠ k := fun hc => by subst hc; rw [hno] at hj; cases hj
  obtain ⟨_, o0, g1, g2⟩ := zDr _ j o' hj
  have : o'.blk e j = o0.blk e j := by
   rcases g2 with ⟨x, rfl, rfl⟩ | ⟨m, x, rfl, rfl⟩ | rfl <;> rfl
  rw [this] at hb;exact D.apart j k o0 o b hjk g1 ho hb hc) s.nx
theorem zN5 (k : Nat) {n : Nat} {o : OB} {s' : St} (ho : lkO s.ow k = some o) (hl : lenD s (.acc k) = some n) (hs : hdS s k n o = s') (hn : Run P F w0 fin kl s') : Run P F w0 fin kl s := fun h e a w D => hn h e a w (hs ▸ D.hdr ho hl)
variable {Q : Exit → Act → World → Prop} {l : List Oper} {s0 : St} {rs : List Rec} {id : Nat} {rest : List Oper}
theorem zU2 {t T k n : Nat} {x y : Operand} {ty : Nat} {pos : String} {af : Array Edge} {p : List Prop} {u : List (Nat × Option OB)} {ob : OB} {s' : St} (hx : ev s x = .accH k n) (hq : apN P s T (.acc k) (ev s y) = some (p, u, ob)) (hp : zAn p) (hs : apS s t u ob = some s')
  (hn : zAy P F w0 Q id l s0 (rs ++ [zS0 s t x y u ob]) rest s') : zAy P F w0 Q id l s0 rs (⟨some t, .call ⟨.builtin .append, #[x, y], #[T, T]⟩, ty, pos, af, none⟩ :: rest) s := fun K => by
 unfold apS at hs
 cases hb : Nat.blt t s.n
 ·rw [hb] at hs; cases hs
 rw [hb] at hs
 simp only [cond_true, zz1] at hs
 subst hs
 have g1 : ∀ p ∈ (zS0 s t x y u ob).slots, lkp s.sl p.1 = p.2 := zBe
 have g2 : ∀ p ∈ (zS0 s t x y u ob).keys, lkO s.ow p.1 = some p.2 := zDd
 refine hn (K.snoc g1 g2 (fun σ hn h1 h2 h3 h e a w D K Q hK => ?_) ⟨rfl, fun _ => rfl, fun _ => rfl⟩)
 rw [if_pos (by simp [Region.wanted])]
 have hev := zBb (s := s) (s' := σ) (l := [x, y]) h1
 have e1 := hev x (by simp)
 have e2 := hev y (by simp)
 have hm : OwM s σ (.acc k) := fun k' o hm ho => h2 (k', o) (zCj (by
  have : men k' (ev s x) = true := by rw [hx]; exact hm
  simp [zRh, this]) ho)
 have hr := D.ev x
 rw [e1, hx] at hr
 have hr2 : rep h (.acc k) e (a.eval x) := by
  simp only [rep] at hr ⊢;obtain ⟨q1, ao, c, q2⟩ := hr;exact ⟨q1, ao, n, c, q2⟩
 refine zZl D (by rw [hn]; exact zAm hb) (h3 (apK s u) (by simp [zS0])) rfl hr2 (by rw [e2]; exact zO7 hm hq) hp zNh K Q fun h' e' a' w' D' => hK h' e' a' w' D'
theorem yDv {ops : Array Oper} {t T : Nat} {x : Operand} {ty : Nat} {pos : String} {af : Array Edge} {ob : OB} {s' : St} (hq : yCv P s t T (ev s x) = some ob) (hm : men s.nx (ev s x) = false) (hf : s.free s.nx = true) (hs : bsS s t ob = some s')
  (hn : zAi P F w0 ops Q rest s') : zAi P F w0 ops Q (⟨some t, .buildSlice T 1 #[(0, x)], ty, pos, af, none⟩ :: rest) s := fun h e a w D => by
 simp only [bsS, zz1] at hs
 subst hs
 exact zAf rfl fun K hK => zTw D (Free.of hf) hm hq K _ fun h' e' a' w' D' => hK _ _ (hn _ _ _ _ (D'.congr rfl (fun _ => rfl) fun _ => rfl))
end
end Go.Sx
namespace Go.Sx
open Go.RowKit
section
variable {P : Program} {F : List Nat} {w0 : Base} {s : St} {ops : Array Oper} {Q : Exit → Act → World → Prop} {rest : List Oper}
def zQm (P : Program) (tx : Nat) (name : String) (f : Nat) : Prop := ∀ (cs : Array Value) (args : Array Value) (w : World), (callMethod (.iface tx (.agg cs)) name args).run P w = .ok (.enter f (#[.agg cs] ++ args)) w
theorem zRv {tx f : Nat} {name : String} (hm : zQm P tx name f) {x : Operand} {a : Act} {cs : Array Value} (hx : a.eval x = .iface tx (.agg cs)) {w : World} {t : Option Nat} {args : Array Operand} {tys : Array Nat} {ty : Nat} {pos : String} {af : Array Edge} {g : Option (Nat × Bool)} :
  (execOp a.eval ⟨t, .call ⟨.invoke x name, args, tys⟩, ty, pos, af, g⟩).run P w = .ok (.enter f (.agg cs :: args.toList.map a.eval).toArray) w := by
 have e1 : (Value.agg cs :: args.toList.map a.eval).toArray = #[.agg cs] ++ args.map a.eval := by apply Array.ext'; simp
 have e2 : (#[a.eval x] ++ args.map a.eval).extract 1 (#[a.eval x] ++ args.map a.eval).size = args.map a.eval := by
  apply Array.ext'; simp only [Array.toList_extract, Array.toList_append, List.cons_append, List.nil_append, List.extract_eq_take_drop, List.drop_succ_cons, List.drop_zero]; exact List.take_of_length_le (by simp)
 have e3 : (#[a.eval x] ++ args.map a.eval)[0]? = some (a.eval x) := by rw [Array.getElem?_append_left (by simp)]; rfl
 have e4 : (invoke (.fn (.method name) #[]) (#[a.eval x] ++ args.map a.eval)).run P w = .ok (.enter f (#[.agg cs] ++ args.map a.eval)) w := by
  unfold invoke;rw [e2];simp only [e3];rw [hx];exact hm cs _ w
 rw [e1]
 simp only [execOp, resolve, Sem.run_bind, Sem.run_pure, Result.andThen_ok]
 exact e4
theorem zXm {f t tx : Nat} {name : String} {x : Operand} {l0 : List SD} {args : Array Operand} {tys : Array Nat} {ty : Nat} {pos : String} {af : Array Edge} {R : List SD → SD → Prop} {ds : List SD} {d : SD} {s' : St} (hm : zQm P tx name f) (hf : FnOK P f R)
  (hx : ev s x = .iface tx (.agg l0)) (ha : .agg l0 :: args.toList.map (unG s) = ds) (hg : zAn (gCs s args.toList [])) (hR : R ds d) (hs : zC0 s t d = some s')
  (hn : zAi P F w0 ops Q rest s') : zAi P F w0 ops Q (⟨some t, .call ⟨.invoke x name, args, tys⟩, ty, pos, af, none⟩ :: rest) s := fun h e a w D => by
 subst ha
 obtain ⟨ht, rfl⟩ := zA0 hs
 have hv := D.ev x
 rw [hx] at hv
 simp only [rep] at hv
 obtain ⟨u, hu, hd⟩ := hv
 obtain ⟨vs, rfl, hd'⟩ := hd
 refine zAf rfl fun K hK => ?_
 unfold Oper.wp
 rw [zRv hm hu]
 refine (hf.ok _ _ hR h e w (.agg vs.toArray :: args.toList.map a.eval) D.gh D.sub (by simp only [repT]; exact ⟨_, _, rfl, by simp only [rep]; exact ⟨vs, rfl, hd'⟩, zA1 D (zAt hg).1 fun _ hx => hx⟩)).mono fun en w' hq => ?_
 obtain ⟨v, h', rfl, g1, g2, g3, g4, g5⟩ := hq
 exact hK _ _ (hn _ _ _ _ ((D.called g1 g2 g3 g4).put ht (g5 e)))
variable {l : List Oper} {s0 : St} {rs : List Rec} {id : Nat}
theorem zX6 {f t tx : Nat} {name : String} {x : Operand} {l0 : List SD} {args : Array Operand} {tys : Array Nat} {ty : Nat} {pos : String} {af : Array Edge} {R : List SD → SD → Prop} {ds : List SD} {d : SD} {s' : St} (hm : zQm P tx name f) (hf : FnOK P f R)
  (hx : ev s x = .iface tx (.agg l0)) (ha : .agg l0 :: args.toList.map (unG s) = ds) (hg : zAn (gCs s args.toList [])) (hR : R ds d) (hs : zC0 s t d = some s')
  (hn : zAy P F w0 Q id l s0 (rs ++ [⟨zBf s (tmpsOf (x :: args.toList)), [], some t, d, [], []⟩]) rest s') : zAy P F w0 Q id l s0 rs (⟨some t, .call ⟨.invoke x name, args, tys⟩, ty, pos, af, none⟩ :: rest) s := fun K => by
 obtain ⟨ht, rfl⟩ := zA0 hs
 refine hn (K.snoc zBe (fun p hp => by cases hp) (fun σ hn h1 _ _ h e a w D K Q hK => ?_) ⟨rfl, fun _ => rfl, fun _ => rfl⟩)
 rw [if_pos (by simp [Region.wanted])]
 have hev := zBb (s := s) (s' := σ) (l := x :: args.toList) h1
 have ha' : .agg l0 :: args.toList.map (unG σ) = ds := by rw [← ha]; exact congrArg _ (List.map_congr_left fun y hy => by simp only [unG, hev y (List.mem_cons_of_mem _ hy)])
 have hg' : zAn (gCs σ args.toList []) := by rw [zAs fun y hy => hev y (List.mem_cons_of_mem _ hy)]; exact hg
 subst ha'
 have hv := D.ev x
 rw [hev x (List.mem_cons_self ..), hx] at hv
 simp only [rep] at hv
 obtain ⟨u, hu, hd⟩ := hv
 obtain ⟨vs, rfl, hd'⟩ := hd
 unfold Oper.wp
 rw [zRv hm hu]
 refine (hf.ok _ _ hR h e w (.agg vs.toArray :: args.toList.map a.eval) D.gh D.sub (by simp only [repT]; exact ⟨_, _, rfl, by simp only [rep]; exact ⟨vs, rfl, hd'⟩, zA1 D (zAt hg').1 fun _ hx => hx⟩)).mono fun en w' hq => ?_
 obtain ⟨v, h', rfl, g1, g2, g3, g4, g5⟩ := hq
 exact hK _ _ _ _ ((D.called g1 g2 g3 g4).put (by rw [hn]; exact ht) (g5 e))
theorem zD0 {f t j : Nat} {args : Array Operand} {tys : Array Nat} {ty : Nat} {pos : String} {af : Array Edge} {R : List SD → List OB → SD → List (Nat × OB) → Prop} (ks : List Nat) {caps ds : List SD} {os : List OB} {d : SD} {os' : List (Nat × OB)} {s' : St} (hf : FnM P f R) (hj : lkp s.sl j = .fn f caps) (hnd : nodupB ks = true)
  (ha : zI7 (tau ks) (args.toList.map (unG s) ++ caps) = ds) (hal : zC6 (fun x => zCq x ks) (fun x => zCq x ks) (args.toList.map (unG s) ++ caps) = true) (ho : zPd s ks ks = some os) (hg : zAn (gCs s args.toList [])) (hR : R ds os d os')
  (hs : zJa s t ks os d os' = some s') (hn : zAi P F w0 ops Q rest s') : zAi P F w0 ops Q (⟨some t, .call ⟨.value (.tmp j), args, tys⟩, ty, pos, af, none⟩ :: rest) s := fun h e a w D => by
 have hv := D.slot j
 rw [hj] at hv
 simp only [rep] at hv
 obtain ⟨vs, hv, hc⟩ := hv
 refine zAf rfl fun K hK => ?_
 unfold Oper.wp
 have hrun : (execOp a.eval ⟨some t, .call ⟨.value (.tmp j), args, tys⟩, ty, pos, af, none⟩).run P w = .ok (.enter f (args.toList.map a.eval ++ vs).toArray) w := by
  have : (args.toList.map a.eval ++ vs).toArray = args.map a.eval ++ vs.toArray := by apply Array.ext'; simp
  rw [this];have hev : a.eval (.tmp j) = .func (.func f) #[] vs.toArray := hv;simp [execOp, resolve, hev, Deferred.ofValue, invoke, hf.call]
 rw [hrun]
 obtain ⟨q1, q2, q3, q4⟩ := D.passF (zS3 hnd ha hal ho) (zCm (zA1 D (zAt hg).1 fun _ hx => hx) hc)
 refine (hf.ok ds os d os' hR h (e.inn ks) w _ D.gh D.sub q1 q2 q3 q4).mono fun en w' hq => ?_
 obtain ⟨v, h', e', rfl, D'⟩ := D.afterM ho hs hq
 exact hK _ _ (hn _ _ _ _ D')
theorem zS4 {f t j : Nat} {args : Array Operand} {tys : Array Nat} {ty : Nat} {pos : String} {af : Array Edge} {R : List SD → List OB → SD → List (Nat × OB) → Prop} (ks : List Nat) {caps ds : List SD} {os : List OB} {d : SD} {os' : List (Nat × OB)} {s' : St} (hf : FnM P f R) (hj : lkp s.sl j = .fn f caps) (hnd : nodupB ks = true)
  (ha : zI7 (tau ks) (args.toList.map (unG s) ++ caps) = ds) (hal : zC6 (fun x => zCq x ks) (fun x => zCq x ks) (args.toList.map (unG s) ++ caps) = true) (ho : zPd s ks ks = some os) (hg : zAn (gCs s args.toList [])) (hR : R ds os d os')
  (hs : zJa s t ks os d os' = some s') : OpT P F w0 ⟨some t, .call ⟨.value (.tmp j), args, tys⟩, ty, pos, af, none⟩ s s' := fun h e a w D K Q hK => by
 have hv := D.slot j
 rw [hj] at hv
 simp only [rep] at hv
 obtain ⟨vs, hv, hc⟩ := hv
 unfold Oper.wp
 have hrun : (execOp a.eval ⟨some t, .call ⟨.value (.tmp j), args, tys⟩, ty, pos, af, none⟩).run P w = .ok (.enter f (args.toList.map a.eval ++ vs).toArray) w := by
  have : (args.toList.map a.eval ++ vs).toArray = args.map a.eval ++ vs.toArray := by apply Array.ext'; simp
  rw [this];have hev : a.eval (.tmp j) = .func (.func f) #[] vs.toArray := hv;simp [execOp, resolve, hev, Deferred.ofValue, invoke, hf.call]
 rw [hrun]
 obtain ⟨q1, q2, q3, q4⟩ := D.passF (zS3 hnd ha hal ho) (zCm (zA1 D (zAt hg).1 fun _ hx => hx) hc)
 refine (hf.ok ds os d os' hR h (e.inn ks) w _ D.gh D.sub q1 q2 q3 q4).mono fun en w' hq => ?_
 obtain ⟨v, h', e', rfl, D'⟩ := D.afterM ho hs hq
 exact hK _ _ _ _ D'
end
end Go.Sx
namespace Go.Sx
open Go.RowKit
section
variable {P : Program} {F : List Nat} {w0 : Base} {s : St} {ops : Array Oper} {Q : Exit → Act → World → Prop} {rest : List Oper}
theorem zJ6 {t T : Nat} {x y : Operand} {ok : Bool} {ty : Nat} {pos : String} {af : Array Edge} {m : MD} {z : Value} {q : MK} {d0 : SD} {s' : St} (b : Bool) (hm : mapD s (unG s x) = some m) (hkk : kkT P T = some m.kk) (hz : mzT P T = some z) (hqk : zTd m.kk (unG s y) = some q) (hb : m.dom q = b)
  (hd0 : (bif b then m.f q else ofV z) = d0) (hg : zAn (gCs s [x, y] [])) (hs : zC0 s t (bif ok then .tup [d0, .bool b] else d0) = some s')
  (hn : zAi P F w0 ops Q rest s') : zAi P F w0 ops Q (⟨some t, .lookup T x y ok, ty, pos, af, none⟩ :: rest) s := fun h e a w D => by
 obtain ⟨ht, rfl⟩ := zA0 hs
 subst hb hd0
 refine zAf rfl fun K hK => ?_
 have hx := D.unG (l := [x, y]) (r := []) hg (x := x) (by simp)
 have hy := D.unG (l := [x, y]) (r := []) hg (x := y) (by simp)
 obtain ⟨b, es, clock, hxv, hbb, hok⟩ := zVx D hm hx
 obtain ⟨hyv, hqok⟩ := zMy hqk hy
 obtain ⟨kt, et, hT, hkt⟩ := zRq hkk
 have hzr : (zeroValue et).run P w = .ok z w := by
  unfold mzT at hz;rw [hT] at hz;simp only at hz;cases hi : P.info? et with
  | none => rw [hi] at hz; cases hz
  | some i =>
   rw [hi] at hz;simp only [Option.bind_some] at hz;simp [zeroValue, typeInfo, hi, hz]
 have hval : ∃ r, rep h (bif m.dom q then m.f q else ofV z) e r ∧ (Instr.lookup T (.map (some b)) (q.val m.kk) ok).run P w = .ok (if ok then .tuple #[r, .bool (m.dom q)] else r) w := by
  rcases run_findKey (P := P) hok hkt hqok w with ⟨h1, h2, _⟩ | ⟨j, y', h1, h2, h3, h4⟩
  ·refine ⟨z, ?_, ?_⟩
   ·rw [h1]; exact zG4 h e z
   ·simp [Instr.lookup, run_underlying hT, MapKept.run_getObj_map hbb, run_checkKey hkt, h2, hzr, h1]
  ·refine ⟨y'.val, ?_, ?_⟩
   ·have hr := hok.2.2.2 y' (by have := List.mem_of_getElem? h2; simpa using this) q h3 hqok e
    rw [h1]; exact hr
   ·have hjj : es[j]? = some y' := by simpa using h2
    simp [Instr.lookup, run_underlying hT, MapKept.run_getObj_map hbb, run_checkKey hkt, h4, hjj, h1]
 obtain ⟨r, r1, r2⟩ := hval
 cases hokb : ok
 ·rw [hokb] at r2
  simp only [Bool.false_eq_true, if_false] at r2;exact zD3 (v := r) (by simp [execOp, hxv, hyv, r2]) (hK _ _ (hn _ _ _ _ (by rw [hokb]; exact D.put ht r1)))
 ·rw [hokb] at r2
  simp only [if_true] at r2;exact zD3 (v := .tuple #[r, .bool (m.dom q)]) (by simp [execOp, hxv, hyv, r2]) (hK _ _ (hn _ _ _ _ (by rw [hokb]; exact D.put ht (by simp only [cond_true, rep, repT]; exact ⟨[r, .bool (m.dom q)], rfl, _, _, rfl, r1, _, _, rfl, rfl, rfl⟩))))
end
end Go.Sx
namespace Go.Sx
open Go.RowKit
section
variable {P : Program} {F : List Nat} {w0 : Base} {s : St} {ops : Array Oper} {Q : Exit → Act → World → Prop} {rest : List Oper}
def AsY (P : Program) (tx T : Nat) : Prop := ∀ (v : Value) (X : Nat) (w : World), (Instr.typeAssert (.iface tx v) X T true).run P w = .ok (.tuple #[v, .bool true]) w
def AsN (P : Program) (tx T : Nat) (z : Value) : Prop := ∀ (v : Value) (X : Nat) (w : World), (Instr.typeAssert (.iface tx v) X T true).run P w = .ok (.tuple #[z, .bool false]) w
theorem zT8 {t X T tx : Nat} {x : Operand} {d : SD} {ty : Nat} {pos : String} {af : Array Edge} {s' : St} (hm : AsY P tx T) (hx : ev s x = .iface tx d) (hs : zC0 s t (.tup [d, .bool true]) = some s')
  (hn : zAi P F w0 ops Q rest s') : zAi P F w0 ops Q (⟨some t, .typeAssert x X T true, ty, pos, af, none⟩ :: rest) s := fun h e a w D => by
 obtain ⟨ht, rfl⟩ := zA0 hs
 have hv := D.ev x
 rw [hx] at hv
 simp only [rep] at hv
 obtain ⟨u, hu, hd⟩ := hv
 refine zAf rfl fun K hK => ?_
 unfold Oper.wp
 have hex : (execOp a.eval ⟨some t, .typeAssert x X T true, ty, pos, af, none⟩).run P w = .ok (.value (.tuple #[u, .bool true])) w := by
  simp only [execOp, hu, Sem.run_bind, hm u X w, Result.andThen_ok];rfl
 rw [hex]
 refine hK _ _ (hn _ _ _ _ (D.put ht ?_))
 simp only [rep, repT]
 exact ⟨[u, .bool true], rfl, _, _, rfl, hd, _, _, rfl, rfl, rfl⟩
theorem zL7 {t X T tx : Nat} {x : Operand} {d : SD} {z : Value} {ty : Nat} {pos : String} {af : Array Edge} {s' : St} (hm : AsN P tx T z) (hx : ev s x = .iface tx d) (hs : zC0 s t (.tup [.any, .bool false]) = some s')
  (hn : zAi P F w0 ops Q rest s') : zAi P F w0 ops Q (⟨some t, .typeAssert x X T true, ty, pos, af, none⟩ :: rest) s := fun h e a w D => by
 obtain ⟨ht, rfl⟩ := zA0 hs
 have hv := D.ev x
 rw [hx] at hv
 simp only [rep] at hv
 obtain ⟨u, hu, hd⟩ := hv
 refine zAf rfl fun K hK => ?_
 unfold Oper.wp
 have hex : (execOp a.eval ⟨some t, .typeAssert x X T true, ty, pos, af, none⟩).run P w = .ok (.value (.tuple #[z, .bool false])) w := by
  simp only [execOp, hu, Sem.run_bind, hm u X w, Result.andThen_ok];rfl
 rw [hex]
 refine hK _ _ (hn _ _ _ _ (D.put ht ?_))
 simp only [rep, repT]
 exact ⟨[z, .bool false], rfl, _, _, rfl, trivial, _, _, rfl, rfl, rfl⟩
end
end Go.Sx
namespace Go.Sx
open Go.RowKit
section
variable {P : Program} {F : List Nat} {w0 : Base} {s : St} {Q : Exit → Act → World → Prop} {l : List Oper} {s0 : St} {rs : List Rec} {id : Nat} {rest : List Oper}
theorem zPm {P : Program} {a : Act} {w : World} {f t j : Nat} {args : Array Operand} {tys : Array Nat} {ty : Nat} {pos : String} {af : Array Edge} {g : Option (Nat × Bool)} {vs : List Value} (hc : ∀ args w, (callFunc f args).run P w = .ok (.enter f args) w) (hv : a.tmps.getD j undef = .func (.func f) #[] vs.toArray) :
  (execOp a.eval ⟨some t, .call ⟨.value (.tmp j), args, tys⟩, ty, pos, af, g⟩).run P w = .ok (.enter f (args.toList.map a.eval ++ vs).toArray) w := by
 have : (args.toList.map a.eval ++ vs).toArray = args.map a.eval ++ vs.toArray := by apply Array.ext'; simp
 rw [this]
 have hev : a.eval (.tmp j) = .func (.func f) #[] vs.toArray := hv
 simp [execOp, resolve, hev, Deferred.ofValue, invoke, hc]
theorem zU1 {f t j : Nat} {args : Array Operand} {tys : Array Nat} {ty : Nat} {pos : String} {af : Array Edge} {caps ds : List SD} {d : SD} {s' : St} (hf : FnV P f caps ds d) (hj : lkp s.sl j = .fn f caps)
  (ha : args.toList.map (unG s) = ds) (hg : zAn (gCs s args.toList [])) (hs : zC0 s t d = some s')
  (hn : zAy P F w0 Q id l s0 (rs ++ [⟨zBf s (tmpsOf (.tmp j :: args.toList)), [], some t, d, [], []⟩]) rest s') : zAy P F w0 Q id l s0 rs (⟨some t, .call ⟨.value (.tmp j), args, tys⟩, ty, pos, af, none⟩ :: rest) s := fun K => by
 obtain ⟨R, hf, hR⟩ := hf
 obtain ⟨ht, rfl⟩ := zA0 hs
 refine hn (K.snoc zBe (fun p hp => by cases hp) (fun σ hn h1 _ _ h e a w D K Q hK => ?_) ⟨rfl, fun _ => rfl, fun _ => rfl⟩)
 rw [if_pos (by simp [Region.wanted])]
 have hev := zBb (s := s) (s' := σ) (l := .tmp j :: args.toList) h1
 have ha' : args.toList.map (unG σ) = ds := by rw [← ha]; exact List.map_congr_left fun y hy => by simp only [unG, hev y (List.mem_cons_of_mem _ hy)]
 have hg' : zAn (gCs σ args.toList []) := by rw [zAs fun y hy => hev y (List.mem_cons_of_mem _ hy)]; exact hg
 have hj' : lkp σ.sl j = .fn f caps := (hev (.tmp j) (List.mem_cons_self ..)).trans hj
 subst ha'
 have hv := D.slot j
 rw [hj'] at hv
 simp only [rep] at hv
 obtain ⟨vs, hv, hc⟩ := hv
 unfold Oper.wp
 rw [zPm hf.call hv]
 refine (hf.ok _ _ hR h e w _ D.gh D.sub (zCm (zA1 D (zAt hg').1 fun _ hx => hx) hc)).mono fun en w' hq => ?_
 obtain ⟨v, h', rfl, g1, g2, g3, g4, g5⟩ := hq
 exact hK _ _ _ _ ((D.called g1 g2 g3 g4).put (by rw [hn]; exact ht) (g5 e))
theorem zSx {f t : Nat} {args : Array Operand} {tys : Array Nat} {ty : Nat} {pos : String} {af : Array Edge} {j i : Nat} {b g : Bool} {R : List SD → SD → Prop} {caps ds : List SD} {d : SD} {s' : St} (tj : Nat)
  (hj : zFo l j = some tj) (hc : gV (lkp s.sl tj) b = some g) (hf : FnOK P f R) (hi : lkp s.sl i = .gd g (.fn f caps))
  (ha : args.toList.map (unG s) ++ caps = ds) (hg : g = true → zAn (gCs s args.toList [])) (hR : g = true → R ds d) (hs : zC0 s t (.gd g d) = some s')
  (hn : zAy P F w0 Q id l s0 (rs ++ [⟨(tj, lkp s.sl tj) :: zBf s (tmpsOf (.tmp i :: args.toList)), [], some t, .gd g d, [], []⟩]) rest s') : zAy P F w0 Q id l s0 rs (⟨some t, .call ⟨.value (.tmp i), args, tys⟩, ty, pos, af, some (j, b)⟩ :: rest) s := fun K => by
 obtain ⟨ht, rfl⟩ := zA0 hs
 refine hn (K.snoc (fun p hp => ?_) (fun p hp => by cases hp) (fun σ hn h1 _ _ h e a w D K Q hK => ?_) ⟨rfl, fun _ => rfl, fun _ => rfl⟩)
 ·rcases List.mem_cons.1 hp with rfl | hp
  ·rfl
  ·exact zBe p hp
 have hv := D.slot tj
 rw [h1 (tj, lkp s.sl tj) (by simp)] at hv
 rw [zCh (o := ⟨some t, .call ⟨.value (.tmp i), args, tys⟩, ty, pos, af, some (j, b)⟩) rfl ((zF4 l j).trans hj) hv hc]
 have hlt : t < σ.n := by rw [hn]; exact ht
 have hev := zBb (s := s) (s' := σ) (l := .tmp i :: args.toList) fun p hp => h1 p (by simp [hp])
 have ha' : args.toList.map (unG σ) ++ caps = ds := by rw [← ha]; exact congrArg (· ++ caps) (List.map_congr_left fun y hy => by simp only [unG, hev y (List.mem_cons_of_mem _ hy)])
 have hg' : g = true → zAn (gCs σ args.toList []) := by rw [zAs fun y hy => hev y (List.mem_cons_of_mem _ hy)]; exact hg
 have hi' : lkp σ.sl i = .gd g (.fn f caps) := (hev (.tmp i) (List.mem_cons_self ..)).trans hi
 subst ha'
 cases hgb : g
 ·rw [if_neg (by simp)]
  refine hK h e _ _ (D.put (i := t) hlt ?_);simp [rep, hgb]
 ·rw [if_pos rfl]
  have hv2 := D.slot i;rw [hi'] at hv2;simp only [rep] at hv2;obtain ⟨vs, hv2, hcp⟩ := hv2.1 hgb;unfold Oper.wp;rw [zPm hf.call hv2];refine (hf.ok _ _ (hR hgb) h e w _ D.gh D.sub (zCm (zA1 D (zAt (hg' hgb)).1 fun _ hx => hx) hcp)).mono fun en w' hq => ?_;obtain ⟨v, h', rfl, g1, g2, g3, g4, g5⟩ := hq;refine hK _ _ _ _ ((D.called g1 g2 g3 g4).put (i := t) hlt ?_);simp only [rep];exact ⟨fun _ => g5 e, fun h => by rw [hgb] at h; cases h⟩
end
section
variable {P : Program} {F : List Nat} {w0 : Base} {s : St} {Q : Exit → Act → World → Prop} {ops : Array Oper} {rest : List Oper}
theorem zSp {f t i : Nat} {args : Array Operand} {tys : Array Nat} {ty : Nat} {pos : String} {af : Array Edge} {j : Nat} {b g : Bool} {caps ds : List SD} {d : SD} {s' : St} (tj : Nat)
  (hj : (ops[j]?).bind (·.dst) = some tj) (hc : gV (lkp s.sl tj) b = some g) (hf : FnV P f caps ds d) (hi : lkp s.sl i = .gd g (.fn f caps))
  (ha : args.toList.map (unG s) = ds) (hg : g = true → zAn (gCs s args.toList [])) (hs : zC0 s t (.gd g d) = some s')
  (hn : zAi P F w0 ops Q rest s') : zAi P F w0 ops Q (⟨some t, .call ⟨.value (.tmp i), args, tys⟩, ty, pos, af, some (j, b)⟩ :: rest) s := fun h e a w D => by
 subst ha
 obtain ⟨R, hf, hR⟩ := hf
 obtain ⟨ht, rfl⟩ := zA0 hs
 have hv := D.slot tj
 refine zHk fun K hK => ?_
 rw [zCh (o := ⟨some t, .call ⟨.value (.tmp i), args, tys⟩, ty, pos, af, some (j, b)⟩) rfl hj hv hc]
 cases hgb : g
 ·rw [if_neg (by simp)]
  refine hK _ _ (hn _ _ _ _ (D.put ht ?_));simp [rep, hgb]
 ·rw [if_pos rfl]
  have hv2 := D.slot i;rw [hi] at hv2;simp only [rep] at hv2;obtain ⟨vs, hv2, hcp⟩ := hv2.1 hgb;unfold Oper.wp;rw [zPm hf.call hv2];refine (hf.ok _ _ hR h e w _ D.gh D.sub (zCm (zA1 D (zAt (hg hgb)).1 fun _ hx => hx) hcp)).mono fun en w' hq => ?_;obtain ⟨v, h', rfl, g1, g2, g3, g4, g5⟩ := hq;refine hK _ _ (hn _ _ _ _ ((D.called g1 g2 g3 g4).put ht ?_));simp only [rep];exact ⟨fun _ => g5 e, fun h => by rw [hgb] at h; cases h⟩
theorem zSq {f t : Nat} {args : Array Operand} {tys : Array Nat} {ty : Nat} {pos : String} {af : Array Edge} {R : List SD → Nat → Nat → Nat → (Nat → SD) → Prop} (ks : List Nat) {sf : St} {ds : List SD} {T es n : Nat} {g : Nat → SD} {s' : St} (hf : zKz P f R) (hz : frzAll s ks = some sf)
  (ha : args.toList.map (unG sf) = ds) (hg : zAn (gCs sf args.toList [])) (hR : R ds T es n g) (hsc : ∀ i, yDb (g i) = true) (hs : zO5 s t T es n g = some s')
  (hn : zAi P F w0 ops Q rest s') : zAi P F w0 ops Q (⟨some t, .call ⟨.value (.func f), args, tys⟩, ty, pos, af, none⟩ :: rest) s := fun h e a w D => by
 subst ha
 unfold zO5 at hs
 cases hk : (Nat.blt t s.n && s.free s.nx)
 ·rw [hk] at hs; cases hs
 ·rw [hk] at hs
  simp only [cond_true, zz1] at hs;subst hs;simp only [zz3] at hk;have ht := zAm hk.1;have hF := Free.of hk.2;refine zAf rfl fun K hK => ?_;unfold Oper.wp
  have hrun : (execOp a.eval ⟨some t, .call ⟨.value (.func f), args, tys⟩, ty, pos, af, none⟩).run P w = .ok (.enter f (args.toList.map a.eval).toArray) w := by
   have : (args.toList.map a.eval).toArray = args.map a.eval := by apply Array.ext'; simp
   rw [this];simp [execOp, resolve, Deferred.ofValue, Act.eval, invoke, hf.call]
  rw [hrun];obtain ⟨h2, D2⟩ := D.frzAll hz;refine (hf.ok _ _ _ _ _ hR h2 e w _ D2.gh D2.sub (zA1 D2 (zAt hg).1 fun _ hx => hx)).mono fun en w' hq => ?_;obtain ⟨v, h', rfl, g1, g2, g3, g4, g5, g6, g7⟩ := hq
  have g5' : zDp h ⟨fun _ => 0, fun _ => v⟩ w' 0 (.acc T es n g) := by
   obtain ⟨xs, x1, x2, x3⟩ := g5;refine ⟨xs, x1, x2, fun i hi => ?_⟩;obtain ⟨u, u1, u2, u3, u4⟩ := x3 i hi;exact ⟨u, fun e' => zMc _ _ _ (hsc i) (u1 e'), u2, u3, u4⟩
  have hnone : ∀ b, w.heap.size ≤ b → h b = none := fun b hb => by
   cases hx : h b with
   | none => rfl
   | some o =>
    have h1 := D.sub b o hx;rw [Array.getElem?_eq_none hb] at h1; cases h1
  have D1 := (D.lent g3).rename (e.but_setH s.nx v) hF;have D2 := D1.addOwn (k := s.nx) (o := .acc T es n g) (zCl hF) (zI5 (e := ⟨fun _ => 0, fun _ => v⟩) (k := 0) (by simp [Nm.setH]) (fun _ _ => rfl) g5') (fun b hb => ?_) (fun j o' b hj hb hc => ?_) (s.nx + 1)
  ·refine hK _ _ (hn h (e.setH s.nx v) _ _ ?_)
   exact (D2.put (i := t) (d := .acc s.nx) (v := v) ht (by simp only [rep, Nm.setH, if_true]; exact ⟨trivial, g6⟩)).congr rfl (fun _ => rfl) fun _ => rfl
  ·simp only [OB.blk, Nm.setH, if_true] at hb
   obtain ⟨k1, _⟩ := g7 b hb;exact ⟨.inl (Nat.le_trans D.keeps.size k1), hnone b k1⟩
  ·simp only [OB.blk, Nm.setH, if_true] at hc
   obtain ⟨k1, _⟩ := g7 b hc;have hjk : j ≠ s.nx := fun x => by subst x; rw [zCl hF] at hj; cases hj
   rw [zBv (e.but_setH s.nx v) hjk] at hb;have := zD9 (D.own j o' hj) hb;omega
end
end Go.Sx
namespace Go.Sx
open Go.RowKit
section
variable {P : Program} {F : List Nat} {w0 : Base} {fin : Exit → Act → World → Prop} {k : List It} {s : St}
theorem zH4 {rd : Option Nat} {l : Nat} {a : Act} {w : World} : ∀ {k : List It}, post P rd fin k (.goto l) a w → fin (.goto l) a w
 | [], h => h
 | .code _ :: k, h => zH4 (k := k) h
 | .blk _ :: k, h => zH4 (k := k) h
 | .lp _ :: k, h => zH4 (k := k) h
theorem zUw {l : Nat} (h : Run P F w0 fin k s) : Run P F w0 fin (.code (.label l) :: k) s := fun _ _ _ _ D => wpIn_label (h _ _ _ _ D)
theorem zN4 {c : Code} (hrd : w0.rd = none) (hfin : ∀ l a w, ¬ fin (.goto l) a w) (h : Run P F w0 fin (.code c :: k) s) : Run P F w0 fin (.code (.scope c) :: k) s := fun h' e a w D => by
 have h1 := h h' e a w D
 change c.wpIn (fe w0.rd) 0 P (post P w0.rd fin k) a w at h1
 change (Code.scope c).wpIn (fe w0.rd) 0 P (post P w0.rd fin k) a w
 rw [hrd] at h1 ⊢
 refine (wpIn_wide (n := 0)).2 (wp_scope_straight ((wpIn_wide (n := 0)).1 (wpIn_mono h1 fun ex a w hq => ?_)))
 cases ex with
 | goto l => exact hfin l a w (zH4 hq)
 | _ => exact hq
end
theorem zOw {P : Program} {fn : Func} {R : Ending → World → Prop} (l : Nat) (a : Act) (w : World) : ¬ yEr P fn R (.goto l) a w := fun h => h
end Go.Sx
