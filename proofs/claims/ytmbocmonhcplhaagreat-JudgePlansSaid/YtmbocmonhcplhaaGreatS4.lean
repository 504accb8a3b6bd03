/- Lemmas on the judge: SxRg, SxRh, SxRi, SxRk, SxBo, SxCv, SxZs, SxMk, SxJn, SxCl, SxLn, SxDr, SxRw, SxRn, SxLv, SxHd, SxIv, SxLk, SxTa, SxVm, SxSc, SxNd, SxNk, SxDl, SxPt. -/
import Derived.Test.YtmbocmonhcplhaaGreatS3
import Derived.Scope
set_option linter.all false
namespace Go.Sx
open Go.RowKit
open Go.ChangeMaps (setBlock)
structure LR where
 l : Nat
 fn : Nat
 tm : Array Value
 ps : Array Nat
 as : Code
 bd : Code
 dfr : Nat
def LR.loop (r : LR) (st : LoopState) (pe : Option Code) : Loop := { state := st, pending := pe, fn := r.fn, tmps := r.tm, params := r.ps, assign := r.as, body := r.bd, defers := r.dfr }
def zEl (o : Obj) (K : Option Nat) : OB := .mp ⟨none, 0, fun _ => false, fun _ => .any, some (.raw o K)⟩ []
def zDi (r : LR) (st : LoopState) (pe : Option Code) : OB := zEl (.loop (r.loop st pe)) (some r.l)
theorem zLd {h : Hp} {e : Nm} {w : World} {k : Nat} {o : Obj} {K : Option Nat} (x : zD8 h e w k (zEl o K)) : w.heap[e.bs k]? = some o /\ ∀ b, K = some b -> e.bs k = b := by
 obtain ⟨o', h1, h2, h3⟩ := x;subst h2;exact ⟨h1, h3⟩
theorem yJ4 {h : Hp} {e : Nm} {w : World} {k : Nat} {o : Obj} {K : Option Nat} (h1 : w.heap[e.bs k]? = some o) (h2 : ∀ b, K = some b -> e.bs k = b) : zD8 h e w k (zEl o K) := ⟨o, h1, rfl, h2⟩
theorem yDq.setRaw {F : List Nat} {w0 w : World} {ow ow' : List (Nat × OB)} {h : Hp} {e : Nm} {k : Nat} {o o' : Obj} {K : Option Nat} (O : yDq F w0 ow h e w) (hk : lkO ow k = some (zEl o K)) (hk' : lkO ow' k = some (zEl o' K)) (hne : ∀ j, j ≠ k -> lkO ow' j = lkO ow j) : yDq F w0 ow' h e (w.putObj (e.bs k) o') := by
 obtain ⟨hb, hK⟩ := zLd (O.own k _ hk);have hlt := (Array.getElem?_eq_some_iff.1 hb).1;have hbk : (zEl o K).blk e k = some (e.bs k) := rfl
 have key : ∀ j x, lkO ow' j = some x -> ∃ y, lkO ow j = some y /\ x.blk e j = y.blk e j := fun j x hj => by
  by_cases hjk : j = k
  ·subst hjk
   rw [hk'] at hj;cases hj;exact ⟨_, hk, rfl⟩
  ·rw [hne j hjk] at hj
   exact ⟨x, hj, rfl⟩
 refine ⟨fun j x hj => ?_, fun j x b hj hxb => ?_, fun j j' x x' b hjj hj hj' hxb => ?_⟩
 ·by_cases hjk : j = k
  ·subst hjk
   rw [hk'] at hj;cases hj;exact yJ4 (World.putObj_heap_same hlt) hK
  ·rw [hne j hjk] at hj
   refine zEo (Le.refl h) (fun b hxb => World.putObj_heap_other fun hc => ?_) (O.own j x hj);subst hc;exact O.apart j k x _ _ hjk hj hk hxb hbk
 ·obtain ⟨y, hy, hyb⟩ := key j x hj
  rw [hyb] at hxb;exact O.ownb j y b hy hxb
 ·obtain ⟨y, hy, hyb⟩ := key j x hj
  obtain ⟨y', hy', hyb'⟩ := key j' x' hj';rw [hyb] at hxb;rw [hyb'];exact O.apart j j' y y' b hjj hy hy' hxb
def yFu (F : List Nat) (w0 : Base) (s : St) : Act -> World -> Prop := fun a w => ∃ h e, Den F w0 s h e a w
theorem zIp {P : Program} {F : List Nat} {w0 : Base} {fin : Exit -> Act -> World -> Prop} {k : List It} {s : St} : Run P F w0 fin (.lp (yFu F w0 s) :: k) s := fun h e _ _ D => ⟨h, e, D⟩
def zPq : Exit -> Option (Option Code)
 | .normal => some none
 | .ret => some (some .ret)
 | .exit id => some (some (.exit id))
 | _ => none
def yKh (F : List Nat) (w0 : zBw) (osb : List (Nat × OB)) (pe : Option Code) : Exit -> Act -> World -> Prop := fun ex _ w => zPq ex = some pe /\
 ∃ h e, Le w0.h h /\ Sub h w /\ zEv F w0.w w /\ (∀ b, b < w0.w.heap.size -> h b = w0.h b) /\ (∀ (i b : Nat), w0.fix[i]? = some b -> e.bs (1000 + i) = b) /\ yDq F w0.w osb h e w
def zQ0 : List Nat -> List SD -> List (Nat × SD) -> List (Nat × SD)
 | p :: ps, d :: ds, l => zQ0 ps ds (upd l p d)
 | _, _, l => l
theorem zSo {h : Hp} {e : Nm} : ∀ (ps : List Nat) (ds : List SD) (vs : List Value) (sl : List (Nat × SD)) (tm : Array Value), repT h ds e vs -> (∀ p ∈ ps, p < tm.size) -> (∀ t, rep h (lkp sl t) e (tm.getD t undef)) ->
  (((ps.zip vs).foldl (fun t (p : Nat × Value) => t.setIfInBounds p.1 p.2) tm).size = tm.size) /\ ∀ t, rep h (lkp (zQ0 ps ds sl) t) e (((ps.zip vs).foldl (fun t (p : Nat × Value) => t.setIfInBounds p.1 p.2) tm).getD t undef)
 | [], ds, vs, sl, tm, _, _, h => by simpa [zQ0] using h
 | p :: ps, [], vs, sl, tm, hr, _, h => by simp only [repT] at hr; subst hr; simpa [zQ0] using h
 | p :: ps, d :: ds, vs, sl, tm, hr, hp, h => by
  simp only [repT] at hr;obtain ⟨v, vs', rfl, h1, h2⟩ := hr;simp only [List.zip_cons_cons, List.foldl_cons, zQ0]
  have := zSo ps ds vs' (upd sl p d) (tm.setIfInBounds p v) h2 (fun q hq => by simpa using hp q (by simp [hq])) (fun t => by
   rw [zB0, zKs _ _ _ _ (hp p (by simp))];by_cases ht : t = p
   ·simp only [ht, if_true]; exact h1
   ·simp only [ht, if_false]; exact h t)
  exact ⟨this.1.trans (by simp), this.2⟩
theorem Den.ownP {F : List Nat} {w0 : Base} {s : St} {h : Hp} {e : Nm} {a : Act} {w : World} (D : Den F w0 s h e a w) {os' : List (Nat × OB)} (ho : zEu s.ow os') : yDq F w0.w os' h e w := by
 have key : ∀ j o, lkO os' j = some o -> ∃ o0, lkO s.ow j = some o0 /\ OLe o0 o := fun j o hj => zGo ho j o hj;refine ⟨fun j o hj => ?_, fun j o b hj hb => ?_, fun j j' o o' b hne hj hj' hb => ?_⟩
 ·obtain ⟨o0, g1, g2⟩ := key j o hj
  exact g2.ok (D.own j o0 g1)
 ·obtain ⟨o0, g1, g2⟩ := key j o hj
  rw [g2.blk] at hb;exact D.ownb j o0 b g1 hb
 ·obtain ⟨o0, g1, g2⟩ := key j o hj
  obtain ⟨o1, g3, g4⟩ := key j' o' hj';rw [g2.blk] at hb;rw [g4.blk];exact D.apart j j' o0 o1 b hne g1 g3 hb
section
variable {P : Program} {F : List Nat} {b0 : zBw} {l : Nat} {k : List It} {s : St} {osb : List (Nat × OB)}
theorem zNg (ho : zEu s.ow osb) : Run P F ⟨b0, some l, []⟩ (yKh F b0 osb (some .ret)) (.code .ret :: k) s := fun h e a w D =>
 wpIn_ret (zBz ⟨rfl, h, e, D.le, D.sub, D.keeps, D.neww, D.fix, D.ownP ho⟩)
theorem zD6 (ho : zEu s.ow osb) : Run P F ⟨b0, some l, []⟩ (yKh F b0 osb none) [] s := fun h e a w D => ⟨rfl, h, e, D.le, D.sub, D.keeps, D.neww, D.fix, D.ownP ho⟩
end
theorem zKx {P : Program} {h0 : Hp} {bl : List Nat} {R : List SD -> List OB -> SD -> List (Nat × OB) -> Prop} (r : LR) (slE : List (Nat × SD)) (n : Nat) (l : Nat) (hl : r.l = l) (hsz : r.tm.size = n) (hps : ∀ p ∈ r.ps.toList, p < n)
  (hsl : ∀ h e, Le h0 h -> (∀ (i b : Nat), bl[i]? = some b -> e.bs (1000 + i) = b) -> ∀ t, rep h (lkp slE t) e (r.tm.getD t undef))
  (hrun : ∀ ds os d os', R ds os d os' -> ∃ (osu osu' : List OB) (pe : Option Code) (sA : St), os = osu ++ [zDi r .ready none] /\ d = .bool pe.isNone /\ os' = zAy 1000 (osu' ++ [zDi r (if pe.isNone then .ready else .done) pe]) /\ osu'.length = osu.length /\
   bl.length = os.length /\ ds.length = r.ps.size /\
   (∀ F w0, Anch h0 bl w0 -> Run P F ⟨w0, some l, []⟩ (fun _ _ _ => False) [.code r.as, .lp (yFu F ⟨w0, some l, []⟩ sA)] ⟨n, 0, zQ0 r.ps.toList ds slE, zAy 1000 os⟩) /\
   lkO sA.ow (1000 + osu.length) = some (zDi r .ready none) /\
   (∀ F w0, Anch h0 bl w0 -> Run P F ⟨w0, some l, []⟩ (yKh F w0 (zAy 1000 (osu' ++ [zDi r .busy none])) pe) [.code r.bd] { sA with ow := upd sA.ow (1000 + osu.length) (zDi r .busy none) })) : zR2 P l h0 bl R := by
 refine ⟨fun ds os d os' hR h e w vs gh hl0 hbl hs hr ho hb' hap => ?_⟩;subst hl;obtain ⟨osu, osu', pe, sA, e1, e2, e3, e4, e5, e7, g1, g2, g3⟩ := hrun ds os d os' hR;have hm : os[osu.length]? = some (zDi r .ready none) := by rw [e1]; simp
 have hel : e.bs (1000 + osu.length) = r.l := (zLd (ho _ _ hm)).2 _ rfl
 have hrec : w.heap[r.l]? = some (.loop (r.loop .ready none)) := by
  have := (zLd (ho _ _ hm)).1;rw [hel] at this;exact this
 have hvl : vs.length = ds.length := by
  have : ∀ (ds : List SD) (vs : List Value), repT h ds e vs -> vs.length = ds.length := by
   intro ds
   induction ds with
   | nil => intro vs hr; simp only [repT] at hr; simp [hr]
   | cons d r ih => intro vs hr; simp only [repT] at hr; obtain ⟨v, vs', rfl, _, h2⟩ := hr; simp [ih vs' h2]
  exact this ds vs hr
 have hy := run_yield (P := P) (args := vs.toArray) hrec (by simp [LR.loop, hvl, e7]);refine ⟨_, _, _, _, hy, roundIn_of_wpIn trivial ?_⟩
 have han : Anch h0 bl ⟨w, h, zFq e os, gh⟩ := ⟨hl0, fun i b hib => by
  have hi := (List.getElem?_eq_some_iff.1 hib).1;show (zFq e os)[i]? = some b;rw [zCo (by omega), hbl i b hib]⟩
 have hk : ∀ k o, lkO (zAy 1000 os) k = some o -> ∃ i, k = 1000 + i /\ os[i]? = some o := fun k o hk => by
  rw [zDg] at hk;split at hk
  ·exact ⟨k - 1000, by omega, hk⟩
  ·cases hk
 have hfold : (r.ps.zip vs.toArray).foldl (fun tmps (x : Nat × Value) => tmps.setIfInBounds x.1 x.2) r.tm = (r.ps.toList.zip vs).foldl (fun t (p : Nat × Value) => t.setIfInBounds p.1 p.2) r.tm := by
  rw [<- Array.foldl_toList, Array.toList_zip]
 obtain ⟨p1, p2⟩ := zSo r.ps.toList ds vs slE r.tm hr (fun p hp => by rw [hsz]; exact hps p hp) (hsl h e hl0 hbl);rw [<- hfold] at p1 p2
 have D0 : Den (zCs e 1000 os) ⟨⟨w, h, zFq e os, gh⟩, some r.l, []⟩ ⟨n, 0, zQ0 r.ps.toList ds slE, zAy 1000 os⟩ h e { tmps := (r.ps.zip vs.toArray).foldl (fun tmps (x : Nat × Value) => tmps.setIfInBounds x.1 x.2) r.tm, defers := [] } w := by
  refine ⟨rfl, p1.trans hsz, p2, fun k o hko => ?_, fun k o b hko hbl => ?_, fun k k' o o' b hne hko hko' hbl => ?_, hs, zEv.refl _ _, Le.refl h, fun _ _ => rfl, fun i b hib => ?_⟩
  ·obtain ⟨i, rfl, hi⟩ := hk k o hko
   exact ho i o hi
  ·obtain ⟨i, rfl, hi⟩ := hk k o hko
   have hm : b ∈ zCs e 1000 os := zDf.2 ⟨i, o, hi, hbl⟩;exact ⟨.inr ⟨hm, by omega⟩, hb' b hm⟩
  ·obtain ⟨i, rfl, hi⟩ := hk k o hko
   obtain ⟨j, rfl, hj⟩ := hk k' o' hko';exact hap i j o o' b (fun hc => hne (by rw [hc])) hi hj hbl
  ·change (zFq e os)[i]? = some b at hib
   have hi : i < os.length := by
    have := (List.getElem?_eq_some_iff.1 hib).1;simpa [zFq] using this
   rw [zCo hi] at hib;simpa using hib
 have hA := g1 _ _ han h e _ w D0;refine wpIn_mono (show r.as.wpIn (Fence.wide.inRound r.l) 0 P (post P (some r.l) (fun _ _ _ => False) [.lp (yFu (zCs e 1000 os) ⟨⟨w, h, zFq e os, gh⟩, some r.l, []⟩ sA)]) _ w from hA) fun ex a1 w1 hq => ?_;cases ex with
 | normal =>
  obtain ⟨h1, e1', D1⟩ := hq;have hfix1 : e1'.bs (1000 + osu.length) = r.l := (zLd (D1.own _ _ g2)).2 _ rfl;have hrec1 := (zLd (D1.own _ _ g2)).1;rw [hfix1] at hrec1;refine ⟨_, run_beginRound hrec1 rfl, ?_⟩;have hset := D1.setMp (m' := ⟨none, 0, fun _ => false, fun _ => .any, some (.raw (.loop (r.loop .busy none)) (some r.l))⟩) (o' := .loop (r.loop .busy none)) g2 (by rw [hfix1]; exact hrec1) ⟨rfl, fun b hb => by cases hb; exact hfix1⟩;rw [hfix1] at hset;have hB := g3 _ _ han h1 e1' a1 _ hset;refine wpIn_mono (show r.bd.wpIn (Fence.wide.inRound r.l) 0 P (post P (some r.l) _ []) a1 _ from hB) fun ex a3 w3 hq3 => ?_;obtain ⟨hj, h3, e3', q1, q2, q3, q4, q5, q6⟩ := hq3
  have hlk : lkO (zAy 1000 (osu' ++ [zDi r .busy none])) (1000 + osu.length) = some (zDi r .busy none) := by
   rw [zDg, if_pos (by omega), Nat.add_sub_cancel_left, <- e4]; simp
  have hfix3 : e3'.bs (1000 + osu.length) = r.l := (zLd (q6.own _ _ hlk)).2 _ rfl;have hrec3 := (zLd (q6.own _ _ hlk)).1;rw [hfix3] at hrec3
  have hlast : ∀ (jump : Option Code), jump = pe -> zA6 (zCs e 1000 os) ⟨w, h, zFq e os, gh⟩ d os' (.returned (.bool jump.isNone)) (w3.putObj r.l (.loop (r.loop (if jump.isNone then .ready else .done) jump))) := fun jump hjp => by
   subst hjp
   have hO := q6.setRaw (o' := .loop (r.loop (if jump.isNone then .ready else .done) jump)) (ow' := zAy 1000 (osu' ++ [zDi r (if jump.isNone then .ready else .done) jump])) hlk (by
    rw [zDg, if_pos (by omega), Nat.add_sub_cancel_left, <- e4]; simp [zDi]) (fun j hj => by
    rw [zDg, zDg];by_cases hj1 : 1000 <= j
    ·rw [if_pos hj1, if_pos hj1]
     have hne : j - 1000 ≠ osu'.length := fun hc => hj (by omega);by_cases hlt : j - 1000 < osu'.length
     ·rw [zyb hlt, zyb hlt]
     ·rw [List.getElem?_eq_none (by simp; omega), List.getElem?_eq_none (by simp; omega)]
    ·rw [if_neg hj1, if_neg hj1])
   rw [hfix3] at hO;have hnone := (q6.ownb _ _ r.l hlk (by show some (e3'.bs _) = _; rw [hfix3])).2;have hmem : r.l ∈ zCs e 1000 os := zDf.2 ⟨osu.length, _, hm, by show some (e.bs _) = _; rw [hel]⟩;refine ⟨_, h3, e3', rfl, q1, fun b o hb => ?_, ⟨q3.os, q3.tape, q3.output, by simpa [World.putObj] using q3.size, q3.dr, fun b hb hF => ?_⟩, q4, q5, ?_, by rw [e3]; exact hO⟩
   ·rw [World.putObj_heap_other (fun hc => by rw [hc, hnone] at hb; cases hb)]
    exact q2 b o hb
   ·rw [World.putObj_heap_other (fun hc => hF (by rw [hc]; exact hmem))]
    exact q3.block b hb hF
   ·rw [e2]; simp [rep]
  cases ex with
  | normal =>
   simp only [zPq, zz1] at hj;exact ⟨_, _, run_endRound none hrec3, hlast none hj⟩
  | ret =>
   simp only [zPq, zz1] at hj;exact ⟨_, _, run_endRound (some .ret) hrec3, hlast _ hj⟩
  | exit id =>
   simp only [zPq, zz1] at hj;exact ⟨_, _, run_endRound (some (.exit id)) hrec3, hlast _ hj⟩
  | _ => simp [zPq] at hj
 | _ => exact hq
end Go.Sx
namespace Go.Sx
open Go.RowKit
open Go.ChangeMaps (setBlock)
def yF0 (s : St) (ks : List Nat) : List (Nat × SD) := yEw (tau ks) (zQ1 (fun k => zB8 k ks) (fun _ => false) s.sl)
def yIz (s : St) (ks : List Nat) (os : List OB) (os' : List (Nat × OB)) : Option St :=
 bif nodupB ks && Nat.ble (s.nx + zGg os') 700 && allB (fun k => !zB9 s.nx (zGg os') k) ks && (allB (fun k => Nat.blt k 700) ks || allB (fun k => Nat.ble 700 k) (zBn s os' 1000 ks)) &&
  zVq ks (zGg os') (zBn s os' 1000 ks) os' && zLm os' 1000 os && zEq (pbN s.nx (zGg os')) (phN s.nx (zGg os') (zBn s os' 1000 ks)) s.ow then
  some ⟨s.n, s.nx + zGg os', zQ1 (pbN s.nx (zGg os')) (phN s.nx (zGg os') (zBn s os' 1000 ks)) s.sl,
   zFi (sgm ks s.nx) os' ++ zUv (pbN s.nx (zGg os')) (phN s.nx (zGg os') (zBn s os' 1000 ks)) ks s.nx (zGg os') s.ow⟩
 else none
section
variable {P : Program} {F : List Nat} {w0 : Base} {s : St} {h : Hp} {e : Nm} {a : Act} {w : World}
theorem Den.aft (D : Den F w0 s h e a w) {ks : List Nat} {os : List OB} {os' : List (Nat × OB)} {s' : St} (ho : zMa s ks ks = some os) (hs : yIz s ks os os' = some s')
  {en : Ending} {w' : World} (hp : zA6 (zCs (e.inn ks) 1000 os) ⟨w, h, zFq (e.inn ks) os, D.gh⟩ (.tup []) os' en w') : ∃ v h' e'', en = .returned v /\ Den F w0 s' h' e'' a w' := by
 unfold yIz at hs;generalize hA : zBn s os' 1000 ks = A at hs;generalize hB : zGg os' = B at hs
 generalize hcb : (nodupB ks && Nat.ble (s.nx + B) 700 && allB (fun k => !zB9 s.nx B k) ks && (allB (fun k => Nat.blt k 700) ks || allB (fun k => Nat.ble 700 k) A) &&
  zVq ks B A os' && zLm os' 1000 os && zEq (pbN s.nx B) (phN s.nx B A) s.ow) = cb at hs
 cases cb
 ·cases hs
 simp only [cond_true, zz1] at hs;simp only [zz3] at hcb;obtain ⟨⟨⟨⟨⟨⟨c2, c3⟩, c4⟩, c5⟩, c7⟩, c8⟩, c9⟩ := hcb;subst hs
 refine D.backM (s' := ⟨s.n, s.nx + B, zQ1 (pbN s.nx B) (phN s.nx B A) s.sl, zFi (sgm ks s.nx) os' ++ zUv (pbN s.nx B) (phN s.nx B A) ks s.nx B s.ow⟩) (ks := ks) (m := s.nx) (B := B) (A := A) (os := os) (d := .tup []) (os' := os') ⟨zDw c2, zz8 c3, fun k hk => by have := zGb c4 k hk; simpa only [Bool.not_eq_true'] using this, (zEn ho).1, (zEn ho).2, ?_, rfl, c7, fun i o o' => zI2 c8 i o o'⟩
  (dst := none) (fun t' h => by cases h) rfl (fun i _ => ?_) (fun t' h => by cases h) (fun k o hk => ?_) (fun k hk => zGc (by rw [hA]; exact hk)) hp
 ·simp only [Bool.or_eq_true] at c5
  rcases c5 with c5 | c5
  ·exact .inl fun k hk => zAk (zGb c5 k hk)
  ·exact .inr fun k hk => zz8 (zGb c5 k hk)
 ·simp only [zHd]
  cases hx : zDs (pbN s.nx B) (phN s.nx B A) (lkp s.sl i)
  ·exact .inl rfl
  ·exact .inr ⟨rfl, rfl⟩
 ·simp only [zJn] at hk
  split at hk
  ·rename_i o1 h1
   simp only [zz1] at hk;subst hk;exact .inl (zEr h1)
  ·exact .inr (zHe c9 hk)
theorem zYs (D : Den F w0 s h e a w) {ks : List Nat} {h' : Hp} {e' : Nm} (hl : Le h h') (he : ∀ i, i < ks.length -> e'.bs (1000 + i) = e.bs (zCw ks i)) (t : Nat) : rep h' (lkp (yF0 s ks) t) e' (a.tmps.getD t undef) := by
 unfold yF0;rw [zKo, zDd, zHd];cases hx : zDs (fun k => zB8 k ks) (fun _ => false) (lkp s.sl t)
 ·simp [rep]
 ·simp only [cond_true]
  refine zE6 (pb := fun k => zB8 k ks) (ph := fun _ => false) ⟨fun k hk => ?_, fun k hk => by cases hk⟩ _ _ hx (zA9 hl _ e _ (D.slot t));obtain ⟨q1, q2, q3⟩ := zLn ks k 1000 (zCb.1 hk);have := he (zI6 ks k 1000 - 1000) (by omega);rw [q3, show 1000 + (zI6 ks k 1000 - 1000) = zI6 ks k 1000 by omega] at this;exact this
theorem Den.drop (D : Den F w0 s h e a w) (k : Nat) : Den F w0 ⟨s.n, s.nx, s.sl, del s.ow k⟩ h e a w := by
 have key : ∀ j o, lkO (del s.ow k) j = some o -> lkO s.ow j = some o := fun j o hj => by
  rw [zRb] at hj;by_cases hjk : j = k
  ·simp [hjk] at hj
  ·simpa only [hjk, if_false] using hj
 exact ⟨D.defers, D.size, D.slot, fun j o hj => D.own j o (key j o hj), fun j o b hj hb => D.ownb j o b (key j o hj) hb, fun j j' o o' b hne hj hj' hb => D.apart j j' o o' b hne (key j o hj) (key j' o' hj') hb, D.sub, D.keeps, D.le, D.neww, D.fix⟩
theorem Den.base (D : Den F w0 s h e a w) (mark : List Deferred) (rd : Option Nat) : Den F ⟨w0.b0, rd, mark ++ w0.ds⟩ s h e { a with defers := mark ++ a.defers } w :=
 ⟨by show mark ++ a.defers = mark ++ w0.ds; rw [D.defers], D.size, D.slot, D.own, D.ownb, D.apart, D.sub, D.keeps, D.le, D.neww, D.fix⟩
def rfS (s : St) (r : LR) (K : Nat) : St := ⟨s.n, s.nx + 2, s.sl, upd (upd s.ow s.nx (zEl (.deferred (some [])) (some K))) (s.nx + 1) (zDi r .ready none)⟩
def zVh : Option Code -> List It -> List It
 | none, k => k
 | some c, k => .code c :: k
def stE (pe : Option Code) : LoopState := if pe.isNone then .ready else .done
theorem zRs {α : Type} : ∀ (l : List (Nat × α)) (k : Nat) (x : α), del (upd l k x) k = del l k
 | [], k, x => by simp [upd, del]
 | (j, d) :: r, k, x => by
  simp only [upd];cases hb : Nat.beq j k
  ·simp only [cond_false, del, hb, zRs r k x]
  ·simp only [cond_true, del, Nat.beq_refl, hb]
theorem zEt : ∀ (ks l : List Nat) (i : Nat), i < ks.length -> zCw (ks ++ l) i = zCw ks i
 | [], _, i, h => absurd h (zyi i)
 | k :: r, l, 0, _ => rfl
 | k :: r, l, i + 1, h => by simp only [List.cons_append, zCw]; exact zEt r l i (by simpa using h)
end
end Go.Sx
namespace Go.Sx
open Go.RowKit
open Go.ChangeMaps (setBlock)
def yBs (P : Program) (fn : Func) (R : Ending -> World -> Prop) : Exit -> Act -> World -> Prop := bodyPostM Fence.wide 0 P fn R
section
variable {P : Program} {b0 : zBw} {s : St}
theorem zF2 {F : List Nat} {w0 : Base} {h : Hp} {e : Nm} {a : Act} {w : World} (D : Den F w0 s h e a w) {fn : Func} {l : List ResultVar} {ds : List SD} (hr : fn.results = l.toArray) (hq : zLb P s l = some ds) : ∃ v, (results fn a.tmps).run P w = .ok v w /\ rep h (zKf ds) e v := by
 obtain ⟨vs, g1, g2⟩ := zK9 (P := P) D hq;refine ⟨if hz : vs.toArray.size = 1 then vs.toArray[0] else .tuple vs.toArray, ?_, ?_⟩
 ·rw [zEx, hr]
  simp only [List.mapM_toArray, Sem.run_bind];rw [map_eq_pure_bind];simp only [Sem.run_bind, g2, Result.andThen_ok, Sem.run_pure]
 ·match ds, vs, g1 with
  | [], vs, g1 =>
   simp only [repT] at g1;subst g1;simp [zKf, rep, repT]
  | [d1], vs, g1 =>
   simp only [repT] at g1;obtain ⟨v, vs', rfl, g3, rfl⟩ := g1;simpa [zKf] using g3
  | d1 :: d2 :: r, vs, g1 =>
   have : vs.toArray.size ≠ 1 := by
    simp only [repT] at g1;obtain ⟨v, vs', rfl, _, v2, vs2, rfl, _⟩ := g1;simp
   rw [dif_neg this];simp only [zKf, rep];exact ⟨vs, rfl, g1⟩
theorem zSi {k : List It} {fn : Func} {l : List ResultVar} {ds : List SD} {d : SD} (hr : fn.results = l.toArray) (hq : zLb P s l = some ds) (hd : zAc (zKf ds) d) : Run P [] b0.std (yBs P fn (zEj b0 d)) (.code .ret :: k) s := fun h e a w D => by
 refine wpIn_ret (zBz ?_);obtain ⟨v, g1, g2⟩ := zF2 D hr hq;show LeavesInM Fence.wide 0 P fn a.tmps (zEj b0 d) a.defers .returning w;rw [show a.defers = [] from D.defers];exact ⟨v, g1, v, h, rfl, D.le, D.sub, D.keeps.below, D.neww, hd h e _ g2⟩
theorem zK8 (nK K : Nat) {k : List It} {fn : Func} {l : List ResultVar} {ds : List SD} {d : SD} (hk : lkO s.ow nK = some (zEl (.deferred (some [])) (some K))) (hr : fn.results = l.toArray) (hq : zLb P s l = some ds) (hd : zAc (zKf ds) d) :
  Run P [] ⟨b0, none, [{ target := .collected K, args := #[] }]⟩ (yBs P fn (zEj b0 d)) (.code .ret :: k) s := fun h e a w D => by
 refine wpIn_ret (zBz ?_);show LeavesInM Fence.wide 0 P fn a.tmps (zEj b0 d) a.defers .returning w;rw [show a.defers = [{ target := .collected K, args := #[] }] from D.defers];obtain ⟨k1, k2⟩ := zLd (D.own _ _ hk);have k2 := k2 K rfl;have D' := D.setMp (m' := ⟨none, 0, fun _ => false, fun _ => .any, some (.raw (.deferred none) none)⟩) (o' := .deferred none) hk k1 ⟨rfl, fun b hb => by cases hb⟩;rw [k2] at D' k1;refine ⟨by simp, .inl ⟨K, _, rfl, run_takeDeferred k1, ?_⟩⟩
 have hq' : zLb P { s with ow := upd s.ow nK (.mp ⟨none, 0, fun _ => false, fun _ => .any, some (.raw (.deferred none) none)⟩ []) } l = some ds := by
  have hat : ∀ x l, atD s x = some l -> atD { s with ow := upd s.ow nK (.mp ⟨none, 0, fun _ => false, fun _ => .any, some (.raw (.deferred none) none)⟩ []) } x = some l := fun x l hx => by
   cases x <;> simp only [atD] at hx |- <;> try exact hx
   ·rename_i j off
    simp only [zBa];by_cases hj : j = nK
    ·subst hj; rw [hk] at hx; simp [zEl, lvE] at hx
    ·simp only [hj, if_false]; exact hx
   ·rename_i j es i off
    simp only [zBa];by_cases hj : j = nK
    ·subst hj; rw [hk] at hx; simp [zEl, lvE] at hx
    ·simp only [hj, if_false]; exact hx
  clear hr hd
  induction l generalizing ds with
  | nil => exact hq
  | cons x r ih =>
   simp only [zLb] at hq |-;split at hq
   ·rename_i d1 ds1 h1 h2
    simp only [zz1] at hq;subst hq
    have hx : resD P { s with ow := upd s.ow nK (.mp ⟨none, 0, fun _ => false, fun _ => .any, some (.raw (.deferred none) none)⟩ []) } x = some d1 := by
     cases x <;> simp only [resD] at h1 |-
     ·exact h1
     ·split at h1
      ·rename_i l0 hl0
       rw [hat _ _ hl0];exact h1
      ·cases h1
    rw [hx, ih h2]
   ·cases hq
 obtain ⟨v, g1, g2⟩ := zF2 D' hr hq';exact ⟨v, g1, v, h, rfl, D'.le, D'.sub, D'.keeps.below, D'.neww, hd h e _ g2⟩
theorem zPw {f : Nat} {fn : Func} {c : Code} {n : Nat} {R : List SD -> SD -> Prop} (hcall : ∀ args w, (callFunc f args).run P w = .ok (.enter f args) w) (hf : P.funcs[f]? = some fn) (hb : fn.body = some c) (hn : fn.ntmps = n)
  (hrun : ∀ ds d, R ds d -> ds.length <= n /\ ∀ w0 : zBw, Run P [] w0.std (yBs P fn (zEj w0 d)) [.code c] ⟨n, 0, zRp 0 ds, []⟩) : FnOK P f R := by
 refine ⟨hcall, fun ds d hR h e w vs gh hs hr => ?_⟩;obtain ⟨hlen, hrun⟩ := hrun ds d hR
 have hvl : vs.length = ds.length := by
  clear hR hrun hlen
  induction ds generalizing vs with
  | nil => simp only [repT] at hr; simp [hr]
  | cons d r ih => simp only [repT] at hr; obtain ⟨v, vs', rfl, _, h2⟩ := hr; simp [ih vs' h2]
 refine (callsIn_wide (n := 0)).1 (callsIn_of_wp_marks hf hb trivial ?_);refine hrun ⟨w, h, [], gh⟩ h e _ w ⟨rfl, ?_, fun t => ?_, fun k o hk => by simp [lkO] at hk, fun k o b hk => by simp [lkO] at hk, fun k k' o o' b _ hk => by simp [lkO] at hk, hs, zEv.refl _ _, Le.refl h, fun _ _ => rfl, fun i b hb => by simp [Base.fix, zBw.std] at hb⟩
 ·simp; omega
 ·have := zF4 (e := e) 0 t hr
  simp only [zz7, if_true, Nat.sub_zero] at this
  have e1 : (vs.toArray ++ Array.replicate (fn.ntmps - vs.toArray.size) undef).getD t undef = vs.getD t undef := by
   simp only [zyd, Array.getElem?_append, zz2];by_cases ht : t < vs.length
   ·simp [ht]
   ·simp only [List.size_toArray, ht, if_false, Array.getElem?_replicate]
    rw [List.getElem?_eq_none (by omega)];split <;> simp
  rw [e1];exact this
end
end Go.Sx
namespace Go.Sx
open Go.RowKit
open Go.ChangeMaps (setBlock)
section
variable {P : Program} {F : List Nat} {w0 : Base} {s : St} {h : Hp} {e : Nm} {a : Act} {w : World}
theorem zE5 {fin : Exit -> Act -> World -> Prop} {k : List It} {g : Operand} {ps : Array Nat} {as bd : Code} {gf : Nat} {caps caps' : List SD} (ks : List Nat) {os osu' : List OB} {pe : Option Code} {s2 : LR -> Nat -> St} (hrd : w0.rd = none)
  (hg : ev s g = .fn gf caps) (hcn : (!zHc s.nx caps && !zHc (s.nx + 1) caps) = true) (hcr : zHn (tau (ks ++ [s.nx + 1])) caps = caps') (hca : zCq (fun x => zB8 x (ks ++ [s.nx + 1])) (fun x => zB8 x (ks ++ [s.nx + 1])) caps = true)
  (hfr : (s.free s.nx && s.free (s.nx + 1) && nodupB (ks ++ [s.nx + 1]) && !zB8 s.nx ks) = true)
  (hos : ∀ r K, zMa (rfS s r K) (ks ++ [s.nx + 1]) (ks ++ [s.nx + 1]) = some (os ++ [zDi r .ready none]))
  (hit : ∀ (h0 : Hp) (bl : List Nat) (r : LR), r.ps = ps -> r.as = as -> r.bd = bd -> r.tm.size = s.n -> bl.length = os.length + 1 -> Le w0.h h0 -> (∀ j b, j < ks.length -> zCw ks j = 1000 + j -> w0.fix[j]? = some b -> bl[j]? = some b) ->
   (∀ h e, Le h0 h -> (∀ (i b : Nat), bl[i]? = some b -> e.bs (1000 + i) = b) -> ∀ t, rep h (lkp (yF0 s ks) t) e (r.tm.getD t undef)) ->
   zZw P gf h0 bl (fun ds o d o' => ds = .yld r.l :: caps' /\ o = os ++ [zDi r .ready none] /\ d = .tup [] /\ o' = zAy 1000 (osu' ++ [zDi r (stE pe) pe])))
  (hs : ∀ r K, yIz (rfS s r K) (ks ++ [s.nx + 1]) (os ++ [zDi r .ready none]) (zAy 1000 (osu' ++ [zDi r (stE pe) pe])) = some (s2 r K))
  (hre : ∀ r K, lkO (s2 r K).ow (s.nx + 1) = some (zDi r (stE pe) pe))
  (hK : ∀ r K, Run P F ⟨w0.b0, none, { target := .collected K, args := #[] } :: w0.ds⟩ fin (zVh pe k) ⟨(s2 r K).n, (s2 r K).nx, (s2 r K).sl, del (s2 r K).ow (s.nx + 1)⟩) :
  Run P F w0 fin (.code (.rangeFunc g ps as bd) :: k) s := fun h e a w D => by
 show (Code.rangeFunc g ps as bd).wpIn (fe w0.rd) 0 P (post P w0.rd fin k) a w;rw [hrd];simp only [zz3] at hfr;obtain ⟨⟨⟨f1, f2⟩, f3⟩, f4⟩ := hfr;have hv := D.ev g;rw [hg] at hv;simp only [rep] at hv;obtain ⟨vs, hv, hc⟩ := hv;refine wpIn_rangeFunc fun fn _ => ?_;show ∃ (l : Nat) (mark : List Deferred) (w₁ : World) (d : Deferred) (w₁' : World) (f : FuncId) (args : Array Value) (w₂ : World), _;obtain ⟨r, hr⟩ : ∃ r : LR, r = ⟨w.heap.size + 1, fn, a.tmps, ps, as, bd, w.heap.size⟩ := ⟨_, rfl⟩;have hrl : r.l = w.heap.size + 1 := by rw [hr]
 have D1 := D.newObj (k := s.nx) (m := ⟨none, 0, fun _ => false, fun _ => .any, some (.raw (.deferred (some [])) (some w.heap.size))⟩) (o := .deferred (some [])) (Free.of f1) ⟨rfl, fun b hb => by cases hb; rfl⟩ (s.nx + 1);have hsz1 : (w.alloc (.deferred (some []))).heap.size = w.heap.size + 1 := World.size_alloc _ _
 have F2 : Free ⟨s.n, s.nx + 1, s.sl, upd s.ow s.nx (zEl (.deferred (some [])) (some w.heap.size))⟩ (s.nx + 1) := by
  have hF := Free.of f2;refine ⟨hF.sl, fun j o hj => ?_, hF.lt⟩;simp only [zBa] at hj;by_cases hjk : j = s.nx
  ·simp only [hjk, if_true, zz1] at hj
   subst hj;exact ⟨by omega, (fun x hx => by simp [zEl] at hx), fun kd x hx => by simp only [zEl, OB.mp.injEq] at hx; rw [<- hx.2]; rfl⟩
  ·simp only [hjk, if_false] at hj
   exact hF.ow j o hj
 have D2 := Den.newObj (s := ⟨s.n, s.nx + 1, s.sl, upd s.ow s.nx (zEl (.deferred (some [])) (some w.heap.size))⟩) D1 (k := s.nx + 1) (m := ⟨none, 0, fun _ => false, fun _ => .any, some (.raw (.loop (r.loop .ready none)) (some r.l))⟩) (o := .loop (r.loop .ready none)) F2 ⟨rfl, fun b hb => by cases hb; rw [hsz1, hrl]⟩ (s.nx + 2);generalize hw1 : (w.alloc (.deferred (some []))).alloc (.loop (r.loop .ready none)) = w1 at D2;generalize he1 : (e.setB s.nx w.heap.size).setB (s.nx + 1) (w.alloc (.deferred (some []))).heap.size = e1 at D2;change Den F w0 (rfS s r w.heap.size) h e1 a w1 at D2;simp only [zz3, Bool.not_eq_true'] at hcn
 have hcaps : repT h caps e1 vs := by
  rw [<- he1];exact zEy (Nm.but_setB _ _ _) caps vs hcn.2 (zEy (Nm.but_setB _ _ _) caps vs hcn.1 hc)
 have hlen : (os ++ [zDi r .ready none]).length = (ks ++ [s.nx + 1]).length := (zEn (hos r w.heap.size)).1
 have hcon := hit h (zFq (e1.inn (ks ++ [s.nx + 1])) (os ++ [zDi r .ready none])) r (by rw [hr]) (by rw [hr]) (by rw [hr]) (by rw [hr]; exact D.size) (by simp [zFq]) D.le (fun j b hj hjk hb => by
  have hi1 : j < (os ++ [zDi r .ready none]).length := by rw [hlen]; simp; omega
  rw [zCo hi1];have q1 := (Free.of f1).lt;have q2 := (Free.of f2).lt;have hfx : e.bs (1000 + j) = b := D.fix j b hb;simp only [Nm.inn, Nat.add_sub_cancel_left, zEt _ _ _ hj, hjk];rw [<- he1];simp [Nm.setB, show ¬ (1000 + j = s.nx) by omega, show ¬ (1000 + j = s.nx + 1) by omega, hfx]) (fun h' e' hl hbl t => by
  have htm : r.tm = a.tmps := by rw [hr]
  rw [htm];refine zYs D hl (fun i hi => ?_) t;have hi1 : i < (os ++ [zDi r .ready none]).length := by rw [hlen]; simp; omega
  have hb := hbl i _ (zCo hi1);rw [hb];simp only [Nm.inn, Nat.add_sub_cancel_left, zEt _ _ _ hi];have hmem := zDr hi
  have n1 : zCw ks i ≠ s.nx := fun hc => by
   rw [Bool.not_eq_true'] at f4;have := zCb.2 hmem;rw [hc, f4] at this;cases this
  have n2 : zCw ks i ≠ s.nx + 1 := fun hc => by
   have hnd := zDw f3;have := (List.nodup_append.1 hnd).2.2 (zCw ks i) hmem (s.nx + 1) (by simp);exact this hc
  rw [<- he1];simp [Nm.setB, n1, n2])
 refine ⟨w.heap.size + 1, [{ target := .collected w.heap.size, args := #[] }], w1, { target := .fn (.func gf) vs.toArray, args := #[.func (.yield (w.heap.size + 1)) #[] #[]] }, w1, gf, #[.func (.yield (w.heap.size + 1)) #[] #[]] ++ vs.toArray, w1, ?_, ?_, fun f' _ => trivial, ?_, fun hh => (by cases hh), ?_⟩
 ·rw [<- hw1, hr]
  exact run_enterLoop_outer _ _ _ _ _
 ·have hev : a.eval g = .func (.func gf) #[] vs.toArray := hv
  simp only [resolve, hev];simp [go_sem]
 ·have hcl := hcon.call
  simp [invoke, go_sem, hcl]
 ·have hyv : repT h (.yld r.l :: caps) e1 (.func (.yield (w.heap.size + 1)) #[] #[] :: vs) := by
   simp only [repT, rep];exact ⟨_, _, rfl, by rw [hrl], hcaps⟩
  have hpm := zNr (s := rfS s r w.heap.size) (ks := ks ++ [s.nx + 1]) (ds0 := .yld r.l :: caps) (ds := .yld r.l :: caps') f3 (by simp only [zHn, ren, hcr]) (by simp only [zCq, zDs, zyg]; exact hca) (hos r w.heap.size);obtain ⟨q1, q2, q3, q4⟩ := D2.passF hpm hyv
  have hcalls := hcon.ok _ _ _ _ ⟨rfl, rfl, rfl, rfl⟩ h (e1.inn (ks ++ [s.nx + 1])) w1 _ D2.gh (Le.refl h) (fun i b hb => by
   have hi : i < (os ++ [zDi r .ready none]).length := by
    have := (List.getElem?_eq_some_iff.1 hb).1;simpa [zFq] using this
   rw [zCo hi] at hb;simpa using hb) D2.sub q1 q2 q3 q4
  have harr : (Value.func (.yield (w.heap.size + 1)) #[] #[] :: vs).toArray = #[Value.func (.yield (w.heap.size + 1)) #[] #[]] ++ vs.toArray := by apply Array.ext'; simp
  rw [harr] at hcalls;refine callsIn_wide.2 (hcalls.mono fun en w2 hq => ?_);obtain ⟨v, h', e'', rfl, D3⟩ := D2.aft (hos r w.heap.size) (hs r w.heap.size) hq;obtain ⟨k1, k2⟩ := zLd (D3.own _ _ (hre r w.heap.size));have k2 := k2 _ rfl;have k1' : w2.heap[w.heap.size + 1]? = some (.loop (r.loop (stE pe) pe)) := by rw [<- hrl, <- k2]; exact k1
  have hst : (r.loop (stE pe) pe).state ≠ .busy := by cases pe <;> simp [LR.loop, stE]
  refine ⟨pe, _, run_endLoop k1' hst, ?_⟩;have D4 := D3.setMp (m' := ⟨none, 0, fun _ => false, fun _ => .any, some (.raw (.loop { r.loop (stE pe) pe with state := .exhausted }) (some r.l))⟩) (o' := .loop { r.loop (stE pe) pe with state := .exhausted }) (hre r w.heap.size) k1 ⟨rfl, fun b hb => by cases hb; exact k2⟩;have D5 := (D4.drop (s.nx + 1)).base [{ target := .collected w.heap.size, args := #[] }] none;simp only [zRs] at D5;rw [k2, hrl] at D5;have hfinal := hK r w.heap.size _ _ _ _ D5;cases pe with
  | none => exact hfinal
  | some c => exact hfinal
end
section
variable {P : Program} {F : List Nat} {b0 : zBw} {s : St} {k : List It} {fn : Func} {l : List ResultVar} {ds : List SD} {d : SD} {os' : List (Nat × OB)}
theorem zGu {h : Hp} {e : Nm} {a : Act} {w : World} (D : Den F b0.std s h e a w) (hr : fn.results = l.toArray) (hq : zLb P s l = some ds) (hd : SLe (zKf ds) d) (ho : zEu s.ow os') : LeavesInM Fence.wide 0 P fn a.tmps (zA6 F b0 d os') a.defers .returning w := by
 obtain ⟨v, g1, g2⟩ := zF2 D hr hq;rw [show a.defers = [] from D.defers];exact ⟨v, g1, v, h, e, rfl, D.le, D.sub, D.keeps, D.neww, D.fix, hd h e _ g2, D.ownP ho⟩
theorem zBu (hr : fn.results = l.toArray) (hq : zLb P s l = some ds) (hd : SLe (zKf ds) d) (ho : zEu s.ow os') : Run P F b0.std (yBs P fn (zA6 F b0 d os')) (.code .ret :: k) s := fun h e a w D =>
 wpIn_ret (zBz (zGu D hr hq hd ho))
theorem zN4 (nK K : Nat) {h : Hp} {e : Nm} {a : Act} {w : World} (D : Den F ⟨b0, none, [{ target := .collected K, args := #[] }]⟩ s h e a w) (hk : lkO s.ow nK = some (zEl (.deferred (some [])) (some K))) (hr : fn.results = l.toArray) (hq : zLb P s l = some ds) (hd : SLe (zKf ds) d)
  (ho : zEu (upd s.ow nK (.mp ⟨none, 0, fun _ => false, fun _ => .any, some (.raw (.deferred none) none)⟩ [])) os') : LeavesInM Fence.wide 0 P fn a.tmps (zA6 F b0 d os') a.defers .returning w := by
 rw [show a.defers = [{ target := .collected K, args := #[] }] from D.defers];obtain ⟨k1, k2⟩ := zLd (D.own _ _ hk);have k2 := k2 K rfl;have D' := D.setMp (m' := ⟨none, 0, fun _ => false, fun _ => .any, some (.raw (.deferred none) none)⟩) (o' := .deferred none) hk k1 ⟨rfl, fun b hb => by cases hb⟩;rw [k2] at D' k1;refine ⟨by simp, .inl ⟨K, _, rfl, run_takeDeferred k1, ?_⟩⟩
 have hq' : zLb P { s with ow := upd s.ow nK (.mp ⟨none, 0, fun _ => false, fun _ => .any, some (.raw (.deferred none) none)⟩ []) } l = some ds := by
  have hat : ∀ x l, atD s x = some l -> atD { s with ow := upd s.ow nK (.mp ⟨none, 0, fun _ => false, fun _ => .any, some (.raw (.deferred none) none)⟩ []) } x = some l := fun x l hx => by
   cases x <;> simp only [atD] at hx |- <;> try exact hx
   ·rename_i j off
    simp only [zBa];by_cases hj : j = nK
    ·subst hj; rw [hk] at hx; simp [zEl, lvE] at hx
    ·simp only [hj, if_false]; exact hx
   ·rename_i j es i off
    simp only [zBa];by_cases hj : j = nK
    ·subst hj; rw [hk] at hx; simp [zEl, lvE] at hx
    ·simp only [hj, if_false]; exact hx
  clear hr hd
  induction l generalizing ds with
  | nil => exact hq
  | cons x r ih =>
   simp only [zLb] at hq |-;split at hq
   ·rename_i d1 ds1 h1 h2
    simp only [zz1] at hq;subst hq
    have hx : resD P { s with ow := upd s.ow nK (.mp ⟨none, 0, fun _ => false, fun _ => .any, some (.raw (.deferred none) none)⟩ []) } x = some d1 := by
     cases x <;> simp only [resD] at h1 |-
     ·exact h1
     ·split at h1
      ·rename_i l0 hl0
       rw [hat _ _ hl0];exact h1
      ·cases h1
    rw [hx, ih h2]
   ·cases hq
 obtain ⟨v, g1, g2⟩ := zF2 D' hr hq';exact ⟨v, g1, v, h, e, rfl, D'.le, D'.sub, D'.keeps, D'.neww, D'.fix, hd h e _ g2, D'.ownP ho⟩
end
section
variable {P : Program} {F : List Nat} {w0 : Base} {s : St} {h : Hp} {e : Nm} {a : Act} {w : World} {Q : Exit -> Act -> World -> Prop} {ops : Array Oper} {rest : List Oper} {h0 : Hp} {bl : List Nat}
end
end Go.Sx
namespace Go.Sx
open Go.RowKit
mutual
@[go_sem] def yEe : SD -> Bool
 | .any | .int .. | .bool _ | .str _ | .nils | .nilp | .nilfn | .nilif | .nilmap => true
 | .tup l => yAo l
 | _ => false
@[go_sem] def yAo : List SD -> Bool
 | [] => true
 | d :: r => yEe d && yAo r
end
mutual
theorem zKc {h h' : Hp} : ∀ (d : SD) (e : Nm) (v : Value), yEe d = true -> rep h d e v -> rep h' d e v
 | .any, _, _, _, _ => by simp [rep]
 | .int .., _, _, _, x => by simpa [rep] using x
 | .bool .., _, _, _, x => by simpa [rep] using x
 | .str .., _, _, _, x => by simpa [rep] using x
 | .nils, _, _, _, x => by simpa [rep] using x
 | .nilp, _, _, _, x => by simpa [rep] using x
 | .nilfn, _, _, _, x => by simpa [rep] using x
 | .nilif, _, _, _, x => by simpa [rep] using x
 | .nilmap, _, _, _, x => by simpa [rep] using x
 | .tup l, e, v, hs, x => by
  simp only [rep] at x |-;obtain ⟨vs, h1, h2⟩ := x;exact ⟨vs, h1, zO8 l e vs (by simpa [yEe] using hs) h2⟩
 | .agg _, _, _, hs, _ | .list .., _, _, hs, _ | .lng .., _, _, hs, _ | .fp _, _, _, hs, _ | .loc .., _, _, hs, _ | .acc _, _, _, hs, _ | .accH .., _, _, hs, _ | .aptr .., _, _, hs, _ | .accp .., _, _, hs, _ | .vsl .., _, _, hs, _
 | .bfn .., _, _, hs, _ | .gd .., _, _, hs, _ | .fn .., _, _, hs, _ | .iface .., _, _, hs, _ | .omap _, _, _, hs, _ | .fmap .., _, _, hs, _ | .yld _, _, _, hs, _ | .val _, _, _, hs, _ => by simp [yEe] at hs
theorem zO8 {h h' : Hp} : ∀ (l : List SD) (e : Nm) (vs : List Value), yAo l = true -> repT h l e vs -> repT h' l e vs
 | [], _, _, _, x => by simpa [repT] using x
 | d :: r, e, vs, hs, x => by
  simp only [yAo, zz3] at hs;simp only [repT] at x |-;obtain ⟨v, vs', h1, h2, h3⟩ := x;exact ⟨v, vs', h1, zKc d e v hs.1 h2, zO8 r e vs' hs.2 h3⟩
end
@[go_sem] def frzAll (s : St) : List Nat -> Option St
 | [] => some s
 | k :: r => match yGu s k with
  | some s' => frzAll s' r
  | none => none
section
variable {P : Program} {F : List Nat} {w0 : Base} {s : St} {h : Hp} {e : Nm} {a : Act} {w : World} {Q : Exit -> Act -> World -> Prop} {ops : Array Oper} {rest : List Oper}
theorem Den.frzAll : ∀ {ks : List Nat} {s : St} {h : Hp} {sf : St}, Den F w0 s h e a w -> frzAll s ks = some sf -> ∃ h', Den F w0 sf h' e a w
 | [], s, h, sf, D, hq => by
  simp only [Sx.frzAll, zz1] at hq;subst hq;exact ⟨h, D⟩
 | k :: r, s, h, sf, D, hq => by
  simp only [Sx.frzAll] at hq;split at hq
  ·rename_i s' h1
   obtain ⟨h', D'⟩ := D.frz h1;exact D'.frzAll hq
  ·cases hq
theorem Den.lent (D : Den F w0 s h e a w) {w' : World} (hb : Below w.heap.size w w') : Den F w0 s h e a w' :=
 D.called (Le.refl h) (fun b o ho => by
  have h1 := D.sub b o ho
  have hlt : b < w.heap.size := by
   rcases Nat.lt_or_ge b w.heap.size with h2 | h2
   ·exact h2
   ·rw [Array.getElem?_eq_none h2] at h1; cases h1
  rw [hb.block b hlt]; exact h1) hb (fun _ _ => rfl)
end
end Go.Sx
namespace Go.Sx
open Go.RowKit
section
variable {P : Program} {F : List Nat} {w0 : Base} {s s0 : St} {Q : Exit -> Act -> World -> Prop} {id : Nat} {l : List Oper} {rs : List Rec} {rest : List Oper}
end
end Go.Sx
namespace Go.Sx
theorem qS {p : Prop} (h : p := by simp only [go_sem]; rfl) : p := h
theorem qR {p : Prop} (h : p := by rfl) : p := h
theorem qD {p : Prop} (h : p := by simp only [go_sem]; first | done | rfl) : p := h
theorem qZ {p : Prop} (h : p := by simp only [go_sem]) : p := h
theorem qK {p : Prop} (h : p := by kernel_rfl) : p := h
theorem qF {p : Prop} (h : p := by first | (simp only [go_sem]; done) | (simp only [go_sem]; rfl)) : p := h
theorem qL {p : Prop} (h : p := by
 (try simp only [go_sem]); repeat' (first | exact trivial | exact zz0 | exact SLe.refl _ | exact OLe.refl _ | exact ⟨_, rfl, OLe.refl _⟩ | refine ⟨_, rfl, ?_⟩ | refine OLe.var ?_ | (show zCr _ _; refine ⟨?_, ?_⟩) | (show zCr [] []; exact zz0) | (refine SLe.int ?_; rw [w64]; omega) | refine SLe.int ?_ | refine SLe.bool ?_ | apply And.intro)) : p := h
theorem qP {p : Prop} (h : p := by
 (show zAl _; first | exact zz0 | (simp only [zAl, go_sem, Bool.not_eq_true', Bool.not_eq_false', implies_true, true_and, and_true, and_self, imp_self]; done) | (simp only [zAl, go_sem]; (repeat' apply And.intro) <;> first | exact zz0 | omega) | (simp only [zAl, go_sem]; (repeat' (first | exact zz0 | assumption | apply And.intro | (intro hx; simp [hx]; done) | intro _ | omega)); done) | (simp [zAl, go_sem]; done) | (simp [zAl, go_sem] at *; first | done | assumption | omega | (simp_all; done)) | (simp only [zAl, go_sem]; intros; simp_all; done) | (simp only [zAl, go_sem, ByteArray.size_append, size_mk, List.size_toArray, zye, List.length_cons, List.length_nil, and_true, true_and]; (repeat' apply And.intro) <;> omega))) : p := h
theorem bF : (∀ (p : Prop) [Decidable p], (decide p = true) = p) /\ (∀ (p : Prop) [Decidable p], (decide p = false) = ¬p) /\ (∀ a b : Int, (¬a < b) = (b <= a)) /\ (∀ a b : Int, (¬a <= b) = (b < a)) /\ (∀ n m : Nat, ((n : Int) < m) = (n < m)) /\ (∀ n m : Nat, ((n : Int) <= m) = (n <= m)) /\
  (∀ a b : Bool, ((a && b) = true) = (a = true /\ b = true)) /\ (∀ a b : Bool, ((a || b) = true) = (a = true \/ b = true)) /\ (∀ a b : Bool, ((a || b) = false) = (a = false /\ b = false)) /\ (∀ a : Bool, ((!a) = true) = (a = false)) /\ (∀ a : Bool, ((!a) = false) = (a = true)) /\
  (∀ (α : Type) [BEq α] [LawfulBEq α] (a b : α), ((a == b) = true) = (a = b)) /\ (∀ (α : Type) [BEq α] [LawfulBEq α] (a b : α), ((a == b) = false) = (a ≠ b)) /\ (∀ (α : Type) [BEq α] [LawfulBEq α] (a b : α), ((a != b) = true) = (a ≠ b)) /\ ∀ (α : Type) [BEq α] [LawfulBEq α] (a b : α), ((a != b) = false) = (a = b) :=
 ⟨fun _ _ => zyf, fun _ _ => propext decide_eq_false_iff_not, fun _ _ => propext Int.not_lt, fun _ _ => propext Int.not_le, fun _ _ => propext Int.ofNat_lt, fun _ _ => propext Int.ofNat_le, fun a b => zz3 a b, fun a b => Bool.or_eq_true a b, fun _ _ => propext Bool.or_eq_false_iff, fun a => Bool.not_eq_true' a, fun a => Bool.not_eq_false' a,
  fun _ _ _ _ _ => propext beq_iff_eq, fun _ _ _ _ _ => propext beq_eq_false_iff_ne, fun _ _ _ _ _ => propext bne_iff_ne, fun _ _ _ _ _ => propext bne_eq_false_iff_eq⟩
theorem qO {a b : List (Nat × OB)} (h : zEu a b := by
 simp only [go_sem]; repeat' (first | exact SLe.any1 | exact trivial | exact zz0 | exact SLe.refl _ | exact OLe.refl _ | exact ⟨_, rfl, OLe.refl _⟩ | refine ⟨_, rfl, ?_⟩ | refine OLe.var ?_ | (show zCr _ _; refine ⟨?_, ?_⟩) | (show zCr [] []; exact zz0) | (refine SLe.int ?_; rw [w64]; omega) | refine SLe.int ?_ | refine SLe.bool ?_ | apply And.intro)) : zEu a b := h
theorem qN {a b : List (Nat × OB)} (h : zEu a b := by
 simp only [go_sem]; repeat' (first | exact trivial | exact zz0 | exact SLe.refl _ | exact OLe.refl _ | exact ⟨_, rfl, OLe.refl _⟩ | refine ⟨_, rfl, ?_⟩ | refine OLe.var ?_ | (show zCr _ _; refine ⟨?_, ?_⟩) | (show zCr [] []; exact zz0) | (refine SLe.int ?_; rw [w64]; omega) | refine SLe.int ?_ | refine SLe.bool ?_ | apply And.intro)) : zEu a b := h
theorem qM {a b : SD} (h : SLe a b := by
 simp only [go_sem]; repeat' (first | exact trivial | exact zz0 | exact SLe.refl _ | exact OLe.refl _ | exact ⟨_, rfl, OLe.refl _⟩ | refine ⟨_, rfl, ?_⟩ | refine OLe.var ?_ | (show zCr _ _; refine ⟨?_, ?_⟩) | (show zCr [] []; exact zz0) | (refine SLe.int ?_; rw [w64]; omega) | refine SLe.int ?_ | refine SLe.bool ?_ | apply And.intro)) : SLe a b := h
theorem qT {p : Prop} (h : p := by first | exact zz0 | exact rfl) : p := h
theorem wB {R R' : Prop} (r : R') (h : R' -> R := by first | exact zB | exact zMo rfl | exact zA | exact zKd | exact zPe | exact zQv | exact zNk) : R := h r
theorem wA {R R' : Prop} (r : R') (h : R' -> R := by first | exact zB | exact zMo rfl | exact zA | exact zKd | exact zPe | exact zQv | exact zNk | exact zC (by simp only [go_sem]; rfl) (by rfl) (by first | exact zz0 | exact qP)) : R := h r
theorem qC {p q : Prop} (h : p = q := by first | (simp only [bF]; done) | (simp only [bF]; rfl) | rfl) : p = q := h
section
open Go.RowKit
variable {P : Program} {F : List Nat} {w0 : Base} {s : St}
theorem zAa {fin : Exit -> Act -> World -> Prop} {k : List It} {c : Operand} {x y : Code} {t : Bool} {p q : Prop} (hc : ev s c = .bool t) (hp : (t = true) = p) (hq : (t = false) = q) (h1 : t = true -> p -> Run P F w0 fin (.code x :: k) s) (h2 : t = false -> q -> Run P F w0 fin (.code y :: k) s) : Run P F w0 fin (.code (.cond c x y) :: k) s := zNl hc (fun h => h1 h (hp.mp h)) fun h => h2 h (hq.mp h)
theorem zA3 {B : Type} {fin : B -> List Nat -> zBw -> Fin} {K : Fin -> List It} {c : Operand} {x y : Code} {t : Bool} {p q : Prop} (hc : ev s c = .bool t) (hp : (t = true) = p) (hq : (t = false) = q) (h1 : t = true -> p -> zH9 P fin (fun fn => .code x :: K fn) s) (h2 : t = false -> q -> zH9 P fin (fun fn => .code y :: K fn) s) : zH9 P fin (fun fn => .code (.cond c x y) :: K fn) s := zWz hc (fun h => h1 h (hp.mp h)) fun h => h2 h (hq.mp h)
end
end Go.Sx
namespace Go.Sx
open Go.RowKit
section
variable {P : Program} {F : List Nat} {w0 : Base} {s : St} {ops : Array Oper} {Q : Exit -> Act -> World -> Prop} {rest : List Oper}
end
end Go.Sx
namespace Go.Sx
open Go.RowKit
section
variable {P : Program} {F : List Nat} {w0 : Base} {fin : Exit -> Act -> World -> Prop} {k : List It} {s : St}
end
end Go.Sx
namespace Go.Sx
open Go.RowKit
def clF (lo : Nat) (f : Nat -> SD) (i : Nat) : SD := if i < lo then f i else .any
section
variable {P : Program} {F : List Nat} {w0 : Base} {s : St} {ops : Array Oper} {Q : Exit -> Act -> World -> Prop} {rest : List Oper}
theorem yD8 {T te es lo n k : Nat} {f : Nat -> SD} {x : Operand} {ty : Nat} {pos : String} {af : Array Edge} {s' : St} (hx : ev s x = .accp k es lo) (ho : lkO s.ow k = some (.acc te es n f)) (hb : (Nat.beq (kdT P T) 1 && Nat.beq (szT P te) es && Nat.ble 1 es && zPt P te) = true) (hte : elT P T = some te)
  (hs : (⟨s.n, s.nx, s.sl, upd s.ow k (.acc te es n (clF lo f))⟩ : St) = s') (hn : zAg P F w0 ops Q rest s') : zAg P F w0 ops Q (⟨none, .call ⟨.builtin .clear, #[x], #[T]⟩, ty, pos, af, none⟩ :: rest) s := fun h e a w D => by
 subst hs;simp only [zz3] at hb;obtain ⟨⟨⟨c3, c4⟩, c5⟩, c6⟩ := hb;have c4 := zz4 c4;have c5 := zz8 c5;obtain ⟨te2, hu⟩ := zQo c3;have := zB6 hu hte;subst this;obtain ⟨m0, hm0⟩ : ∃ m, szT P te = m + 1 := ⟨szT P te - 1, by omega⟩;obtain ⟨i, hi, hsz⟩ := zAo hm0;have hes : es = i.size := by omega
 cases hz : i.zero with
 | none => simp [zPt, hi, hz] at c6
 | some z =>
  simp only [zPt, hi, Option.bind_some, hz, zz3] at c6;have hzs : z.cells.size = es := by rw [zz4 c6.1, c4]
  have hz1 : ∀ v ∈ z.cells, v.oneCell' = true := Array.all_eq_true_iff_forall_mem.1 c6.2;have hxv := D.ev x;rw [hx] at hxv;simp only [rep] at hxv;obtain ⟨b, n1, c, x1, x2, x3, x4⟩ := hxv;obtain ⟨xs, o1, o2, o3⟩ := D.own _ _ ho;refine zAe rfl fun K hK => ?_;unfold Oper.wp
  rcases o1.2 with ⟨hv, _⟩ | ⟨g', cap, cur, hv, _, hg, hnc, hcm, hcs, htake⟩
  ·rw [x1] at hv; cases hv
  ·rw [x1] at hv
   simp only [Value.slice.injEq, zz1, Addr.mk.injEq, and_true] at hv;obtain ⟨rfl, rfl, rfl⟩ := hv;have hxl := o1.1;have hmc : n1 * es <= c * es := zyk _ hnc;by_cases hmz : n1 - lo = 0
   ·have hr : (execOp a.eval ⟨none, .call ⟨.builtin .clear, #[x], #[T]⟩, ty, pos, af, none⟩).run P w = .ok (.value (.tuple #[])) w := by
     have e1 : ∀ ad, (Builtin.clear_ #[T] ty #[.slice (some ad) (n1 - lo) (c - lo)]).run P w = .ok (.tuple #[]) w := fun ad => by
      simp [Builtin.clear_, run_underlying hu, hmz]
     simp only [execOp, resolve, invoke, builtin, Sem.run_bind, Sem.run_pure, Result.andThen_ok, List.map_toArray, List.map_cons, List.map_nil, x4, e1]
    rw [hr];refine hK _ _ (hn h e _ _ ((D.setOwn (o' := .acc te es n1 (clF lo f)) ho rfl ⟨xs, o1, o2, fun j hj => ?_⟩ (fun _ _ => rfl) rfl rfl rfl rfl).put_none _));have : clF lo f j = f j := by unfold clF; rw [if_pos (by omega)]
    rw [this]; exact o3 j hj
   ·have ea : (if c = lo then (⟨b, 0, none⟩ : Addr) else ⟨b, lo * es, none⟩) = ⟨b, lo * es, none⟩ := if_neg (by omega)
    rw [ea] at x4;generalize hm : n1 - lo = m at *;generalize hzc : (Builtin.zeroCells z.cells m).toList = zs;have hzl : zs.length = m * es := by rw [<- hzc]; simp [Builtin.zeroCells, hzs]
    have hz1' : ∀ v ∈ zs, v.oneCell' = true := fun v hv => by
     rw [<- hzc] at hv;simp only [Builtin.zeroCells, Array.toList_map, Array.toList_range, List.mem_map] at hv;obtain ⟨j, hj, rfl⟩ := hv;have hpos : j % z.cells.size < z.cells.size := Nat.mod_lt _ (by omega);rw [getElem!_pos z.cells _ hpos];exact hz1 _ (Array.getElem_mem _)
    have hlm : lo * es + m * es = n1 * es := by rw [<- Nat.add_mul]; congr 1; omega
    have hst := run_storeCells_at P b (lo * es) te zs 0 cur w hg (by rw [hzl]; omega) hz1';simp only [Nat.add_zero] at hst;have hm1 : ∃ q, m = q + 1 := ⟨m - 1, by omega⟩
    have hr : (execOp a.eval ⟨none, .call ⟨.builtin .clear, #[x], #[T]⟩, ty, pos, af, none⟩).run P w = .ok (.value (.tuple #[])) (w.setRow b (cur.toList.take (lo * es) ++ zs ++ cur.toList.drop (lo * es + zs.length)).toArray) := by
     have e1 : (Builtin.clear_ #[T] ty #[.slice (some ⟨b, lo * es, none⟩) m (c - lo)]).run P w = .ok (.tuple #[]) (w.setRow b (cur.toList.take (lo * es) ++ zs ++ cur.toList.drop (lo * es + zs.length)).toArray) := by
      obtain ⟨q, rfl⟩ := hm1;simp [Builtin.clear_, run_underlying hu, zeroValue, typeInfo, hi, hz, hzc, hst]
     simp only [execOp, resolve, invoke, builtin, Sem.run_bind, Sem.run_pure, Result.andThen_ok, List.map_toArray, List.map_cons, List.map_nil, x4, e1]
    rw [hr];have hblk : (OB.acc te es n1 f).blk e k = some b := by simp [OB.blk, x1, Value.ownBlock]
    have hlen : (cur.toList.take (lo * es) ++ zs ++ cur.toList.drop (lo * es + zs.length)).length = c * es := by
     simp only [zye, zyl, List.length_drop, hzl, Array.length_toList];omega
    refine hK _ _ (hn h e _ _ ((D.setOwn (w' := w.setRow b (cur.toList.take (lo * es) ++ zs ++ cur.toList.drop (lo * es + zs.length)).toArray) (o' := .acc te es n1 (clF lo f)) ho rfl ?_ (fun b' hb' => ?_) rfl rfl rfl (by simp)).put_none _))
    ·refine ⟨xs.take (lo * es) ++ zs, ⟨?_, .inr ⟨b, c, _, x1, zz7 _, setRow_heap w b cur _ te _ hg, hnc, hcm, ?_, ?_⟩⟩, o2, fun j hj => ?_⟩
     ·rw [zye, zyl, hzl]; omega
     ·simpa using hlen
     ·have h1 : (cur.toList.take (lo * es)).length = lo * es := by rw [zyl, Array.length_toList]; omega
      rw [<- htake];simp only [List.toList_toArray, List.take_append, List.take_take, h1, hzl, zye];rw [Nat.min_eq_right (by omega), Nat.min_eq_left (by omega), List.take_of_length_le (l := zs) (by omega), show n1 * es - (lo * es + m * es) = 0 by omega, List.take_zero, List.append_nil]
     ·have hj' : (j + 1) * es <= n1 * es := zyk _ hj
      rw [Nat.add_mul, Nat.one_mul] at hj';by_cases hjl : j < lo
      ·obtain ⟨u, u1, u2, u3⟩ := o3 j hj
       refine ⟨u, by unfold clF; rw [if_pos hjl]; exact u1, ?_, u3⟩;have hjl' : (j + 1) * es <= lo * es := zyk _ hjl;rw [Nat.add_mul, Nat.one_mul] at hjl';rw [u2];simp only [cut];rw [List.drop_append_of_le_length (by rw [zyl]; omega), List.take_append_of_le_length (by rw [List.length_drop, zyl]; omega), List.drop_take, List.take_take, Nat.min_eq_left (by omega)]
      ·refine ⟨.agg (cut (xs.take (lo * es) ++ zs) (j * es) es).toArray, by unfold clF; rw [if_neg hjl]; intro e; simp [rep], by simp [Value.cells], ?_, fun v hv => ?_⟩
       ·simp only [Value.cells, List.size_toArray, cut, zyl, List.length_drop, zye, hzl]
        omega
       ·simp only [Value.cells, cut, List.mem_toArray] at hv
        have h1 := List.mem_of_mem_take hv;have hjl' : lo * es <= j * es := zyk _ (by omega);rw [List.drop_append, List.drop_of_length_le (by rw [zyl]; omega), List.nil_append] at h1;exact hz1' v (List.mem_of_mem_drop h1)
    ·have : b' ≠ b := fun hc => by subst hc; exact hb' hblk
     exact setRow_other w b b' _ this
theorem yD7 {t T te es n k : Nat} {kk : IntKind} {l : Int} {f : Nat -> SD} {x y : Operand} {ty : Nat} {pos : String} {af : Array Edge} {s' : St} (hx : ev s x = .acc k) (hy : ev s y = .int kk l) (ho : lkO s.ow k = some (.acc te es n f)) (hb : (Nat.beq (kdT P T) 1 && Nat.blt t s.n && zXs k s.ow && Nat.ble 1 (szT P te)) = true) (hte : elT P T = some te) (hp : 0 <= l /\ l <= (n : Int) /\ 0 < n)
  (hs : (⟨s.n, s.nx, upd (zLf k s.sl) t (.acc k), upd (zGr k s.ow) k (.acc te es l.toNat f)⟩ : St) = s') (hn : zAg P F w0 ops Q rest s') : zAg P F w0 ops Q (⟨some t, .slice T x none (some y) none, ty, pos, af, none⟩ :: rest) s := fun h e a w D => by
 subst hs;simp only [zz3] at hb;obtain ⟨⟨⟨c3, c4⟩, c5⟩, c6⟩ := hb;have ht := zAk c4;have c6 := zz8 c6;obtain ⟨te2, hu⟩ := zQo c3;have := zB6 hu hte;subst this;obtain ⟨m0, hm0⟩ : ∃ m, szT P te = m + 1 := ⟨szT P te - 1, by omega⟩;obtain ⟨i, hi, hsz⟩ := zAo hm0;have hxv := D.ev x;rw [hx] at hxv;have hyv := D.ev y;rw [hy] at hyv;simp only [rep] at hxv hyv;obtain ⟨p1, p2, p3⟩ := hp;obtain ⟨xs, o1, o2, o3⟩ := D.own _ _ ho;refine zAe rfl fun K hK => ?_;unfold Oper.wp
 rcases o1.2 with ⟨_, hv⟩ | ⟨b, c, cur, hv, hb0, hg, hnc, hcm, hcs, htake⟩
 ·omega
 ·have hbd : (Instr.sliceBounds true n c none (some (.int kk l)) none).run P w = .ok (0, l.toNat, c) w := by
   have : 0 <= l /\ l <= (c : Int) := ⟨p1, by omega⟩;simp [Instr.sliceBounds, Instr.sliceBound, asIntOf, this]
  have hxe : a.eval x = .slice (some ⟨b, 0, none⟩) n c := hxv.1.trans hv
  have hr : (execOp a.eval ⟨some t, .slice T x none (some y) none, ty, pos, af, none⟩).run P w = .ok (.value (.slice (some ⟨b, 0, none⟩) l.toNat c)) w := by
   have e2 : (Instr.sliceAt T (.slice (some ⟨b, 0, none⟩) n c) none (some (.int kk l)) none).run P w = .ok (.slice (some ⟨b, 0, none⟩) l.toNat c) w := by
    simp [Instr.sliceAt, Instr.slice, run_underlying hu, hbd, sizeOf, typeInfo, hi, Addr.add_mid]
   simp [execOp, hxe, hyv, e2]
  rw [hr];obtain ⟨Dp, hNo⟩ := D.purge (k := k) c5;have hln : l.toNat <= n := by omega
  have hle : l.toNat * es <= n * es := zyk _ hln;have hxl := o1.1;have D1 := Dp.acc' (k := k) (T := te) (es := es) (n := l.toNat) (f := f) (v' := .slice (some ⟨b, 0, none⟩) l.toNat c) (w' := w) (row := (e.hd k).ownBlock) hNo ?_ (fun b hb => ?_) (fun b' hb => ?_) ⟨⟨rfl, rfl, rfl, zyj _, fun _ _ _ => rfl⟩, zyj _⟩
  ·have D2 := D1.put (i := t) (d := .acc k) (v := .slice (some ⟨b, 0, none⟩) l.toNat c) ht ?_
   ·exact hK _ _ (hn _ _ _ _ (D2.congr rfl (fun _ => rfl) fun _ => rfl))
   ·simp only [rep, Nm.setH, if_true]
    exact ⟨trivial, _, _, _, rfl⟩
  ·refine ⟨xs.take (l.toNat * es), ?_, Nat.le_trans hln o2, fun j hj => ?_⟩
   ·simp only [Nm.setH, if_true]
    refine ⟨by rw [zyl]; omega, .inr ⟨b, c, cur, rfl, hb0, hg, Nat.le_trans hln hnc, hcm, hcs, ?_⟩⟩;rw [<- htake, List.take_take, Nat.min_eq_left hle]
   ·obtain ⟨u, u1, u2, u3⟩ := o3 j (by omega)
    refine ⟨u, u1, ?_, u3⟩;have hj' : (j + 1) * es <= l.toNat * es := zyk _ hj;rw [Nat.add_mul, Nat.one_mul] at hj';rw [u2];simp only [cut];rw [List.drop_take, List.take_take, Nat.min_eq_left (by omega)]
  ·refine ⟨(D.ownb k _ b ho (by simpa [OB.blk] using hb)).1, (D.ownb k _ b ho (by simpa [OB.blk] using hb)).2, fun j o' hjk hj hc => ?_⟩
   obtain ⟨o0, g1, g2, _⟩ := zCu k _ j o' hj;rw [g2.blk] at hc;exact D.apart j k o0 _ b hjk g1 ho hc (by simpa [OB.blk] using hb)
  ·left
   rw [hv];simpa [Value.ownBlock] using hb
end
end Go.Sx
namespace Go.Sx
open Go.RowKit
section
variable {P : Program} {F : List Nat} {w0 : Base} {s : St} {Q : Exit -> Act -> World -> Prop} {ops : Array Oper} {rest : List Oper}
def zRc (s : St) (k es n : Nat) (g : Nat -> SD) : St := ⟨s.n, s.nx, zZz k (.list es n g) (fun o => .loc k o) (.omap k) s.sl, []⟩
theorem zMk {f t : Nat} {args : Array Operand} {tys : Array Nat} {ty : Nat} {pos : String} {af : Array Edge} {R : List SD -> SD -> Prop} (k : Nat) {T es n : Nat} {g : Nat -> SD} {ds : List SD} {d : SD} {s' : St} (ho : lkO s.ow k = some (.acc T es n g)) (hf : FnOK P f R)
  (ha : args.toList.map (unG (zRc s k es n g)) = ds) (hg : zAl (gCs (zRc s k es n g) args.toList [])) (hR : R ds d) (hsc : yEe d = true) (hs : zCp s t d = some s')
  (hn : zAg P F w0 ops Q rest s') : zAg P F w0 ops Q (⟨some t, .call ⟨.value (.func f), args, tys⟩, ty, pos, af, none⟩ :: rest) s := fun h e a w D => by
 subst ha;obtain ⟨ht, rfl⟩ := zAp hs;refine zAe rfl fun K hK => ?_;unfold Oper.wp;rw [zFg hf];obtain ⟨xs, o1, o2, o3⟩ := D.own k _ ho
 have key : ∃ h2, Le h h2 /\ Sub h2 w /\ rep h2 (.list es n g) e (e.hd k) := by
  rcases o1.2 with ⟨hv, hn0⟩ | ⟨b, cap, cur, hv, _, hgg, hnc, hcm, hcs, htake⟩
  ·refine ⟨h, Le.refl h, D.sub, ?_⟩
   rw [hv];simp only [rep];exact ⟨none, 0, by rw [hn0], by omega, ⟨zz7 _, zPp o2⟩, fun hc => absurd hc (by omega)⟩
  ·have hblk : (OB.acc T es n g).blk e k = some b := by simp [OB.blk, hv, Value.ownBlock]
   have b2 := (D.ownb k _ b ho hblk).2
   have q1 : Le h (h.set b (.cells cur T (0, 0))) := fun c x hx => by
    simp only [Hp.set];by_cases hb : c = b
    ·subst hb; rw [b2] at hx; cases hx
    ·simp [hb, hx]
   refine ⟨h.set b (.cells cur T (0, 0)), q1, fun c y hx => ?_, ?_⟩
   ·simp only [Hp.set] at hx
    by_cases hb : c = b
    ·subst hb
     simp only [if_true, zz1] at hx;subst hx;exact hgg
    ·simp only [hb, if_false] at hx
     exact D.sub c y hx
   ·rw [hv]
    simp only [rep];refine ⟨_, cap, rfl, hnc, ⟨hcm, zPp o2⟩, fun hn0 => ⟨⟨b, 0, none⟩, cur, T, (0, 0), rfl, rfl, by simp [Hp.set], fun i hi => ?_⟩⟩;obtain ⟨u, u1, u2, u3⟩ := o3 i hi;refine ⟨u, fun e' => zA9 q1 _ e' _ (u1 e'), ?_, u3⟩;rw [u2, <- htake];simp only [cut, List.drop_take, List.take_take, Nat.zero_add]
    congr 1
    have : (i + 1) * es <= n * es := zyk _ hi;rw [Nat.add_mul] at this;omega
 obtain ⟨h2, l1, l2, l3⟩ := key
 have hev : ∀ x : Operand, rep h2 (ev (zRc s k es n g) x) e (a.eval x) := fun x => by
  have hF := fun d v => zFa (h := h2) (e := e) (k := k) (d0 := .list es n g) (L := fun o => .loc k o) (dm := .omap k) (fun v hv => by simp only [rep] at hv; rw [hv.1]; exact l3) (fun _ _ x => x) (fun _ x => x) d v;have hx := zA9 l1 _ e _ (D.ev x);cases x with
  | tmp t =>
   have := hF _ _ hx;simp only [Sx.ev, zRc, zQ9] at this |-;exact this
  | const v => exact zH0 h2 e v
  | func f => exact hx
  | global g => simp [Sx.ev, rep]
 have hT : ∀ l : List Operand, (∀ x ∈ l, ∀ c d, ev (zRc s k es n g) x = .gd c d -> c = true) -> repT h2 (l.map (unG (zRc s k es n g))) e (l.map a.eval) := by
  intro l
  induction l with
  | nil => intro _; simp [repT]
  | cons x r ih =>
   intro hl;simp only [List.map_cons, repT];exact ⟨_, _, rfl, zEh (hev x) fun c d hc => hl x (by simp) c d hc, ih fun y hy => hl y (by simp [hy])⟩
 refine (hf.ok _ _ hR h2 e w _ (D.gh.mono l1) l2 (hT _ (zAm hg).1)).mono fun en w' hq => ?_;obtain ⟨v, h', rfl, g1, g2, g3, g4, g5⟩ := hq;exact hK _ _ (hn _ _ _ _ ((D.lent g3).put ht (zKc _ _ _ hsc (g5 e))))
theorem yHf {t T : Nat} {x y : Operand} {ty : Nat} {pos : String} {af : Array Edge} {p : List Prop} {d : SD} {s' : St} (hq : slA P s T (ev s x) (ev s y) = some (p, d)) (hp : zAl p) (hs : zCp s t d = some s')
  (hn : zAg P F w0 ops Q rest s') : zAg P F w0 ops Q (⟨some t, .slice T x (some y) none none, ty, pos, af, none⟩ :: rest) s := fun h e a w D => by
 obtain ⟨ht, rfl⟩ := zAp hs;exact zAe rfl fun K hK => yCm D ht hq hp K _ fun h' e' a' w' D' => hK _ _ (hn _ _ _ _ D')
end
end Go.Sx
namespace Go.Sx
open Go.RowKit
section
variable {P : Program} {F : List Nat} {w0 : Base} {s : St} {Q : Exit -> Act -> World -> Prop} {id : Nat} {l : List Oper} {s0 : St} {rs : List Rec}
theorem yHm {r r' : List Oper} {s' : St} {p : List Prop} {q : List Rec} (h : zQw P l r s = (p, s', r')) (hp : zAl p) (hr : zBx P l r s = q) (hn : zAs P F w0 Q id l s0 (rs ++ q) r' s') : zAs P F w0 Q id l s0 rs r s :=
 yHn h hp (hr ▸ hn)
theorem zQx {r r' : List Oper} {s' : St} {p : List Prop} {q : List Rec} (h : zQw P l r s = (p, s', r')) (_ : Nat.blt (zN3 r') (zN3 r) = true) (hp : zAl p) (hr : zBx P l r s = q) (hn : zAs P F w0 Q id l s0 (rs ++ q) r' s') : zAs P F w0 Q id l s0 rs r s := yHm h hp hr hn
end
theorem zJh {P : Program} {F : List Nat} {w0 : Base} {s : St} {ops : Array Oper} {rest : List Oper} (k : Nat) {o o' : OB} {Q : Exit -> Act -> World -> Prop} (ho : lkO s.ow k = some o) (hl : OLe o o') (hn : zAg P F w0 ops Q rest ⟨s.n, s.nx, s.sl, upd s.ow k o'⟩) : zAg P F w0 ops Q rest s := fun h e a w D =>
 hn h e a w (by
  have h2 : ∀ j x, lkO (upd s.ow k o') j = some x -> ∃ o0, lkO s.ow j = some o0 /\ OLe o0 x := fun j x hj => by
   simp only [zBa] at hj;by_cases hjk : j = k
   ·subst hjk; simp only [if_true, zz1] at hj; subst hj; exact ⟨o, ho, hl⟩
   ·simp only [hjk, if_false] at hj; exact ⟨x, hj, OLe.refl _⟩
  refine ⟨D.defers, D.size, D.slot, fun j o hj => ?_, fun j o b hj hb => ?_, fun j j' o o' b hne hj hj' hb => ?_, D.sub, D.keeps, D.le, D.neww, D.fix⟩
  ·obtain ⟨o0, g1, g2⟩ := h2 j o hj
   exact g2.ok (D.own j o0 g1)
  ·obtain ⟨o0, g1, g2⟩ := h2 j o hj
   rw [g2.blk] at hb;exact D.ownb j o0 b g1 hb
  ·obtain ⟨o0, g1, g2⟩ := h2 j o hj
   obtain ⟨o1, g3, g4⟩ := h2 j' _ hj';rw [g2.blk] at hb;rw [g4.blk];exact D.apart j j' o0 o1 b hne g1 g3 hb)
end Go.Sx
namespace Go.Sx
open Go.RowKit
section
variable {P : Program} {F : List Nat} {w0 : Base} {s : St} {h : Hp} {e : Nm} {a : Act} {w : World} {fin : Exit -> Act -> World -> Prop} {kl : List It}
def yGn (s : St) (k : Nat) (d0 : SD) : St := ⟨s.n, s.nx, zZz k d0 (fun _ => .any) .any s.sl, zQj k d0 (fun _ => .any) .any s.ow⟩
theorem Den.val (D : Den F w0 s h e a w) {k : Nat} {d0 : SD} (h0 : ∀ v, rep h (.acc k) e v -> rep h d0 e v) : Den F w0 (yGn s k d0) h e a w :=
 D.frz_core (Le.refl h) D.sub (fun _ _ => rfl) (fun j o b _ hj hb => (D.ownb j o b hj hb).2)
  (zFa h0 (fun _ _ _ => by simp [rep]) fun _ _ => by simp [rep]) (zF5 h0 (fun _ _ _ => by simp [rep]) fun _ _ => by simp [rep])
variable {Q : Exit -> Act -> World -> Prop} {ops : Array Oper} {rest : List Oper} {l : List Oper} {s0 : St} {rs : List Rec} {id : Nat}
end
end Go.Sx
namespace Go.Sx
open Go.RowKit
section
variable {P : Program} {F : List Nat} {w0 : Base} {s : St} {h : Hp} {e : Nm} {a : Act} {w : World}
variable {Q : Exit -> Act -> World -> Prop} {ops : Array Oper} {rest : List Oper} {l : List Oper} {s0 : St} {rs : List Rec} {id : Nat}
end
end Go.Sx
namespace Go.Sx
open Go.RowKit
section
variable {P : Program} {F : List Nat} {w0 : Base} {s : St} {h : Hp} {e : Nm} {a : Act} {w : World}
variable {Q : Exit -> Act -> World -> Prop} {l : List Oper} {s0 : St} {rs : List Rec} {id : Nat} {rest : List Oper}
variable {ops : Array Oper}
end
end Go.Sx
namespace Go.Sx
open Go.RowKit
section
variable {P : Program} {F : List Nat} {w0 : Base} {s : St} {h : Hp} {e : Nm} {a : Act} {w : World} {fin : Exit -> Act -> World -> Prop} {kl : List It}
def hdS (s : St) (k n : Nat) (o : OB) : St := ⟨s.n, s.nx, (yGn s k (.accH k n)).sl, upd (yGn s k (.accH k n)).ow k o⟩
theorem yFm (D : Den F w0 s h e a w) {k n : Nat} (hl : lenD s (.acc k) = some n) {v : Value} (x : rep h (.acc k) e v) : rep h (.accH k n) e v := by
 simp only [rep] at x |-;obtain ⟨x1, ao, m, c, x2⟩ := x;refine ⟨x1, ao, c, ?_⟩;have hs : e.hd k = .slice ao m c := by rw [<- x1, x2]
 simp only [lenD] at hl;split at hl
 ·rename_i T es n' f ho
  cases hl;obtain ⟨xs, g1, _⟩ := D.own _ _ ho
  rcases g1.2 with ⟨hv, hn0⟩ | ⟨g, cap, cur, hv, _⟩
  ·rw [hs] at hv; cases hv; rw [x2, hn0]
  ·rw [hs] at hv; cases hv; exact x2
 ·rename_i m0 l ho
  obtain ⟨es, hlv⟩ : ∃ es, lvN m0 = some (es, n) := by
   cases hv : lvN m0 with
   | none => rw [hv] at hl; cases hl
   | some p => rw [hv] at hl; simp only [Option.map_some, zz1] at hl; subst hl; exact ⟨p.1, rfl⟩
  unfold lvN at hlv;split at hlv
  ·rename_i T es' n' f i hit
   cases hlv;have g := D.own _ _ ho;unfold zD8 at g;simp only [hit] at g;obtain ⟨xs, g1, _⟩ := g
   rcases g1.2 with ⟨hv, hn0⟩ | ⟨g, cap, cur, hv, _⟩
   ·rw [hs] at hv; cases hv; rw [x2, hn0]
   ·rw [hs] at hv; cases hv; exact x2
  ·cases hlv
 ·cases hl
theorem Den.hdr (D : Den F w0 s h e a w) {k n : Nat} {o : OB} (ho : lkO s.ow k = some o) (hl : lenD s (.acc k) = some n) : Den F w0 (hdS s k n o) h e a w := by
 have D1 := D.val (k := k) (d0 := .accH k n) fun v x => yFm D hl x
 have hno : lkO (yGn s k (.accH k n)).ow k = none := by
  cases hx : lkO (yGn s k (.accH k n)).ow k with
  | none => rfl
  | some o' => exact absurd rfl (zD3 _ _ _ hx).1
 exact D1.addOwn (o := o) hno (D.own k o ho) (fun b hb => D.ownb k o b ho hb) (fun j o' b hj hb hc => by
  have hjk : j ≠ k := fun hc => by subst hc; rw [hno] at hj; cases hj
  obtain ⟨_, o0, g1, g2⟩ := zD3 _ j o' hj
  have : o'.blk e j = o0.blk e j := by
   rcases g2 with ⟨x, rfl, rfl⟩ | ⟨m, x, rfl, rfl⟩ | rfl <;> rfl
  rw [this] at hb;exact D.apart j k o0 o b hjk g1 ho hb hc) s.nx
variable {Q : Exit -> Act -> World -> Prop} {l : List Oper} {s0 : St} {rs : List Rec} {id : Nat} {rest : List Oper}
end
end Go.Sx
namespace Go.Sx
open Go.RowKit
section
variable {P : Program} {F : List Nat} {w0 : Base} {s : St} {ops : Array Oper} {Q : Exit -> Act -> World -> Prop} {rest : List Oper}
def zR3 (P : Program) (tx : Nat) (name : String) (f : Nat) : Prop := ∀ (cs : Array Value) (args : Array Value) (w : World), (callMethod (.iface tx (.agg cs)) name args).run P w = .ok (.enter f (#[.agg cs] ++ args)) w
theorem zTg {tx f : Nat} {name : String} (hm : zR3 P tx name f) {x : Operand} {a : Act} {cs : Array Value} (hx : a.eval x = .iface tx (.agg cs)) {w : World} {t : Option Nat} {args : Array Operand} {tys : Array Nat} {ty : Nat} {pos : String} {af : Array Edge} {g : Option (Nat × Bool)} :
  (execOp a.eval ⟨t, .call ⟨.invoke x name, args, tys⟩, ty, pos, af, g⟩).run P w = .ok (.enter f (.agg cs :: args.toList.map a.eval).toArray) w := by
 have e1 : (Value.agg cs :: args.toList.map a.eval).toArray = #[.agg cs] ++ args.map a.eval := by apply Array.ext'; simp
 have e2 : (#[a.eval x] ++ args.map a.eval).extract 1 (#[a.eval x] ++ args.map a.eval).size = args.map a.eval := by
  apply Array.ext'; simp only [Array.toList_extract, Array.toList_append, List.cons_append, List.nil_append, List.extract_eq_take_drop, List.drop_succ_cons, List.drop_zero]; exact List.take_of_length_le (by simp)
 have e3 : (#[a.eval x] ++ args.map a.eval)[0]? = some (a.eval x) := by rw [Array.getElem?_append_left (by simp)]; rfl
 have e4 : (invoke (.fn (.method name) #[]) (#[a.eval x] ++ args.map a.eval)).run P w = .ok (.enter f (#[.agg cs] ++ args.map a.eval)) w := by
  unfold invoke;rw [e2];simp only [e3];rw [hx];exact hm cs _ w
 rw [e1];simp only [execOp, resolve, Sem.run_bind, Sem.run_pure, Result.andThen_ok];exact e4
theorem yAd {f t tx : Nat} {name : String} {x : Operand} {l0 : List SD} {args : Array Operand} {tys : Array Nat} {ty : Nat} {pos : String} {af : Array Edge} {R : List SD -> SD -> Prop} {ds : List SD} {d : SD} {s' : St} (hm : zR3 P tx name f) (hf : FnOK P f R)
  (hx : ev s x = .iface tx (.agg l0)) (ha : .agg l0 :: args.toList.map (unG s) = ds) (hg : zAl (gCs s args.toList [])) (hR : R ds d) (hs : zCp s t d = some s')
  (hn : zAg P F w0 ops Q rest s') : zAg P F w0 ops Q (⟨some t, .call ⟨.invoke x name, args, tys⟩, ty, pos, af, none⟩ :: rest) s := fun h e a w D => by
 subst ha;obtain ⟨ht, rfl⟩ := zAp hs;have hv := D.ev x;rw [hx] at hv;simp only [rep] at hv;obtain ⟨u, hu, hd⟩ := hv;obtain ⟨vs, rfl, hd'⟩ := hd;refine zAe rfl fun K hK => ?_;unfold Oper.wp;rw [zTg hm hu];refine (hf.ok _ _ hR h e w (.agg vs.toArray :: args.toList.map a.eval) D.gh D.sub (by simp only [repT]; exact ⟨_, _, rfl, by simp only [rep]; exact ⟨vs, rfl, hd'⟩, zAq D (zAm hg).1 fun _ hx => hx⟩)).mono fun en w' hq => ?_;obtain ⟨v, h', rfl, g1, g2, g3, g4, g5⟩ := hq;exact hK _ _ (hn _ _ _ _ ((D.called g1 g2 g3 g4).put ht (g5 e)))
variable {l : List Oper} {s0 : St} {rs : List Rec} {id : Nat}
theorem yA0 {f t tx : Nat} {name : String} {x : Operand} {l0 : List SD} {args : Array Operand} {tys : Array Nat} {ty : Nat} {pos : String} {af : Array Edge} {R : List SD -> SD -> Prop} {ds : List SD} {d : SD} {s' : St} (hm : zR3 P tx name f) (hf : FnOK P f R)
  (hx : ev s x = .iface tx (.agg l0)) (ha : .agg l0 :: args.toList.map (unG s) = ds) (hg : zAl (gCs s args.toList [])) (hR : R ds d) (hs : zCp s t d = some s')
  (hn : zAs P F w0 Q id l s0 (rs ++ [⟨zDe s (tmpsOf (x :: args.toList)), [], some t, d, [], []⟩]) rest s') : zAs P F w0 Q id l s0 rs (⟨some t, .call ⟨.invoke x name, args, tys⟩, ty, pos, af, none⟩ :: rest) s := fun K => by
 obtain ⟨ht, rfl⟩ := zAp hs;refine hn (K.snoc zBk (fun p hp => by cases hp) (fun σ hn h1 _ _ h e a w D K Q hK => ?_) ⟨rfl, fun _ => rfl, fun _ => rfl⟩);rw [if_pos (by simp [Region.wanted])];have hev := zBd (s := s) (s' := σ) (l := x :: args.toList) h1;have ha' : .agg l0 :: args.toList.map (unG σ) = ds := by rw [<- ha]; exact congrArg _ (List.map_congr_left fun y hy => by simp only [unG, hev y (zyc _ hy)])
 have hg' : zAl (gCs σ args.toList []) := by rw [zAn fun y hy => hev y (zyc _ hy)]; exact hg
 subst ha';have hv := D.ev x;rw [hev x (zym ..), hx] at hv;simp only [rep] at hv;obtain ⟨u, hu, hd⟩ := hv;obtain ⟨vs, rfl, hd'⟩ := hd;unfold Oper.wp;rw [zTg hm hu];refine (hf.ok _ _ hR h e w (.agg vs.toArray :: args.toList.map a.eval) D.gh D.sub (by simp only [repT]; exact ⟨_, _, rfl, by simp only [rep]; exact ⟨vs, rfl, hd'⟩, zAq D (zAm hg').1 fun _ hx => hx⟩)).mono fun en w' hq => ?_;obtain ⟨v, h', rfl, g1, g2, g3, g4, g5⟩ := hq;exact hK _ _ _ _ ((D.called g1 g2 g3 g4).put (by rw [hn]; exact ht) (g5 e))
theorem zB7 {f t j : Nat} {args : Array Operand} {tys : Array Nat} {ty : Nat} {pos : String} {af : Array Edge} {R : List SD -> List OB -> SD -> List (Nat × OB) -> Prop} (ks : List Nat) {caps ds : List SD} {os : List OB} {d : SD} {os' : List (Nat × OB)} {s' : St} (hf : FnM P f R) (hj : lkp s.sl j = .fn f caps) (hnd : nodupB ks = true)
  (ha : zHn (tau ks) (args.toList.map (unG s) ++ caps) = ds) (hal : zCq (fun x => zB8 x ks) (fun x => zB8 x ks) (args.toList.map (unG s) ++ caps) = true) (ho : zMa s ks ks = some os) (hg : zAl (gCs s args.toList [])) (hR : R ds os d os')
  (hs : zHu s t ks os d os' = some s') (hn : zAg P F w0 ops Q rest s') : zAg P F w0 ops Q (⟨some t, .call ⟨.value (.tmp j), args, tys⟩, ty, pos, af, none⟩ :: rest) s := fun h e a w D => by
 have hv := D.slot j;rw [hj] at hv;simp only [rep] at hv;obtain ⟨vs, hv, hc⟩ := hv;refine zAe rfl fun K hK => ?_;unfold Oper.wp
 have hrun : (execOp a.eval ⟨some t, .call ⟨.value (.tmp j), args, tys⟩, ty, pos, af, none⟩).run P w = .ok (.enter f (args.toList.map a.eval ++ vs).toArray) w := by
  have : (args.toList.map a.eval ++ vs).toArray = args.map a.eval ++ vs.toArray := by apply Array.ext'; simp
  rw [this];have hev : a.eval (.tmp j) = .func (.func f) #[] vs.toArray := hv;simp [execOp, resolve, hev, Deferred.ofValue, invoke, hf.call]
 rw [hrun];obtain ⟨q1, q2, q3, q4⟩ := D.passF (zNr hnd ha hal ho) (zCf (zAq D (zAm hg).1 fun _ hx => hx) hc);refine (hf.ok ds os d os' hR h (e.inn ks) w _ D.gh D.sub q1 q2 q3 q4).mono fun en w' hq => ?_;obtain ⟨v, h', e', rfl, D'⟩ := D.afterM ho hs hq;exact hK _ _ (hn _ _ _ _ D')
theorem zUw {f t j : Nat} {args : Array Operand} {tys : Array Nat} {ty : Nat} {pos : String} {af : Array Edge} {R : List SD -> List OB -> SD -> List (Nat × OB) -> Prop} (ks : List Nat) {caps ds : List SD} {os : List OB} {d : SD} {os' : List (Nat × OB)} {s' : St} (hf : FnM P f R) (hj : lkp s.sl j = .fn f caps) (hnd : nodupB ks = true)
  (ha : zHn (tau ks) (args.toList.map (unG s) ++ caps) = ds) (hal : zCq (fun x => zB8 x ks) (fun x => zB8 x ks) (args.toList.map (unG s) ++ caps) = true) (ho : zMa s ks ks = some os) (hg : zAl (gCs s args.toList [])) (hR : R ds os d os')
  (hs : zHu s t ks os d os' = some s') : OpT P F w0 ⟨some t, .call ⟨.value (.tmp j), args, tys⟩, ty, pos, af, none⟩ s s' := fun h e a w D K Q hK => by
 have hv := D.slot j;rw [hj] at hv;simp only [rep] at hv;obtain ⟨vs, hv, hc⟩ := hv;unfold Oper.wp
 have hrun : (execOp a.eval ⟨some t, .call ⟨.value (.tmp j), args, tys⟩, ty, pos, af, none⟩).run P w = .ok (.enter f (args.toList.map a.eval ++ vs).toArray) w := by
  have : (args.toList.map a.eval ++ vs).toArray = args.map a.eval ++ vs.toArray := by apply Array.ext'; simp
  rw [this];have hev : a.eval (.tmp j) = .func (.func f) #[] vs.toArray := hv;simp [execOp, resolve, hev, Deferred.ofValue, invoke, hf.call]
 rw [hrun];obtain ⟨q1, q2, q3, q4⟩ := D.passF (zNr hnd ha hal ho) (zCf (zAq D (zAm hg).1 fun _ hx => hx) hc);refine (hf.ok ds os d os' hR h (e.inn ks) w _ D.gh D.sub q1 q2 q3 q4).mono fun en w' hq => ?_;obtain ⟨v, h', e', rfl, D'⟩ := D.afterM ho hs hq;exact hK _ _ _ _ D'
end
end Go.Sx
namespace Go.Sx
open Go.RowKit
section
variable {P : Program} {F : List Nat} {w0 : Base} {s : St} {ops : Array Oper} {Q : Exit -> Act -> World -> Prop} {rest : List Oper}
theorem zE3 {t T : Nat} {x y : Operand} {ok : Bool} {ty : Nat} {pos : String} {af : Array Edge} {m : MD} {z : Value} {q : MK} {d0 : SD} {s' : St} (b : Bool) (hm : mapD s (unG s x) = some m) (hkk : kkT P T = some m.kk) (hz : mzT P T = some z) (hqk : zRg m.kk (unG s y) = some q) (hb : m.dom q = b)
  (hd0 : (bif b then m.f q else ofV z) = d0) (hg : zAl (gCs s [x, y] [])) (hs : zCp s t (bif ok then .tup [d0, .bool b] else d0) = some s')
  (hn : zAg P F w0 ops Q rest s') : zAg P F w0 ops Q (⟨some t, .lookup T x y ok, ty, pos, af, none⟩ :: rest) s := fun h e a w D => by
 obtain ⟨ht, rfl⟩ := zAp hs;subst hb hd0;refine zAe rfl fun K hK => ?_;have hx := D.unG (l := [x, y]) (r := []) hg (x := x) (by simp);have hy := D.unG (l := [x, y]) (r := []) hg (x := y) (by simp);obtain ⟨b, es, clock, hxv, hbb, hok⟩ := zX3 D hm hx;obtain ⟨hyv, hqok⟩ := zN9 hqk hy;obtain ⟨kt, et, hT, hkt⟩ := zTb hkk
 have hzr : (zeroValue et).run P w = .ok z w := by
  unfold mzT at hz;rw [hT] at hz;simp only at hz;cases hi : P.info? et with
  | none => rw [hi] at hz; cases hz
  | some i =>
   rw [hi] at hz;simp only [Option.bind_some] at hz;simp [zeroValue, typeInfo, hi, hz]
 have hval : ∃ r, rep h (bif m.dom q then m.f q else ofV z) e r /\ (Instr.lookup T (.map (some b)) (q.val m.kk) ok).run P w = .ok (if ok then .tuple #[r, .bool (m.dom q)] else r) w := by
  rcases run_findKey (P := P) hok hkt hqok w with ⟨h1, h2, _⟩ | ⟨j, y', h1, h2, h3, h4⟩
  ·refine ⟨z, ?_, ?_⟩
   ·rw [h1]; exact zH0 h e z
   ·simp [Instr.lookup, run_underlying hT, MapKept.run_getObj_map hbb, run_checkKey hkt, h2, hzr, h1]
  ·refine ⟨y'.val, ?_, ?_⟩
   ·have hr := hok.2.2.2 y' (by have := List.mem_of_getElem? h2; simpa using this) q h3 hqok e
    rw [h1]; exact hr
   ·have hjj : es[j]? = some y' := by simpa using h2
    simp [Instr.lookup, run_underlying hT, MapKept.run_getObj_map hbb, run_checkKey hkt, h4, hjj, h1]
 obtain ⟨r, r1, r2⟩ := hval;cases hokb : ok
 ·rw [hokb] at r2
  simp only [Bool.false_eq_true, if_false] at r2;exact zDa (v := r) (by simp [execOp, hxv, hyv, r2]) (hK _ _ (hn _ _ _ _ (by rw [hokb]; exact D.put ht r1)))
 ·rw [hokb] at r2
  simp only [if_true] at r2;exact zDa (v := .tuple #[r, .bool (m.dom q)]) (by simp [execOp, hxv, hyv, r2]) (hK _ _ (hn _ _ _ _ (by rw [hokb]; exact D.put ht (by simp only [cond_true, rep, repT]; exact ⟨[r, .bool (m.dom q)], rfl, _, _, rfl, r1, _, _, rfl, rfl, rfl⟩))))
end
end Go.Sx
namespace Go.Sx
open Go.RowKit
section
variable {P : Program} {F : List Nat} {w0 : Base} {s : St} {ops : Array Oper} {Q : Exit -> Act -> World -> Prop} {rest : List Oper}
def AsY (P : Program) (tx T : Nat) : Prop := ∀ (v : Value) (X : Nat) (w : World), (Instr.typeAssert (.iface tx v) X T true).run P w = .ok (.tuple #[v, .bool true]) w
def AsN (P : Program) (tx T : Nat) (z : Value) : Prop := ∀ (v : Value) (X : Nat) (w : World), (Instr.typeAssert (.iface tx v) X T true).run P w = .ok (.tuple #[z, .bool false]) w
theorem zV8 {t X T tx : Nat} {x : Operand} {d : SD} {ty : Nat} {pos : String} {af : Array Edge} {s' : St} (hm : AsY P tx T) (hx : ev s x = .iface tx d) (hs : zCp s t (.tup [d, .bool true]) = some s')
  (hn : zAg P F w0 ops Q rest s') : zAg P F w0 ops Q (⟨some t, .typeAssert x X T true, ty, pos, af, none⟩ :: rest) s := fun h e a w D => by
 obtain ⟨ht, rfl⟩ := zAp hs;have hv := D.ev x;rw [hx] at hv;simp only [rep] at hv;obtain ⟨u, hu, hd⟩ := hv;refine zAe rfl fun K hK => ?_;unfold Oper.wp
 have hex : (execOp a.eval ⟨some t, .typeAssert x X T true, ty, pos, af, none⟩).run P w = .ok (.value (.tuple #[u, .bool true])) w := by
  simp only [execOp, hu, Sem.run_bind, hm u X w, Result.andThen_ok];rfl
 rw [hex];refine hK _ _ (hn _ _ _ _ (D.put ht ?_));simp only [rep, repT];exact ⟨[u, .bool true], rfl, _, _, rfl, hd, _, _, rfl, rfl, rfl⟩
theorem zM8 {t X T tx : Nat} {x : Operand} {d : SD} {z : Value} {ty : Nat} {pos : String} {af : Array Edge} {s' : St} (hm : AsN P tx T z) (hx : ev s x = .iface tx d) (hs : zCp s t (.tup [.any, .bool false]) = some s')
  (hn : zAg P F w0 ops Q rest s') : zAg P F w0 ops Q (⟨some t, .typeAssert x X T true, ty, pos, af, none⟩ :: rest) s := fun h e a w D => by
 obtain ⟨ht, rfl⟩ := zAp hs;have hv := D.ev x;rw [hx] at hv;simp only [rep] at hv;obtain ⟨u, hu, hd⟩ := hv;refine zAe rfl fun K hK => ?_;unfold Oper.wp
 have hex : (execOp a.eval ⟨some t, .typeAssert x X T true, ty, pos, af, none⟩).run P w = .ok (.value (.tuple #[z, .bool false])) w := by
  simp only [execOp, hu, Sem.run_bind, hm u X w, Result.andThen_ok];rfl
 rw [hex];refine hK _ _ (hn _ _ _ _ (D.put ht ?_));simp only [rep, repT];exact ⟨[z, .bool false], rfl, _, _, rfl, trivial, _, _, rfl, rfl, rfl⟩
end
end Go.Sx
namespace Go.Sx
open Go.RowKit
section
variable {P : Program} {F : List Nat} {w0 : Base} {s : St} {Q : Exit -> Act -> World -> Prop} {l : List Oper} {s0 : St} {rs : List Rec} {id : Nat} {rest : List Oper}
theorem zNf {P : Program} {a : Act} {w : World} {f t j : Nat} {args : Array Operand} {tys : Array Nat} {ty : Nat} {pos : String} {af : Array Edge} {g : Option (Nat × Bool)} {vs : List Value} (hc : ∀ args w, (callFunc f args).run P w = .ok (.enter f args) w) (hv : a.tmps.getD j undef = .func (.func f) #[] vs.toArray) :
  (execOp a.eval ⟨some t, .call ⟨.value (.tmp j), args, tys⟩, ty, pos, af, g⟩).run P w = .ok (.enter f (args.toList.map a.eval ++ vs).toArray) w := by
 have : (args.toList.map a.eval ++ vs).toArray = args.map a.eval ++ vs.toArray := by apply Array.ext'; simp
 rw [this];have hev : a.eval (.tmp j) = .func (.func f) #[] vs.toArray := hv;simp [execOp, resolve, hev, Deferred.ofValue, invoke, hc]
theorem zW0 {f t j : Nat} {args : Array Operand} {tys : Array Nat} {ty : Nat} {pos : String} {af : Array Edge} {caps ds : List SD} {d : SD} {s' : St} (hf : FnV P f caps ds d) (hj : lkp s.sl j = .fn f caps)
  (ha : args.toList.map (unG s) = ds) (hg : zAl (gCs s args.toList [])) (hs : zCp s t d = some s')
  (hn : zAs P F w0 Q id l s0 (rs ++ [⟨zDe s (tmpsOf (.tmp j :: args.toList)), [], some t, d, [], []⟩]) rest s') : zAs P F w0 Q id l s0 rs (⟨some t, .call ⟨.value (.tmp j), args, tys⟩, ty, pos, af, none⟩ :: rest) s := fun K => by
 obtain ⟨R, hf, hR⟩ := hf;obtain ⟨ht, rfl⟩ := zAp hs;refine hn (K.snoc zBk (fun p hp => by cases hp) (fun σ hn h1 _ _ h e a w D K Q hK => ?_) ⟨rfl, fun _ => rfl, fun _ => rfl⟩);rw [if_pos (by simp [Region.wanted])];have hev := zBd (s := s) (s' := σ) (l := .tmp j :: args.toList) h1;have ha' : args.toList.map (unG σ) = ds := by rw [<- ha]; exact List.map_congr_left fun y hy => by simp only [unG, hev y (zyc _ hy)]
 have hg' : zAl (gCs σ args.toList []) := by rw [zAn fun y hy => hev y (zyc _ hy)]; exact hg
 have hj' : lkp σ.sl j = .fn f caps := (hev (.tmp j) (zym ..)).trans hj;subst ha';have hv := D.slot j;rw [hj'] at hv;simp only [rep] at hv;obtain ⟨vs, hv, hc⟩ := hv;unfold Oper.wp;rw [zNf hf.call hv];refine (hf.ok _ _ hR h e w _ D.gh D.sub (zCf (zAq D (zAm hg').1 fun _ hx => hx) hc)).mono fun en w' hq => ?_;obtain ⟨v, h', rfl, g1, g2, g3, g4, g5⟩ := hq;exact hK _ _ _ _ ((D.called g1 g2 g3 g4).put (by rw [hn]; exact ht) (g5 e))
theorem zUs {f t : Nat} {args : Array Operand} {tys : Array Nat} {ty : Nat} {pos : String} {af : Array Edge} {j i : Nat} {b g : Bool} {R : List SD -> SD -> Prop} {caps ds : List SD} {d : SD} {s' : St} (tj : Nat)
  (hj : zGf l j = some tj) (hc : gV (lkp s.sl tj) b = some g) (hf : FnOK P f R) (hi : lkp s.sl i = .gd g (.fn f caps))
  (ha : args.toList.map (unG s) ++ caps = ds) (hg : g = true -> zAl (gCs s args.toList [])) (hR : g = true -> R ds d) (hs : zCp s t (.gd g d) = some s')
  (hn : zAs P F w0 Q id l s0 (rs ++ [⟨(tj, lkp s.sl tj) :: zDe s (tmpsOf (.tmp i :: args.toList)), [], some t, .gd g d, [], []⟩]) rest s') : zAs P F w0 Q id l s0 rs (⟨some t, .call ⟨.value (.tmp i), args, tys⟩, ty, pos, af, some (j, b)⟩ :: rest) s := fun K => by
 obtain ⟨ht, rfl⟩ := zAp hs;refine hn (K.snoc (fun p hp => ?_) (fun p hp => by cases hp) (fun σ hn h1 _ _ h e a w D K Q hK => ?_) ⟨rfl, fun _ => rfl, fun _ => rfl⟩)
 ·rcases List.mem_cons.1 hp with rfl | hp
  ·rfl
  ·exact zBk p hp
 have hv := D.slot tj;rw [h1 (tj, lkp s.sl tj) (by simp)] at hv;rw [zCt (o := ⟨some t, .call ⟨.value (.tmp i), args, tys⟩, ty, pos, af, some (j, b)⟩) rfl ((zGs l j).trans hj) hv hc];have hlt : t < σ.n := by rw [hn]; exact ht
 have hev := zBd (s := s) (s' := σ) (l := .tmp i :: args.toList) fun p hp => h1 p (by simp [hp]);have ha' : args.toList.map (unG σ) ++ caps = ds := by rw [<- ha]; exact congrArg (· ++ caps) (List.map_congr_left fun y hy => by simp only [unG, hev y (zyc _ hy)])
 have hg' : g = true -> zAl (gCs σ args.toList []) := by rw [zAn fun y hy => hev y (zyc _ hy)]; exact hg
 have hi' : lkp σ.sl i = .gd g (.fn f caps) := (hev (.tmp i) (zym ..)).trans hi;subst ha';cases hgb : g
 ·rw [if_neg (by simp)]
  refine hK h e _ _ (D.put (i := t) hlt ?_);simp [rep, hgb]
 ·rw [if_pos rfl]
  have hv2 := D.slot i;rw [hi'] at hv2;simp only [rep] at hv2;obtain ⟨vs, hv2, hcp⟩ := hv2.1 hgb;unfold Oper.wp;rw [zNf hf.call hv2];refine (hf.ok _ _ (hR hgb) h e w _ D.gh D.sub (zCf (zAq D (zAm (hg' hgb)).1 fun _ hx => hx) hcp)).mono fun en w' hq => ?_;obtain ⟨v, h', rfl, g1, g2, g3, g4, g5⟩ := hq;refine hK _ _ _ _ ((D.called g1 g2 g3 g4).put (i := t) hlt ?_);simp only [rep];exact ⟨fun _ => g5 e, fun h => by rw [hgb] at h; cases h⟩
end
section
variable {P : Program} {F : List Nat} {w0 : Base} {s : St} {Q : Exit -> Act -> World -> Prop} {ops : Array Oper} {rest : List Oper}
theorem zMi {f t i : Nat} {args : Array Operand} {tys : Array Nat} {ty : Nat} {pos : String} {af : Array Edge} {j : Nat} {b g : Bool} {caps ds : List SD} {d : SD} {s' : St} (tj : Nat)
  (hj : (ops[j]?).bind (·.dst) = some tj) (hc : gV (lkp s.sl tj) b = some g) (hf : FnV P f caps ds d) (hi : lkp s.sl i = .gd g (.fn f caps))
  (ha : args.toList.map (unG s) = ds) (hg : g = true -> zAl (gCs s args.toList [])) (hs : zCp s t (.gd g d) = some s')
  (hn : zAg P F w0 ops Q rest s') : zAg P F w0 ops Q (⟨some t, .call ⟨.value (.tmp i), args, tys⟩, ty, pos, af, some (j, b)⟩ :: rest) s := fun h e a w D => by
 subst ha;obtain ⟨R, hf, hR⟩ := hf;obtain ⟨ht, rfl⟩ := zAp hs;have hv := D.slot tj;refine zId fun K hK => ?_;rw [zCt (o := ⟨some t, .call ⟨.value (.tmp i), args, tys⟩, ty, pos, af, some (j, b)⟩) rfl hj hv hc];cases hgb : g
 ·rw [if_neg (by simp)]
  refine hK _ _ (hn _ _ _ _ (D.put ht ?_));simp [rep, hgb]
 ·rw [if_pos rfl]
  have hv2 := D.slot i;rw [hi] at hv2;simp only [rep] at hv2;obtain ⟨vs, hv2, hcp⟩ := hv2.1 hgb;unfold Oper.wp;rw [zNf hf.call hv2];refine (hf.ok _ _ hR h e w _ D.gh D.sub (zCf (zAq D (zAm (hg hgb)).1 fun _ hx => hx) hcp)).mono fun en w' hq => ?_;obtain ⟨v, h', rfl, g1, g2, g3, g4, g5⟩ := hq;refine hK _ _ (hn _ _ _ _ ((D.called g1 g2 g3 g4).put ht ?_));simp only [rep];exact ⟨fun _ => g5 e, fun h => by rw [hgb] at h; cases h⟩
theorem zUk {f t : Nat} {args : Array Operand} {tys : Array Nat} {ty : Nat} {pos : String} {af : Array Edge} {R : List SD -> Nat -> Nat -> Nat -> (Nat -> SD) -> Prop} (ks : List Nat) {sf : St} {ds : List SD} {T es n : Nat} {g : Nat -> SD} {s' : St} (hf : zL0 P f R) (hz : frzAll s ks = some sf)
  (ha : args.toList.map (unG sf) = ds) (hg : zAl (gCs sf args.toList [])) (hR : R ds T es n g) (hsc : ∀ i, yEe (g i) = true) (hs : zQd s t T es n g = some s')
  (hn : zAg P F w0 ops Q rest s') : zAg P F w0 ops Q (⟨some t, .call ⟨.value (.func f), args, tys⟩, ty, pos, af, none⟩ :: rest) s := fun h e a w D => by
 subst ha;unfold zQd at hs;cases hk : (Nat.blt t s.n && s.free s.nx)
 ·rw [hk] at hs; cases hs
 ·rw [hk] at hs
  simp only [cond_true, zz1] at hs;subst hs;simp only [zz3] at hk;have ht := zAk hk.1;have hF := Free.of hk.2;refine zAe rfl fun K hK => ?_;unfold Oper.wp
  have hrun : (execOp a.eval ⟨some t, .call ⟨.value (.func f), args, tys⟩, ty, pos, af, none⟩).run P w = .ok (.enter f (args.toList.map a.eval).toArray) w := by
   have : (args.toList.map a.eval).toArray = args.map a.eval := by apply Array.ext'; simp
   rw [this];simp [execOp, resolve, Deferred.ofValue, Act.eval, invoke, hf.call]
  rw [hrun];obtain ⟨h2, D2⟩ := D.frzAll hz;refine (hf.ok _ _ _ _ _ hR h2 e w _ D2.gh D2.sub (zAq D2 (zAm hg).1 fun _ hx => hx)).mono fun en w' hq => ?_;obtain ⟨v, h', rfl, g1, g2, g3, g4, g5, g6, g7⟩ := hq
  have g5' : zD8 h ⟨fun _ => 0, fun _ => v⟩ w' 0 (.acc T es n g) := by
   obtain ⟨xs, x1, x2, x3⟩ := g5;refine ⟨xs, x1, x2, fun i hi => ?_⟩;obtain ⟨u, u1, u2, u3, u4⟩ := x3 i hi;exact ⟨u, fun e' => zKc _ _ _ (hsc i) (u1 e'), u2, u3, u4⟩
  have hnone : ∀ b, w.heap.size <= b -> h b = none := fun b hb => by
   cases hx : h b with
   | none => rfl
   | some o =>
    have h1 := D.sub b o hx;rw [Array.getElem?_eq_none hb] at h1; cases h1
  have D1 := (D.lent g3).rename (e.but_setH s.nx v) hF;have D2 := D1.addOwn (k := s.nx) (o := .acc T es n g) (zCn hF) (zJt (e := ⟨fun _ => 0, fun _ => v⟩) (k := 0) (by simp [Nm.setH]) (fun _ _ => rfl) g5') (fun b hb => ?_) (fun j o' b hj hb hc => ?_) (s.nx + 1)
  ·refine hK _ _ (hn h (e.setH s.nx v) _ _ ?_)
   exact (D2.put (i := t) (d := .acc s.nx) (v := v) ht (by simp only [rep, Nm.setH, if_true]; exact ⟨trivial, g6⟩)).congr rfl (fun _ => rfl) fun _ => rfl
  ·simp only [OB.blk, Nm.setH, if_true] at hb
   obtain ⟨k1, _⟩ := g7 b hb;exact ⟨.inl (Nat.le_trans D.keeps.size k1), hnone b k1⟩
  ·simp only [OB.blk, Nm.setH, if_true] at hc
   obtain ⟨k1, _⟩ := g7 b hc;have hjk : j ≠ s.nx := fun x => by subst x; rw [zCn hF] at hj; cases hj
   rw [zC1 (e.but_setH s.nx v) hjk] at hb;have := zE8 (D.own j o' hj) hb;omega
end
end Go.Sx
namespace Go.Sx
open Go.RowKit
section
variable {P : Program} {F : List Nat} {w0 : Base} {fin : Exit -> Act -> World -> Prop} {k : List It} {s : St}
theorem zIu {rd : Option Nat} {l : Nat} {a : Act} {w : World} : ∀ {k : List It}, post P rd fin k (.goto l) a w -> fin (.goto l) a w
 | [], h => h
 | .code _ :: k, h => zIu (k := k) h
 | .blk _ :: k, h => zIu (k := k) h
 | .lp _ :: k, h => zIu (k := k) h
theorem zWw {l : Nat} (h : Run P F w0 fin k s) : Run P F w0 fin (.code (.label l) :: k) s := fun _ _ _ _ D => wpIn_label (h _ _ _ _ D)
theorem zPc {c : Code} (hrd : w0.rd = none) (hfin : ∀ l a w, ¬ fin (.goto l) a w) (h : Run P F w0 fin (.code c :: k) s) : Run P F w0 fin (.code (.scope c) :: k) s := fun h' e a w D => by
 have h1 := h h' e a w D;change c.wpIn (fe w0.rd) 0 P (post P w0.rd fin k) a w at h1;change (Code.scope c).wpIn (fe w0.rd) 0 P (post P w0.rd fin k) a w;rw [hrd] at h1 |-;refine (wpIn_wide (n := 0)).2 (wp_scope_straight ((wpIn_wide (n := 0)).1 (wpIn_mono h1 fun ex a w hq => ?_)));cases ex with
 | goto l => exact hfin l a w (zIu hq)
 | _ => exact hq
end
theorem zP4 {P : Program} {fn : Func} {R : Ending -> World -> Prop} (l : Nat) (a : Act) (w : World) : ¬ yBs P fn R (.goto l) a w := fun h => h
end Go.Sx
namespace Go.Sx
open Go.RowKit
def yHp (F : List Nat) (b0 : zBw) (O : SD -> List (Nat × OB) -> Prop) : Ending -> World -> Prop := fun en w' => ∃ d os', O d os' /\ zA6 F b0 d os' en w'
structure zZv (P : Program) (f : Nat) (h0 : Hp) (bl : List Nat) (R : List SD -> List OB -> (SD -> List (Nat × OB) -> Prop) -> Prop) : Prop where
 call : ∀ args w, (callFunc f args).run P w = .ok (.enter f args) w
 ok : ∀ ds os O, R ds os O -> ∀ h e w vs (gh : GH h), Le h0 h -> (∀ (i b : Nat), bl[i]? = some b -> e.bs (1000 + i) = b) -> Sub h w -> repT h ds e vs -> (∀ (i : Nat) (o : OB), os[i]? = some o -> zD8 h e w (1000 + i) o) -> (∀ b, b ∈ zCs e 1000 os -> h b = none) ->
  (∀ (i j : Nat) (o o' : OB) (b : Nat), i ≠ j -> os[i]? = some o -> os[j]? = some o' -> o.blk e (1000 + i) = some b -> o'.blk e (1000 + j) ≠ some b) ->
  Calls P f vs.toArray w (yHp (zCs e 1000 os) ⟨w, h, zFq e os, gh⟩ O)
theorem zZv.weaken {P : Program} {f : Nat} {h0 : Hp} {bl : List Nat} {R R' : List SD -> List OB -> (SD -> List (Nat × OB) -> Prop) -> Prop} (hf : zZv P f h0 bl R) (h : ∀ ds os O', R' ds os O' -> ∃ O, R ds os O /\ ∀ d o, O d o -> O' d o) : zZv P f h0 bl R' :=
 ⟨hf.call, fun ds os O' hr h1 e w vs gh a b c d x y z => by
  obtain ⟨O, hO, hi⟩ := h ds os O' hr;refine (hf.ok ds os O hO h1 e w vs gh a b c d x y z).mono fun en w' hq => ?_;obtain ⟨d, os', q1, q2⟩ := hq;exact ⟨d, os', hi _ _ q1, q2⟩⟩
abbrev h00 : Hp := fun _ => none
section
variable {P : Program} {F : List Nat} {w0 : Base} {s : St} {Q : Exit -> Act -> World -> Prop} {ops : Array Oper} {rest : List Oper}
theorem zIj {f t : Nat} {args : Array Operand} {tys : Array Nat} {ty : Nat} {pos : String} {af : Array Edge} {R : List SD -> List OB -> (SD -> List (Nat × OB) -> Prop) -> Prop} (ks : List Nat) {ds : List SD} {os : List OB} {O : SD -> List (Nat × OB) -> Prop} (hf : zZv P f h00 [] R)
  (hnd : nodupB ks = true) (ha : zHn (tau ks) (args.toList.map (unG s)) = ds) (hal : zCq (fun x => zB8 x ks) (fun x => zB8 x ks) (args.toList.map (unG s)) = true) (ho : zMa s ks ks = some os) (hg : zAl (gCs s args.toList [])) (hR : R ds os O)
  (hn : ∀ d os', O d os' -> ∃ s', zHu s t ks os d os' = some s' /\ zAg P F w0 ops Q rest s') : zAg P F w0 ops Q (⟨some t, .call ⟨.value (.func f), args, tys⟩, ty, pos, af, none⟩ :: rest) s := fun h e a w D => by
 refine zAe rfl fun K hK => ?_;unfold Oper.wp;rw [zHh hf.call];obtain ⟨q1, q2, q3, q4⟩ := D.passF (zNr hnd ha hal ho) (zAq D (zAm hg).1 fun _ hx => hx);refine (hf.ok ds os O hR h (e.inn ks) w _ D.gh (fun _ _ h => by cases h) (fun i b h => by simp at h) D.sub q1 q2 q3 q4).mono fun en w' hq => ?_;obtain ⟨d, os', hO, hq⟩ := hq;obtain ⟨s', hs, hn⟩ := hn d os' hO;obtain ⟨v, h', e', rfl, D'⟩ := D.afterM ho hs hq;exact hK _ _ (hn _ _ _ _ D')
end
section
variable {P : Program} {F : List Nat} {b0 : zBw} {s : St} {k : List It} {fn : Func} {l : List ResultVar} {ds : List SD} {O : SD -> List (Nat × OB) -> Prop}
theorem zC4 {fe : Fence} {n : Nat} {tm : Array Value} {R R' : Ending -> World -> Prop} (h : ∀ en w, R en w -> R' en w) : ∀ (df : List Deferred) (u : FrameMode) (w : World), LeavesInM fe n P fn tm R df u w -> LeavesInM fe n P fn tm R' df u w
 | [], u, w, x => by
  cases u with
  | run => exact x.elim
  | returning => obtain ⟨v, h1, h2⟩ := x; exact ⟨v, h1, h _ _ h2⟩
  | panicking c => exact h _ _ x
 | d :: r, u, w, ⟨x1, x2⟩ => by
  refine ⟨x1, ?_⟩
  rcases x2 with ⟨q, w', a, b, c⟩ | ⟨hn, fv, cap, f, args, a, b, c, hd⟩
  ·exact .inl ⟨q, w', a, b, zC4 h r u w' c⟩
  ·refine .inr ⟨hn, fv, cap, f, args, a, b, c, hd.mono fun en u' w' hq => ?_⟩
   cases en with
   | returned v => exact zC4 h r _ _ hq
   | panicked c => exact zC4 h r _ _ hq
   | outgrown => exact h _ _ hq
theorem zKe (d : SD) (os' : List (Nat × OB)) (hO : O d os') (hr : fn.results = l.toArray) (hq : zLb P s l = some ds) (hd : SLe (zKf ds) d) (ho : zEu s.ow os') : Run P F b0.std (yBs P fn (yHp F b0 O)) (.code .ret :: k) s := fun _ _ _ _ D =>
 wpIn_ret (zBz (zC4 (fun _ _ hx => ⟨d, os', hO, hx⟩) _ _ _ (zGu D hr hq hd ho)))
theorem yAu (d : SD) (os' : List (Nat × OB)) (hO : O d os') (hr : fn.results = l.toArray) (hq : zLb P s l = some ds) (hd : SLe (zKf ds) d) (ho : zEu s.ow os') : Run P F b0.std (yBs P fn (yHp F b0 O)) [] s := fun _ _ _ _ D =>
 zC4 (fun _ _ hx => ⟨d, os', hO, hx⟩) _ _ _ (zGu D hr hq hd ho)
theorem zWr (nK K : Nat) (d : SD) (os' : List (Nat × OB)) (hO : O d os') (hk : lkO s.ow nK = some (zEl (.deferred (some [])) (some K))) (hr : fn.results = l.toArray) (hq : zLb P s l = some ds) (hd : SLe (zKf ds) d)
  (ho : zEu (upd s.ow nK (.mp ⟨none, 0, fun _ => false, fun _ => .any, some (.raw (.deferred none) none)⟩ [])) os') : Run P F ⟨b0, none, [{ target := .collected K, args := #[] }]⟩ (yBs P fn (yHp F b0 O)) (.code .ret :: k) s := fun _ _ _ _ D =>
 wpIn_ret (zBz (zC4 (fun _ _ hx => ⟨d, os', hO, hx⟩) _ _ _ (zN4 nK K D hk hr hq hd ho)))
end
section
variable {P : Program} {F : List Nat} {w0 : Base} {s : St} {h : Hp} {e : Nm} {a : Act} {w : World}
theorem zL7 {α : Type} (I : α -> Prop) {fin : Exit -> Act -> World -> Prop} {k : List It} {g : Operand} {ps : Array Nat} {as bd : Code} {gf : Nat} {caps caps' : List SD} (ks : List Nat) {os : List OB} {osu' : α -> List OB} {s2 : α -> LR -> Nat -> St} (hrd : w0.rd = none)
  (hg : ev s g = .fn gf caps) (hcn : (!zHc s.nx caps && !zHc (s.nx + 1) caps) = true) (hcr : zHn (tau (ks ++ [s.nx + 1])) caps = caps') (hca : zCq (fun x => zB8 x (ks ++ [s.nx + 1])) (fun x => zB8 x (ks ++ [s.nx + 1])) caps = true)
  (hfr : (s.free s.nx && s.free (s.nx + 1) && nodupB (ks ++ [s.nx + 1]) && !zB8 s.nx ks) = true)
  (hos : ∀ r K, zMa (rfS s r K) (ks ++ [s.nx + 1]) (ks ++ [s.nx + 1]) = some (os ++ [zDi r .ready none]))
  (hit : ∀ (h0 : Hp) (bl : List Nat) (r : LR), r.ps = ps -> r.as = as -> r.bd = bd -> r.tm.size = s.n -> bl.length = os.length + 1 -> Le w0.h h0 -> (∀ j b, j < ks.length -> zCw ks j = 1000 + j -> w0.fix[j]? = some b -> bl[j]? = some b) ->
   (∀ h e, Le h0 h -> (∀ (i b : Nat), bl[i]? = some b -> e.bs (1000 + i) = b) -> ∀ t, rep h (lkp (yF0 s ks) t) e (r.tm.getD t undef)) ->
   zZv P gf h0 bl (fun ds o O => ds = .yld r.l :: caps' /\ o = os ++ [zDi r .ready none] /\ O = fun d o' => ∃ x, I x /\ d = .tup [] /\ o' = zAy 1000 (osu' x ++ [zDi r .ready none])))
  (hs : ∀ x r K, yIz (rfS s r K) (ks ++ [s.nx + 1]) (os ++ [zDi r .ready none]) (zAy 1000 (osu' x ++ [zDi r .ready none])) = some (s2 x r K))
  (hre : ∀ x r K, lkO (s2 x r K).ow (s.nx + 1) = some (zDi r .ready none))
  (hK : ∀ x, I x -> ∀ r K, Run P F ⟨w0.b0, none, { target := .collected K, args := #[] } :: w0.ds⟩ fin (zVh none k) ⟨(s2 x r K).n, (s2 x r K).nx, (s2 x r K).sl, del (s2 x r K).ow (s.nx + 1)⟩) :
  Run P F w0 fin (.code (.rangeFunc g ps as bd) :: k) s := fun h e a w D => by
 show (Code.rangeFunc g ps as bd).wpIn (fe w0.rd) 0 P (post P w0.rd fin k) a w;rw [hrd];simp only [zz3] at hfr;obtain ⟨⟨⟨f1, f2⟩, f3⟩, f4⟩ := hfr;have hv := D.ev g;rw [hg] at hv;simp only [rep] at hv;obtain ⟨vs, hv, hc⟩ := hv;refine wpIn_rangeFunc fun fn _ => ?_;show ∃ (l : Nat) (mark : List Deferred) (w₁ : World) (d : Deferred) (w₁' : World) (f : FuncId) (args : Array Value) (w₂ : World), _;obtain ⟨r, hr⟩ : ∃ r : LR, r = ⟨w.heap.size + 1, fn, a.tmps, ps, as, bd, w.heap.size⟩ := ⟨_, rfl⟩;have hrl : r.l = w.heap.size + 1 := by rw [hr]
 have D1 := D.newObj (k := s.nx) (m := ⟨none, 0, fun _ => false, fun _ => .any, some (.raw (.deferred (some [])) (some w.heap.size))⟩) (o := .deferred (some [])) (Free.of f1) ⟨rfl, fun b hb => by cases hb; rfl⟩ (s.nx + 1);have hsz1 : (w.alloc (.deferred (some []))).heap.size = w.heap.size + 1 := World.size_alloc _ _
 have F2 : Free ⟨s.n, s.nx + 1, s.sl, upd s.ow s.nx (zEl (.deferred (some [])) (some w.heap.size))⟩ (s.nx + 1) := by
  have hF := Free.of f2;refine ⟨hF.sl, fun j o hj => ?_, hF.lt⟩;simp only [zBa] at hj;by_cases hjk : j = s.nx
  ·simp only [hjk, if_true, zz1] at hj
   subst hj;exact ⟨by omega, (fun x hx => by simp [zEl] at hx), fun kd x hx => by simp only [zEl, OB.mp.injEq] at hx; rw [<- hx.2]; rfl⟩
  ·simp only [hjk, if_false] at hj
   exact hF.ow j o hj
 have D2 := Den.newObj (s := ⟨s.n, s.nx + 1, s.sl, upd s.ow s.nx (zEl (.deferred (some [])) (some w.heap.size))⟩) D1 (k := s.nx + 1) (m := ⟨none, 0, fun _ => false, fun _ => .any, some (.raw (.loop (r.loop .ready none)) (some r.l))⟩) (o := .loop (r.loop .ready none)) F2 ⟨rfl, fun b hb => by cases hb; rw [hsz1, hrl]⟩ (s.nx + 2);generalize hw1 : (w.alloc (.deferred (some []))).alloc (.loop (r.loop .ready none)) = w1 at D2;generalize he1 : (e.setB s.nx w.heap.size).setB (s.nx + 1) (w.alloc (.deferred (some []))).heap.size = e1 at D2;change Den F w0 (rfS s r w.heap.size) h e1 a w1 at D2;simp only [zz3, Bool.not_eq_true'] at hcn
 have hcaps : repT h caps e1 vs := by
  rw [<- he1];exact zEy (Nm.but_setB _ _ _) caps vs hcn.2 (zEy (Nm.but_setB _ _ _) caps vs hcn.1 hc)
 have hlen : (os ++ [zDi r .ready none]).length = (ks ++ [s.nx + 1]).length := (zEn (hos r w.heap.size)).1
 have hcon := hit h (zFq (e1.inn (ks ++ [s.nx + 1])) (os ++ [zDi r .ready none])) r (by rw [hr]) (by rw [hr]) (by rw [hr]) (by rw [hr]; exact D.size) (by simp [zFq]) D.le (fun j b hj hjk hb => by
  have hi1 : j < (os ++ [zDi r .ready none]).length := by rw [hlen]; simp; omega
  rw [zCo hi1];have q1 := (Free.of f1).lt;have q2 := (Free.of f2).lt;have hfx : e.bs (1000 + j) = b := D.fix j b hb;simp only [Nm.inn, Nat.add_sub_cancel_left, zEt _ _ _ hj, hjk];rw [<- he1];simp [Nm.setB, show ¬ (1000 + j = s.nx) by omega, show ¬ (1000 + j = s.nx + 1) by omega, hfx]) (fun h' e' hl hbl t => by
  have htm : r.tm = a.tmps := by rw [hr]
  rw [htm];refine zYs D hl (fun i hi => ?_) t;have hi1 : i < (os ++ [zDi r .ready none]).length := by rw [hlen]; simp; omega
  have hb := hbl i _ (zCo hi1);rw [hb];simp only [Nm.inn, Nat.add_sub_cancel_left, zEt _ _ _ hi];have hmem := zDr hi
  have n1 : zCw ks i ≠ s.nx := fun hc => by
   rw [Bool.not_eq_true'] at f4;have := zCb.2 hmem;rw [hc, f4] at this;cases this
  have n2 : zCw ks i ≠ s.nx + 1 := fun hc => by
   have hnd := zDw f3;have := (List.nodup_append.1 hnd).2.2 (zCw ks i) hmem (s.nx + 1) (by simp);exact this hc
  rw [<- he1];simp [Nm.setB, n1, n2])
 refine ⟨w.heap.size + 1, [{ target := .collected w.heap.size, args := #[] }], w1, { target := .fn (.func gf) vs.toArray, args := #[.func (.yield (w.heap.size + 1)) #[] #[]] }, w1, gf, #[.func (.yield (w.heap.size + 1)) #[] #[]] ++ vs.toArray, w1, ?_, ?_, fun f' _ => trivial, ?_, fun hh => (by cases hh), ?_⟩
 ·rw [<- hw1, hr]
  exact run_enterLoop_outer _ _ _ _ _
 ·have hev : a.eval g = .func (.func gf) #[] vs.toArray := hv
  simp only [resolve, hev];simp [go_sem]
 ·have hcl := hcon.call
  simp [invoke, go_sem, hcl]
 ·have hyv : repT h (.yld r.l :: caps) e1 (.func (.yield (w.heap.size + 1)) #[] #[] :: vs) := by
   simp only [repT, rep];exact ⟨_, _, rfl, by rw [hrl], hcaps⟩
  have hpm := zNr (s := rfS s r w.heap.size) (ks := ks ++ [s.nx + 1]) (ds0 := .yld r.l :: caps) (ds := .yld r.l :: caps') f3 (by simp only [zHn, ren, hcr]) (by simp only [zCq, zDs, zyg]; exact hca) (hos r w.heap.size);obtain ⟨q1, q2, q3, q4⟩ := D2.passF hpm hyv
  have hcalls := hcon.ok _ _ _ ⟨rfl, rfl, rfl⟩ h (e1.inn (ks ++ [s.nx + 1])) w1 _ D2.gh (Le.refl h) (fun i b hb => by
   have hi : i < (os ++ [zDi r .ready none]).length := by
    have := (List.getElem?_eq_some_iff.1 hb).1;simpa [zFq] using this
   rw [zCo hi] at hb;simpa using hb) D2.sub q1 q2 q3 q4
  have harr : (Value.func (.yield (w.heap.size + 1)) #[] #[] :: vs).toArray = #[Value.func (.yield (w.heap.size + 1)) #[] #[]] ++ vs.toArray := by apply Array.ext'; simp
  rw [harr] at hcalls;refine callsIn_wide.2 (hcalls.mono fun en w2 hq => ?_);obtain ⟨d, o', ⟨x, hx, rfl, rfl⟩, hq⟩ := hq;obtain ⟨v, h', e'', rfl, D3⟩ := D2.aft (hos r w.heap.size) (hs x r w.heap.size) hq;obtain ⟨k1, k2⟩ := zLd (D3.own _ _ (hre x r w.heap.size));have k2 := k2 _ rfl;have k1' : w2.heap[w.heap.size + 1]? = some (.loop (r.loop .ready none)) := by rw [<- hrl, <- k2]; exact k1
  have hst : (r.loop .ready none).state ≠ .busy := by simp [LR.loop]
  refine ⟨none, _, run_endLoop k1' hst, ?_⟩;have D4 := D3.setMp (m' := ⟨none, 0, fun _ => false, fun _ => .any, some (.raw (.loop { r.loop .ready none with state := .exhausted }) (some r.l))⟩) (o' := .loop { r.loop .ready none with state := .exhausted }) (hre x r w.heap.size) k1 ⟨rfl, fun b hb => by cases hb; exact k2⟩;have D5 := (D4.drop (s.nx + 1)).base [{ target := .collected w.heap.size, args := #[] }] none;simp only [zRs] at D5;rw [k2, hrl] at D5;exact hK x hx r w.heap.size _ _ _ _ D5
end
theorem zFn {P : Program} {f : Nat} {fn : Func} {c : Code} {n : Nat} {h0 : Hp} {bl : List Nat} {R : List SD -> List OB -> (SD -> List (Nat × OB) -> Prop) -> Prop} (hcall : ∀ args w, (callFunc f args).run P w = .ok (.enter f args) w) (hf : P.funcs[f]? = some fn) (hb : fn.body = some c) (hn : fn.ntmps = n)
  (hrun : ∀ ds os O, R ds os O -> ds.length <= n /\ bl.length <= os.length /\ ∀ (F : List Nat) (w0 : zBw), Anch h0 bl w0 -> Run P F w0.std (yBs P fn (yHp F w0 O)) [.code c] ⟨n, 0, zRp 0 ds, zAy 1000 os⟩) : zZv P f h0 bl R := by
 refine ⟨hcall, fun ds os O hR h e w vs gh hl0 hbl hs hr ho hb' hap => ?_⟩;obtain ⟨hlen, hlb, hrun⟩ := hrun ds os O hR
 have hvl : vs.length = ds.length := by
  clear hR hrun hlen
  induction ds generalizing vs with
  | nil => simp only [repT] at hr; simp [hr]
  | cons d r ih => simp only [repT] at hr; obtain ⟨v, vs', rfl, _, h2⟩ := hr; simp [ih vs' h2]
 refine (callsIn_wide (n := 0)).1 (callsIn_of_wp_marks hf hb trivial ?_)
 have hk : ∀ k o, lkO (zAy 1000 os) k = some o -> ∃ i, k = 1000 + i /\ os[i]? = some o := fun k o hk => by
  rw [zDg] at hk;split at hk
  ·exact ⟨k - 1000, by omega, hk⟩
  ·cases hk
 have han : Anch h0 bl ⟨w, h, zFq e os, gh⟩ := ⟨hl0, fun i b hib => by
  have hi := (List.getElem?_eq_some_iff.1 hib).1;show (zFq e os)[i]? = some b;rw [zCo (by omega), hbl i b hib]⟩
 refine hrun (zCs e 1000 os) ⟨w, h, zFq e os, gh⟩ han h e _ w ⟨rfl, ?_, fun t => ?_, fun k o hko => ?_, fun k o b hko hbl => ?_, fun k k' o o' b hne hko hko' hbl => ?_, hs, zEv.refl _ _, Le.refl h, fun _ _ => rfl, fun i b hib => ?_⟩
 ·simp; omega
 ·have := zF4 (e := e) 0 t hr
  simp only [zz7, if_true, Nat.sub_zero] at this
  have e1 : (vs.toArray ++ Array.replicate (fn.ntmps - vs.toArray.size) undef).getD t undef = vs.getD t undef := by
   simp only [zyd, Array.getElem?_append, zz2];by_cases ht : t < vs.length
   ·simp [ht]
   ·simp only [List.size_toArray, ht, if_false, Array.getElem?_replicate]
    rw [List.getElem?_eq_none (by omega)];split <;> simp
  rw [e1];exact this
 ·obtain ⟨i, rfl, hi⟩ := hk k o hko
  exact ho i o hi
 ·obtain ⟨i, rfl, hi⟩ := hk k o hko
  have hm : b ∈ zCs e 1000 os := zDf.2 ⟨i, o, hi, hbl⟩;exact ⟨.inr ⟨hm, by omega⟩, hb' b hm⟩
 ·obtain ⟨i, rfl, hi⟩ := hk k o hko
  obtain ⟨j, rfl, hj⟩ := hk k' o' hko';exact hap i j o o' b (fun hc => hne (by rw [hc])) hi hj hbl
 ·change (zFq e os)[i]? = some b at hib
  have hi : i < os.length := by
   have := (List.getElem?_eq_some_iff.1 hib).1;simpa [zFq] using this
  rw [zCo hi] at hib;simpa using hib
end Go.Sx
namespace Go.Sx
open Go.RowKit
section
variable {P : Program} {F : List Nat} {w0 : Base} {s : St} {Q : Exit -> Act -> World -> Prop} {ops : Array Oper} {rest : List Oper}
theorem zM9 {t j : Nat} {x : Operand} {ty : Nat} {pos : String} {af : Array Edge} {n c : Nat} {dom V : MK -> Bool} {cur : Option MK} {f : MK -> SD} {l : List (SD × SD)} (hx : ev s x = .loc j 0) (ho : lkO s.ow j = some (.mp ⟨none, n, dom, f, some (.iter c V cur)⟩ l)) (ht : Nat.blt t s.n = true)
  (h1 : (∀ q, dom q = true -> V q = true) -> zAg P F w0 ops Q rest (s.put t (.tup [.bool false])))
  (h2 : ∀ (y : ByteArray) (c' : Nat), c' < c -> dom (.s y) = true -> V (.s y) = false -> zAg P F w0 ops Q rest ⟨s.n, s.nx, upd s.sl t (.tup [.bool true, .str y, f (.s y)]), upd s.ow j (.mp ⟨none, n, dom, f, some (.iter c' (zC9 (.s y) V) (some (.s y)))⟩ [])⟩) :
  zAg P F w0 ops Q (⟨some t, .next x false, ty, pos, af, none⟩ :: rest) s := fun h e a w D => by
 have hv := D.ev x;rw [hx] at hv;simp only [rep] at hv;obtain ⟨o, o1, o2⟩ := D.own j _ ho;obtain ⟨b, es, clock, seen, rfl, g2, g3, g4, g5, g6⟩ := (show zI5 h _ c V cur o from o2);have hb := D.sub _ _ g2;refine zAe rfl fun K hK => ?_
 rcases run_next_at (P := P) w ty (e.bs j) b clock clock seen es clock o1 hb (fun x hx => g3.2.2.1.born x (Array.mem_toList_iff.1 hx)) (zyj _) with ⟨r1, r2⟩ | ⟨en, r1, w1, r2, r3⟩
 ·refine zDa (v := .tuple #[.bool false]) (by simp [execOp, hv, r2]) (hK _ _ (h1 (fun q hq => ?_) _ _ _ _ (D.put (zAk ht) (by simp [rep, repT]))))
  obtain ⟨q1, z, q2, q3⟩ := g3.2.2.1.all q hq;rw [g5 z q2 q q3 q1];exact all_seen es seen r1 z (Array.mem_toList_iff.2 q2)
 ·obtain ⟨r4, r5⟩ := mem_left r1
  have r4' := Array.mem_toList_iff.1 r4;obtain ⟨q, q1, q2, q3⟩ := g3.2.2.1.key en r4';cases q with
  | i bb => cases q1
  | s y =>
   have D1 : Den F w0 s h e a w1 := by
    rcases r2 with rfl | rfl
    ·exact D
    ·exact D.drew
   have o1' : w1.heap[e.bs j]? = some (.mapIter (some b) clock seen clock) := by
    rcases r2 with rfl | rfl <;> exact o1
   have hVf : V (.s y) = false := by rw [g5 en r4' _ q2 q1]; exact r5
   have hshr := left_shrinks es seen en r1;unfold leftOf at hshr;rw [g4] at hshr;obtain ⟨c', hc'⟩ : ∃ c', (es.filter fun e => !(seen.push en.born).contains e.born).size = c' := ⟨_, rfl⟩;rw [hc'] at hshr
   have hiter : zI5 h ⟨none, n, dom, f, some (.iter c' (zC9 (.s y) V) (some (.s y)))⟩ c' (zC9 (.s y) V) (some (.s y)) (.mapIter (some b) clock (seen.push en.born) clock) := by
    refine ⟨b, es, clock, seen.push en.born, rfl, g2, g3, hc', fun z hz p hp hpk => ?_, fun p hp => ?_⟩
    ·rw [contains_push]
     have e0 := g5 z hz p hp hpk;simp only [zC9, e0];by_cases hpq : p = .s y
     ·have hze : z.key = en.key := by rw [hp, q2, hpq]
      have : z = en := entry_eq g3.2.2.1.apart (Array.mem_toList_iff.2 hz) r4 hze;simp [hpq, this]
     ·have hne : z.born ≠ en.born := fun hc => by
       have hnd := g3.2.2.1.nodup;obtain ⟨i1, h1⟩ := List.getElem?_of_mem (Array.mem_toList_iff.2 hz);obtain ⟨i2, h2⟩ := List.getElem?_of_mem r4;have := zIx hnd (i := i1) (j := i2) (a := z.born) (by simp [List.getElem?_map, h1]) (by simp [List.getElem?_map, h2, hc]);subst this;rw [h1] at h2;cases h2;exact hpq (MK.val_inj hpk q1 (hp.symm.trans q2))
      have : (z.born == en.born) = false := by simp [hne]
      simp [hpq, this]
    ·cases hp
     exact ⟨q1, en, r4', q2, by simp⟩
   have D2 := D1.setMp (m' := ⟨none, n, dom, f, some (.iter c' (zC9 (.s y) V) (some (.s y)))⟩) (o' := .mapIter (some b) clock (seen.push en.born) clock) ho o1' hiter;have hval := fun e => g3.2.2.2 en r4' (.s y) q2 q1 e
   have D3 := D2.put (i := t) (d := .tup [.bool true, .str y, f (.s y)]) (v := .tuple #[.bool true, en.key, en.val]) (zAk ht) (by
    simp only [rep, repT];exact ⟨[.bool true, en.key, en.val], rfl, _, _, rfl, rfl, _, _, rfl, q2, _, _, rfl, hval e, rfl⟩)
   refine zMh (v := .tuple #[.bool true, en.key, en.val]) (by simp [execOp, hv, r3]) (hK _ _ (h2 y c' hshr q3 hVf _ _ _ _ D3))
where
 entry_eq : ∀ {l : List MapEntry}, l.Pairwise (fun x y => x.key ≠ y.key) -> ∀ {x y : MapEntry}, x ∈ l -> y ∈ l -> x.key = y.key -> x = y
  | [], _, _, _, hx, _, _ => by simp at hx
  | a :: r, hp, x, y, hx, hy, h => by
   obtain ⟨h1, h2⟩ := List.pairwise_cons.1 hp
   rcases List.mem_cons.1 hx with ex | hx'
   ·rcases List.mem_cons.1 hy with ey | hy'
    ·rw [ex, ey]
    ·exact absurd (ex ▸ h) (h1 y hy')
   ·rcases List.mem_cons.1 hy with ey | hy'
    ·exact absurd (ey ▸ h).symm (h1 x hx')
    ·exact entry_eq h2 hx' hy' h
theorem zNa {t j : Nat} {x : Operand} {ty : Nat} {pos : String} {af : Array Edge} {n c : Nat} {dom V : MK -> Bool} {y : ByteArray} {f : MK -> SD} {l : List (SD × SD)} {s' : St} (hx : ev s x = .loc j 0) (ho : lkO s.ow j = some (.mp ⟨none, n, dom, f, some (.iter c V (some (.s y)))⟩ l))
  (hs : zCp s t (.tup [.str y, f (.s y)]) = some s')
  (hn : zAg P F w0 ops Q rest s') : zAg P F w0 ops Q (⟨some t, .entry x, ty, pos, af, none⟩ :: rest) s := fun h e a w D => by
 obtain ⟨ht, rfl⟩ := zAp hs;have hv := D.ev x;rw [hx] at hv;simp only [rep] at hv;obtain ⟨o, o1, o2⟩ := D.own j _ ho;obtain ⟨b, es, clock, seen, rfl, g2, g3, g4, g5, g6⟩ := (show zI5 h _ c V (some (.s y)) o from o2);have hb := D.sub _ _ g2;obtain ⟨q1, en, q2, q3, q4⟩ := g6 _ rfl;refine zAe rfl fun K hK => ?_
 obtain ⟨seen', hsn⟩ : ∃ seen' : Array Nat, seen = seen'.push en.born := ⟨seen.pop, by
  have hpos : 0 < seen.size := by
   cases hs0 : seen.size with
   | zero => have : seen = #[] := Array.eq_empty_of_size_eq_zero hs0; subst this; simp at q4
   | succ n => omega
  apply Array.ext';have h1 : seen.toList.getLast? = some en.born := by rw [Array.getLast?_toList]; exact q4
  have hne : seen.toList ≠ [] := fun hc => by rw [hc] at h1; cases h1
  simp only [Array.toList_push, Array.toList_pop]
  have h2 : seen.toList.getLast hne = en.born := by
   rw [List.getLast?_eq_some_getLast hne] at h1;simpa using h1
  rw [<- h2];exact (List.dropLast_concat_getLast hne).symm⟩
 subst hsn;have hr := run_entry_at (P := P) w (e.bs j) b clock seen' es clock en o1 hb (Array.mem_toList_iff.2 q2) g3.2.2.1.nodup;have hval := g3.2.2.2 en q2 (.s y) q3 q1 e;refine zDa (v := .tuple #[en.key, en.val]) (by simp [execOp, hv, hr]) (hK _ _ (hn _ _ _ _ (D.put ht ?_)));simp only [rep, repT];exact ⟨[en.key, en.val], rfl, _, _, rfl, q3, _, _, rfl, hval, rfl⟩
end
end Go.Sx
namespace Go.Sx
open Go.RowKit
section
variable {P : Program} {F : List Nat} {w0 : Base} {s : St} {Q : Exit -> Act -> World -> Prop} {l : List Oper} {s0 : St} {rs : List Rec} {id : Nat} {rest : List Oper}
theorem zU3 {σ : St} {x : SD} {m : MD} (hm : OwM s σ x) (hq : mapD s x = some m) : mapD σ x = some m := by
 unfold mapD at hq |-;cases x <;> try exact hq
 rename_i k;simp only at hq |-;cases ho : lkO s.ow k with
 | none => rw [ho] at hq; cases hq
 | some o => rw [hm k o (by simp [men]) ho]; rw [ho] at hq; exact hq
theorem zXy {σ : St} {T : Nat} {x y : SD} {ok : Bool} {d : SD} (hm : OwM s σ x) (hq : mlD P s T x y ok = some d) : mlD P σ T x y ok = some d := by
 unfold mlD at hq |-;cases h1 : mapD s x with
 | none => rw [h1] at hq; cases hq
 | some m => rw [zU3 hm h1]; rw [h1] at hq; exact hq
def yA4 (s : St) (x y : Operand) (t : Nat) (d : SD) : Rec := ⟨zDe s (tmpsOf [x, y]), keysA s [x] s.ow, some t, d, [], []⟩
theorem zSj {t T : Nat} {x y : Operand} {ok : Bool} {ty : Nat} {pos : String} {af : Array Edge} {d : SD} {s' : St} (hq : mlD P s T (unG s x) (unG s y) ok = some d) (hg : zAl (gCs s [x, y] [])) (hs : zCp s t d = some s')
  (hn : zAs P F w0 Q id l s0 (rs ++ [yA4 s x y t d]) rest s') : zAs P F w0 Q id l s0 rs (⟨some t, .lookup T x y ok, ty, pos, af, none⟩ :: rest) s := fun K => by
 obtain ⟨ht, rfl⟩ := zAp hs;have g1 : ∀ p ∈ (yA4 s x y t d).slots, lkp s.sl p.1 = p.2 := zBk;have g2 : ∀ p ∈ (yA4 s x y t d).keys, lkO s.ow p.1 = some p.2 := zEb;refine hn (K.snoc g1 g2 (fun σ hn h1 h2 h3 h e a w D K Q hK => ?_) ⟨rfl, fun _ => rfl, fun _ => rfl⟩);rw [if_pos (by simp [Region.wanted])];have hev := zBd (s := s) (s' := σ) (l := [x, y]) h1;have hm : OwM s σ (ev s x) := fun k o hm ho => h2 (k, o) (zDx (by simp [zVt, hm]) ho)
 have hq' : mlD P σ T (unG σ x) (unG σ y) ok = some d := by
  simp only [unG, hev x (by simp), hev y (by simp)];exact zXy hm.ungd hq
 have hg' : zAl (gCs σ [x, y] []) := by rw [zAn hev]; exact hg
 unfold Oper.wp;obtain ⟨r, r1, r2⟩ := zQu D hq' (D.unG (l := [x, y]) (r := []) hg' (by simp)) (D.unG (l := [x, y]) (r := []) hg' (by simp));exact zDa (v := r) (by simp [execOp, r2]) (hK _ _ _ _ (D.put (by rw [hn]; exact ht) r1))
def muA (P : Program) (s : St) (T : Nat) (x y z : SD) : Option (Prop × Nat × OB) :=
 match x with
 | .omap j => match lkO s.ow j, kkT P T with
  | some (.mp m _), some kk => match m.it, zRg kk y with
   | none, some q => bif decide (m.kk = kk) && zC6 z then some (m.n < maxN, j, .mp ⟨m.kk, bif m.dom q then m.n else m.n + 1, zC9 q m.dom, zJ0 q z m.f, none⟩ []) else none
   | _, _ => none
  | _, _ => none
 | _ => none
theorem yFe {T : Nat} {x y z : SD} {p : Prop} {j : Nat} {o : OB} (h : muA P s T x y z = some (p, j, o)) : muD P s T x y z = some ([p], { s with ow := upd s.ow j o }) := by
 unfold muA at h;unfold muD;cases x <;> try cases h
 rename_i k;simp only at h |-;split at h
 ·rename_i m lm kk h1 h2
  rw [h1, h2];simp only;split at h
  ·rename_i q h3 h4
   rw [h3, h4];simp only
   revert h
   cases (decide (m.kk = kk) && zC6 z)
   ·intro h; cases h
   ·simp only [cond_true, zz1, zz6]
    rintro ⟨rfl, rfl, rfl⟩;exact ⟨rfl, rfl⟩
  ·cases h
 ·cases h
theorem zXw {σ : St} {T : Nat} {x y z : SD} {r : Prop × Nat × OB} (hm : OwM s σ x) (hq : muA P s T x y z = some r) : muA P σ T x y z = some r := by
 unfold muA at hq |-;cases x <;> try exact hq
 rename_i k;simp only at hq |-;cases ho : lkO s.ow k with
 | none => rw [ho] at hq; cases hq
 | some o => rw [hm k o (by simp [men]) ho]; rw [ho] at hq; exact hq
def yA3 (s : St) (x y z : Operand) (k : Nat) (o : OB) : Rec := ⟨zDe s (tmpsOf [x, y, z]), keysA s [x] s.ow, none, .any, [(k, some o)], []⟩
theorem yCw {T : Nat} {x y z : Operand} {ty : Nat} {pos : String} {af : Array Edge} {p : Prop} {k : Nat} {o : OB} {s' : St} (hq : muA P s T (unG s x) (unG s y) (unG s z) = some (p, k, o)) (hp : p) (hg : zAl (gCs s [x, y, z] [])) (hs : asS s k o = some s')
  (hn : zAs P F w0 Q id l s0 (rs ++ [yA3 s x y z k o]) rest s') : zAs P F w0 Q id l s0 rs (⟨none, .mapUpdate T x y z, ty, pos, af, none⟩ :: rest) s := fun K => by
 simp only [asS, zz1] at hs;subst hs;have g1 : ∀ p ∈ (yA3 s x y z k o).slots, lkp s.sl p.1 = p.2 := zBk;have g2 : ∀ p ∈ (yA3 s x y z k o).keys, lkO s.ow p.1 = some p.2 := zEb;refine hn (K.snoc g1 g2 (fun σ hn h1 h2 h3 h e a w D K Q hK => ?_) ⟨rfl, fun _ => rfl, fun _ => rfl⟩);rw [if_pos (by simp [Region.wanted])];have hev := zBd (s := s) (s' := σ) (l := [x, y, z]) h1;have hm : OwM s σ (ev s x) := fun k o hm ho => h2 (k, o) (zDx (by simp [zVt, hm]) ho)
 have hq' : muA P σ T (unG σ x) (unG σ y) (unG σ z) = some (p, k, o) := by
  simp only [unG, hev x (by simp), hev y (by simp), hev z (by simp)];exact zXw hm.ungd hq
 have hg' : zAl (gCs σ [x, y, z] []) := by rw [zAn hev]; exact hg
 exact yDr (.inl rfl) rfl D (yFe hq') ⟨hp, trivial⟩ hg' K Q fun h' e' a' w' D' => hK h' e' a' w' D'
end
attribute [go_sem] muA yA4 yA3 zC7 asS
end Go.Sx
namespace Go.Sx
open Go.RowKit
@[go_sem] abbrev tpD (b : Nat) : SD := .val (.pointer (some ⟨b, 0, none⟩))
section
variable {P : Program} {F : List Nat} {w0 : Base} {s : St} {Q fin : Exit -> Act -> World -> Prop} {ops : Array Oper} {rest : List Oper} {kl : List It}
theorem yAq {i b : Nat} (t : Nat) (hfx : w0.fix[i]? = some b) (ht : lkp s.sl t = .loc (1000 + i) 0) (hn : Run P F w0 fin kl ⟨s.n, s.nx, upd s.sl t (tpD b), s.ow⟩) : Run P F w0 fin kl s := fun h e a w D => by
 refine hn h e a w ⟨D.defers, D.size, fun u => ?_, D.own, D.ownb, D.apart, D.sub, D.keeps, D.le, D.neww, D.fix⟩;simp only [zB0];by_cases hu : u = t
 ·subst hu
  simp only [if_true];have := D.slot u;rw [ht] at this;simp only [rep] at this |-;rw [this, D.fix i b hfx]
 ·simp only [hu, if_false]; exact D.slot u
theorem zPd {a : Act} {w : World} {f j b t : Nat} {args : Array Operand} {tys : Array Nat} {ty : Nat} {pos : String} {af : Array Edge} (hcl : ∀ args w, (callFunc f args).run P w = .ok (.enter f args) w) (hv : a.tmps.getD j undef = .func (.func f) #[.pointer (some ⟨b, 0, none⟩)] #[]) :
  (execOp a.eval ⟨some t, .call ⟨.value (.tmp j), args, tys⟩, ty, pos, af, none⟩).run P w = .ok (.enter f (.pointer (some ⟨b, 0, none⟩) :: args.toList.map a.eval).toArray) w := by
 have : (Value.pointer (some ⟨b, 0, none⟩) :: args.toList.map a.eval).toArray = #[Value.pointer (some ⟨b, 0, none⟩)] ++ args.map a.eval := by apply Array.ext'; simp
 rw [this];have hev : a.eval (.tmp j) = .func (.func f) #[.pointer (some ⟨b, 0, none⟩)] #[] := hv;simp [execOp, resolve, hev, Deferred.ofValue, invoke, hcl]
theorem zG2 {f t j i b : Nat} {args : Array Operand} {tys : Array Nat} {ty : Nat} {pos : String} {af : Array Edge} {R : List SD -> SD -> Prop} {l : List SD} (l' : List SD) {ds : List SD} {d : SD} {s' : St} (hf : FnOK P f R) (hfx : w0.fix[i]? = some b) (hj : lkp s.sl j = .bfn (.func f) [tpD b])
  (ho : lkO s.ow (1000 + i) = some (.var l)) (hl : zCr l l') (hp : zGh l' = true) (ha : args.toList.map (unG s) = ds) (hg : zAl (gCs s args.toList [])) (hR : R (.fp l' :: ds) d) (hsc : yEe d = true) (hs : zCp s t d = some s')
  (hn : zAg P F w0 ops Q rest s') : zAg P F w0 ops Q (⟨some t, .call ⟨.value (.tmp j), args, tys⟩, ty, pos, af, none⟩ :: rest) s := fun h e a w D => by
 subst ha;obtain ⟨ht, rfl⟩ := zAp hs;have hv := D.slot j;rw [hj] at hv;simp only [rep, repT] at hv;obtain ⟨vs, hv, v, vs', rfl, rfl, rfl⟩ := hv;refine zAe rfl fun K hK => ?_;unfold Oper.wp;rw [zPd hf.call hv];obtain ⟨cs, T, o1, o2⟩ := D.own _ _ ho;have hb : e.bs (1000 + i) = b := D.fix i b hfx;rw [hb] at o1;have b2 := (D.ownb _ _ b ho (by simp [OB.blk, hb])).2
 have q1 : Le h (h.set b (.cells cs T (0, 0))) := fun c x hx => by
  simp only [Hp.set];by_cases hc : c = b
  ·subst hc; rw [b2] at hx; cases hx
  ·simp [hc, hx]
 have q2 : Sub (h.set b (.cells cs T (0, 0))) w := fun c y hx => by
  simp only [Hp.set] at hx;by_cases hc : c = b
  ·subst hc
   simp only [if_true, zz1] at hx;subst hx;exact o1
  ·simp only [hc, if_false] at hx
   exact D.sub c y hx
 have o3 := hl.repC o2
 have q3 : rep (h.set b (.cells cs T (0, 0))) (.fp l') e (.pointer (some ⟨b, 0, none⟩)) := by
  simp only [rep];refine ⟨⟨b, 0, none⟩, cs, T, (0, 0), rfl, rfl, by simp [Hp.set], fun e' => ?_⟩;have hlen := zAw o3;have : cut cs.toList 0 l'.length = cs.toList := by simp only [cut, List.drop_zero]; exact List.take_of_length_le (by omega)
  rw [this];exact zFh q1 _ e' _ (zIt _ _ hp o3)
 refine (hf.ok _ _ hR _ e w _ (D.gh.mono q1) q2 (by simp only [repT]; exact ⟨_, _, rfl, q3, zGq q1 _ e _ (zAq D (zAm hg).1 fun _ hx => hx)⟩)).mono fun en w' hq => ?_;obtain ⟨v, h', rfl, g1, g2, g3, g4, g5⟩ := hq;exact hK _ _ (hn _ _ _ _ ((D.lent g3).put ht (zKc _ _ _ hsc (g5 e))))
theorem zUj {f t j i b : Nat} {args : Array Operand} {tys : Array Nat} {ty : Nat} {pos : String} {af : Array Edge} {R : List SD -> List OB -> SD -> List (Nat × OB) -> Prop} (ks : List Nat) {ds : List SD} {os : List OB} {d : SD} {os' : List (Nat × OB)} {s' : St} (hf : FnM P f R) (hfx : w0.fix[i]? = some b) (hj : lkp s.sl j = .bfn (.func f) [tpD b]) (hnd : nodupB ks = true)
  (ha : zHn (tau ks) (.loc (1000 + i) 0 :: args.toList.map (unG s)) = ds) (hal : zCq (fun x => zB8 x ks) (fun x => zB8 x ks) (.loc (1000 + i) 0 :: args.toList.map (unG s)) = true) (ho : zMa s ks ks = some os) (hg : zAl (gCs s args.toList [])) (hR : R ds os d os')
  (hs : zHu s t ks os d os' = some s') (hn : zAg P F w0 ops Q rest s') : zAg P F w0 ops Q (⟨some t, .call ⟨.value (.tmp j), args, tys⟩, ty, pos, af, none⟩ :: rest) s := fun h e a w D => by
 have hv := D.slot j;rw [hj] at hv;simp only [rep, repT] at hv;obtain ⟨vs, hv, v, vs', rfl, rfl, rfl⟩ := hv;refine zAe rfl fun K hK => ?_;unfold Oper.wp;rw [zPd hf.call hv];have hb : e.bs (1000 + i) = b := D.fix i b hfx;obtain ⟨q1, q2, q3, q4⟩ := D.passF (zNr hnd ha hal ho) (by simp only [repT]; exact ⟨_, _, rfl, by simp only [rep]; rw [hb], zAq D (zAm hg).1 fun _ hx => hx⟩);refine (hf.ok ds os d os' hR h (e.inn ks) w _ D.gh D.sub q1 q2 q3 q4).mono fun en w' hq => ?_;obtain ⟨v, h', e', rfl, D'⟩ := D.afterM ho hs hq;exact hK _ _ (hn _ _ _ _ D')
end
end Go.Sx
