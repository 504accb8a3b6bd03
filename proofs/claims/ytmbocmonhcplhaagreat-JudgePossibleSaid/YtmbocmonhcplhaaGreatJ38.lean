/- Part of the proof that the laws of the judge return true for every input: J38. -/
import Derived.Test.YtmbocmonhcplhaaGreatJ37
set_option linter.all false
namespace Go.Sx
def InvOK (P : Program) (dI : SD) (name : String) (ds : List SD) (d : SD) : Prop := ∃ tx l0 f R, dI = .iface tx (.agg l0) ∧ MethV P tx name f ∧ FnOK P f R ∧ R (.agg l0 :: ds) d
theorem runDinvW {P : Program} {F : List Nat} {w0 : Base} {s : St} {Q : Exit → Act → World → Prop} {rest : List Oper} {l : List Oper} {s0 : St} {rs : List Rec} {id : Nat} {t : Nat} {name : String} {x : Operand} {dI : SD} {args : Array Operand} {tys : Array Nat} {ty : Nat} {pos : String} {af : Array Edge} {ds : List SD} {d : SD} {s' : St} (hI : InvOK P dI name ds d)
  (hx : ev s x = dI) (ha : args.toList.map (unG s) = ds) (hg : allP (gCs s args.toList [])) (hs : cstep s t d = some s')
  (hn : RunD P F w0 Q id l s0 (rs ++ [⟨readS s (tmpsOf (x :: args.toList)), [], some t, d, [], []⟩]) rest s') : RunD P F w0 Q id l s0 rs (⟨some t, .call ⟨.invoke x name, args, tys⟩, ty, pos, af, none⟩ :: rest) s := by
 obtain ⟨tx, l0, f, R, rfl, hm, hf, hR⟩ := hI
 subst ha
 exact runDinvV hm hf hx rfl hg hR hs hn
open Go.Proofs Go.RowKit
attribute [local irreducible] Run RunL RunD OpT SLe0 SLe OLe
set_option maxHeartbeats 2000000
set_option maxRecDepth 8000
theorem noneE : (.mp ⟨some .i64, 0, fun _ => false, fT, none⟩ [] : OB) = oSet (fun _ => false) := by
 simp only [oSet]
 congr 2
 all_goals first | (funext q; cases q <;> simp [dM]; done) | (simp [cM]; done)
set_option maxHeartbeats 4000000
attribute [local irreducible] cM dM
def noneS : Nat → Bool := fun _ => false
def orS (A B : Nat → Bool) : Nat → Bool := fun z => A z || B z
def stepM (A : (Nat → Bool) → Nat → Bool) (met : List (Nat → Bool)) : List (Nat → Bool) := (List.range (met.length + 1)).map fun i => if i = 0 then met.getD 0 noneS else orS (met.getD i noneS) (A (met.getD (i - 1) noneS))
def foldM (As : List ((Nat → Bool) → Nat → Bool)) (met : List (Nat → Bool)) : List (Nat → Bool) := As.foldl (fun m A => stepM A m) met
def someS (As : List ((Nat → Bool) → Nat → Bool)) (least : Int) (S : Nat → Bool) : Nat → Bool :=
 fun z => ((foldM As [S]).drop (if ((foldM As [S]).length : Int) < least then ((foldM As [S]).length : Int) else least).toNat).any fun m => m z
def aft (s : Scale) (l : List Ach) : Nat → Need → (Nat → Bool) → Nat → Bool
 | 0, n, S => if n.Kind = 1 then stepS S (oneC (fitsL n s l 0)) else if n.Kind = 2 then stepS S (fun y z => chs (credL l) n.N y (fitsL n s l 0) y 0 z) else someS [] (if n.Kind = 3 then 0 else n.N) S
 | d + 1, n, S => if n.Kind = 1 then stepS S (oneC (fitsL n s l 0)) else if n.Kind = 2 then stepS S (fun y z => chs (credL l) n.N y (fitsL n s l 0) y 0 z) else someS (n.L.map (aft s l d)) (if n.Kind = 3 then (n.L.length : Int) else n.N) S
theorem stepM_len (A : (Nat → Bool) → Nat → Bool) (met : List (Nat → Bool)) : (stepM A met).length = met.length + 1 := by simp [stepM]
theorem stepM_get (A : (Nat → Bool) → Nat → Bool) (met : List (Nat → Bool)) (i : Nat) (hi : i < met.length + 1) : (stepM A met).getD i noneS = if i = 0 then met.getD 0 noneS else orS (met.getD i noneS) (A (met.getD (i - 1) noneS)) := by
 simp only [stepM, List.getD_eq_getElem?_getD, List.getElem?_map, List.getElem?_range hi]; rfl
theorem noneF : eSet noneS = .fmap (some .i64) 0 (fun _ => false) fT := by
 have := noneE
 simp only [oSet, OB.mp.injEq, MD.mk.injEq] at this
 simp only [eSet]
 rw [show cM noneS = 0 from this.1.2.1.symm, show dM noneS = fun _ => false from this.1.2.2.1.symm]
theorem sets1 (S : Nat → Bool) : SLe (.list 1 1 (nthSD [.fmap (some IntKind.i64) (cM S) (dM S) fT])) (.list 1 1 fun i => .fmap (some IntKind.i64) (cM ([S].getD i fun x => false)) (dM ([S].getD i fun x => false)) fT) := SLe.list rfl fun i hi => by
 have : i = 0 := by omega
 subst this; rfl
theorem stepS_id (U : Nat → Bool) (z : Nat) (hz : z < 1024) : stepS U (fun y z => y == z) z = U z := by
 simp only [stepS]
 rw [Bool.eq_iff_iff, List.any_eq_true]
 constructor
 ·rintro ⟨y, h1, h2⟩
  simp only [Bool.and_eq_true, beq_iff_eq] at h2
  rw [← h2.2]; exact h2.1
 ·intro h
  exact ⟨z, List.mem_range.2 hz, by simp [h]⟩
@[go_sem] theorem fT_eq' (q : MK) : fT q = .bool true := rfl
theorem ole_set (nx : List (Nat → Bool)) (k : Nat) (U : Nat → Bool) {d : SD} (hk : k < nx.length) (hd : d = eSet U) : OLe (.acc 103 1 nx.length (setF k d fun i => eSet (nx.getD i fun _ => false))) (.acc 103 1 (nx.set k U).length fun i => eSet ((nx.set k U).getD i fun _ => false)) := OLe.accS (by simp) fun i hi => by
 simp only [setF]
 by_cases h : i = k
 ·subst h
  simp [hd, List.getD_eq_getElem?_getD, hk]
 ·have h' : ¬ k = i := fun hc => h hc.symm
  simp [h, beqF h, List.getD_eq_getElem?_getD, List.getElem?_set, h']
theorem foldM_snoc (As : List ((Nat → Bool) → Nat → Bool)) (A : (Nat → Bool) → Nat → Bool) (met : List (Nat → Bool)) : foldM (As ++ [A]) met = stepM A (foldM As met) := by simp [foldM]
theorem list_ext_getD {l l' : List (Nat → Bool)} (h1 : l.length = l'.length) (h2 : ∀ i, i < l.length → l.getD i noneS = l'.getD i noneS) : l = l' := by
 apply List.ext_getElem h1
 intro i q1 q2
 have := h2 i q1
 rw [List.getD_eq_getElem?_getD, List.getD_eq_getElem?_getD, List.getElem?_eq_getElem q1, List.getElem?_eq_getElem q2] at this
 exact this
noncomputable def judgeAfter : String := ((((Tryz.prog.info? 175).map (·.methods)).getD #[])[0]?.map (·.name)).getD ""
theorem K273 (nm : String) (s : Scale) (l : List Ach) (d : Nat) (Pm : Need → Prop) (ih : ∀ (m : Need) (X : Nat → Bool), Pm m → InvOK Tryz.prog (wantF s l d m) nm [eSet X] (eSet (aft s l d m X))) (hnm : nm = judgeAfter) :
  FnOK Tryz.prog 273 (fun ds v => ∃ (ms : List Need) (least : Int) (S : Nat → Bool), ((∀ m ∈ ms, Pm m) ∧ ms.length ≤ 3 ∧ 0 ≤ least) ∧ ds = [.agg [.list 1 ms.length fun i => wantF s l d (ms.getD i default), .int .i64 least], eSet S] ∧ v = eSet (someS (ms.map (aft s l d)) least S)) := by
 subst hnm
 refine fn_intro Tryz.call273 Tryz.func273 rfl Tryz.ntmps273 ?_
 rintro ds d ⟨ms, least, S, ⟨hms, hl3, hle⟩, rfl, rfl⟩
 refine ⟨by simp, fun w0 => ?_⟩
 repeat' (first | apply zC | apply zD | apply zA | apply zB | refine zF qS qR ?_ ?_ | exact True.intro | exact rfl | fail)
 refine zM [0, 1, 2, 4, 22, 23] (fun x : Nat × List (Nat → Bool) => [(24, .int .i64 x.1), (5, eSets x.2)]) (fun x : Nat × List (Nat → Bool) => []) (fun x : Nat × List (Nat → Bool) => (x.1 ≤ ms.length ∧ x.2.length = x.1 + 1) ∧ x.2 = foldM ((ms.take x.1).map (aft s l d)) [S]) (fun x : Nat × List (Nat → Bool) => ms.length - x.1) (0, [S]) (fun x => qS) ?_ (by simp only [go_sem]; repeat' (first | exact trivial | exact True.intro | exact SLe.refl _ | exact OLe.refl _ | exact ⟨_, rfl, OLe.refl _⟩ | refine ⟨_, rfl, ?_⟩ | refine OLe.var ?_ | (show SLeL _ _; refine ⟨?_, ?_⟩) | (show SLeL [] []; exact True.intro) | (refine SLe.int ?_; rw [w64]; omega) | refine SLe.int ?_ | refine SLe.bool ?_ | apply And.intro | (exact sets1 _))) (by simp only [go_sem]; repeat' (first | exact trivial | exact True.intro | exact SLe.refl _ | exact OLe.refl _ | exact ⟨_, rfl, OLe.refl _⟩ | refine ⟨_, rfl, ?_⟩ | refine OLe.var ?_ | (show SLeL _ _; refine ⟨?_, ?_⟩) | (show SLeL [] []; exact True.intro) | (refine SLe.int ?_; rw [w64]; omega) | refine SLe.int ?_ | refine SLe.bool ?_ | apply And.intro | (exact sets1 _))) ?_
 ·exact ⟨⟨Nat.zero_le _, rfl⟩, rfl⟩
 rintro ⟨j, met⟩ ⟨⟨g1, g2⟩, g3⟩
 simp only at g1 g2 g3
 repeat' (first | apply zC | apply zA | apply zB | refine zF qS qR ?_ ?_ | exact True.intro | exact rfl | fail)
 (refine zE qS ?_ ?_ <;> intro hb <;> have hc := hb <;> (try simp only [bF] at hc) <;> (try (exfalso; simp at hc; done)))
 ·have hj : j < ms.length := by assumption
  repeat' (first | apply zC | apply zG | apply zD | apply zA | apply zB | refine zF qS qR ?_ ?_ | exact True.intro | exact rfl | exact qP | fail)
  refine stepcallA K274 qD ?_ ⟨met, ⟨by omega, by omega⟩, rfl, rfl, rfl, rfl, rfl⟩ qS ?_
  ·repeat' (first | exact True.intro | fail)
  repeat' (first | refine stepmk (fT) qS qS ?_ | fail)
  refine runL_frz 2 qS ?_
  repeat' (first | apply zC | apply zD | apply zA | apply zB | refine zF qS qR ?_ ?_ | exact True.intro | exact rfl | exact qP | fail)
  refine zQ (o' := .acc 103 1 (met ++ [noneS]).length (fun i => eSet ((met ++ [noneS]).getD i fun _ => false))) 1 qR (ole_snoc (α := Nat → Bool) eSet met noneS noneF.symm) ?_
  refine zM [0, 1, 2, 4, 5, 7, 22, 23, 24, 8, 33, 34] (fun x : Nat × List (Nat → Bool) => [(35, .int .i64 x.1)]) (fun x : Nat × List (Nat → Bool) => [(1, .acc 103 1 x.2.length (fun i => eSet (x.2.getD i fun _ => false)))]) (fun x : Nat × List (Nat → Bool) => (x.1 ≤ met.length ∧ x.2.length = met.length + 1) ∧ ∀ i, i < met.length + 1 → x.2.getD i noneS = if 0 < i ∧ i ≤ x.1 then orS (met.getD i noneS) (aft s l d (ms.getD j default) (met.getD (i - 1) noneS)) else met.getD i noneS) (fun x : Nat × List (Nat → Bool) => met.length - x.1) (0, met ++ [noneS]) (fun x => qS) ?_ qL qL ?_
  ·refine ⟨⟨Nat.zero_le _, by simp⟩, fun i hi => ?_⟩
   simp only
   rw [if_neg (by omega)]
   simp only [List.getD_eq_getElem?_getD]
   by_cases h : i < met.length
   ·rw [List.getElem?_append_left h]
   ·have : i = met.length := by omega
    subst this
    simp
  rintro ⟨n, nx⟩ ⟨⟨q1, q2⟩, q3⟩
  simp only at q1 q2 q3
  repeat' (first | apply zC | apply zA | apply zB | refine zF qS qR ?_ ?_ | exact True.intro | exact rfl | fail)
  (refine zE qS ?_ ?_ <;> intro hb <;> have hc := hb <;> (try simp only [bF] at hc) <;> (try (exfalso; simp at hc; done)))
  ·have hn : n < met.length := by assumption
   have e1 : IntKind.i64.wrap ((n : Int) + 1) = ((n + 1 : Nat) : Int) := by rw [w64]; omega
   have hI := ih _ (met.getD n fun _ => false) (hms _ (getD_mem' hj))
   repeat' (first | apply zC | apply zG | apply zD | apply zA | apply zO | apply zB | refine zF (by simp only [go_sem, e1]; rfl) qR ?_ ?_ | refine zT (by simp only [go_sem, e1]; rfl) qR ?_ ?_ | refine zP qK qK ?_ | refine stepmk (fT) (by simp only [go_sem, e1]; rfl) (by simp only [go_sem, e1]; rfl) ?_ | refine runDinvW hI (by first | (simp only [go_sem, e1]; done) | (simp only [go_sem, e1]; rfl)) (by simp only [go_sem, e1]; first | done | rfl) ?_ (by simp only [go_sem, e1]; rfl) ?_ | exact True.intro | exact rfl | exact qP | fail)
   refine zQ (o' := oSet (fun _ => false)) 3 qR (ole_eq noneE) ?_
   refine zM [0, 1, 2, 4, 5, 7, 8, 9, 10, 11, 22, 23, 24, 33, 34, 35, 49, 50] (fun x : Nat × (Nat → Bool) => [(51, .int .i64 x.1)]) (fun x : Nat × (Nat → Bool) => [(3, oSet x.2)]) (fun x : Nat × (Nat → Bool) => x.1 ≤ 2 ∧ ∀ z, z < 1024 → x.2 z = ((decide (0 < x.1) && (nx.getD (n + 1) fun _ => false) z) || (decide (1 < x.1) && aft s l d (ms.getD j default) (met.getD n fun _ => false) z))) (fun x : Nat × (Nat → Bool) => 2 - x.1) (0, fun _ => false) (fun x => qS) ?_ qL qL ?_
   ·exact ⟨by decide, fun z _ => by simp⟩
   rintro ⟨k, T⟩ ⟨p1, p2⟩
   simp only at p1 p2
   match k, p1 with
   | 0, _ =>
    repeat' (first | apply zC | apply zA | apply zB | refine zF qS qR ?_ ?_ | exact True.intro | exact rfl | fail)
    (refine zE qS ?_ ?_ <;> intro hb <;> have hc := hb <;> (try simp only [bF] at hc) <;> (try (exfalso; simp at hc; done)))
    repeat' (first | apply zC | apply zG | apply zD | apply zA | apply zB | refine zF qS qR ?_ ?_ | refine steprng qS qS qS ?_ | exact True.intro | exact rfl | exact qP | fail)
    refine zM [0, 1, 2, 4, 5, 7, 8, 9, 10, 11, 22, 23, 24, 33, 34, 35, 49, 50, 51, 56] (fun x : (MK → Bool) × Option MK × Nat × (Nat → Bool) => []) (fun x : (MK → Bool) × Option MK × Nat × (Nat → Bool) => [(3, oSet x.2.2.2), (4, .mp ⟨some .i64, cM (nx.getD (n + 1) fun _ => false), dM (nx.getD (n + 1) fun _ => false), fT, some (.iter x.2.2.1 x.1 x.2.1)⟩ [])]) (fun x : (MK → Bool) × Option MK × Nat × (Nat → Bool) => ∀ z, z < 1024 → x.2.2.2 z = (T z || unV x.1 (nx.getD (n + 1) fun _ => false) (fun y z => y == z) z)) (fun x : (MK → Bool) × Option MK × Nat × (Nat → Bool) => x.2.2.1) ((fun _ => false), none, cM (nx.getD (n + 1) fun _ => false), T) (fun x => qS) ?_ qL qL ?_
    ·intro z _; simp only; rw [unV_none]; simp
    rintro ⟨V, cur, c, T2⟩ r1
    simp only at r1
    repeat' (first | apply zC | apply zA | exact rfl | fail)
    refine stepnxt qS qS qR (fun hdone => ?_) (fun y c' hlt hdom hV => ?_)
    ·have hT2 : ∀ z, z < 1024 → T2 z = (T z || (nx.getD (n + 1) fun _ => false) z) := fun z hz => by rw [r1 z hz, unV_done _ hdone, stepS_id _ z hz]
     repeat' (first | apply zC | apply zB | refine zF qS qR ?_ ?_ | exact True.intro | fail)
     (refine zE qS ?_ ?_ <;> intro hb <;> have hc := hb <;> (try simp only [bF] at hc) <;> (try (exfalso; simp at hc; done)))
     repeat' (first | apply zK | apply zA | apply zB | refine zF qS qR ?_ ?_ | refine zJ qR ?_ | exact True.intro | exact rfl | fail)
     refine zR (1, T2) ?_ ?_ ⟨rfl, qL, qL⟩
     ·exact ⟨by simp only; omega, fun z hz => by simp only; rw [hT2 z hz, p2 z hz]; simp⟩
     ·simp only; omega
    ·obtain ⟨y0, hy0, hy, hS0⟩ := dM_inv hdom
     obtain rfl : y = (y0 : Int) := by simpa using hy
     have u1 := add_dM T2 _ hy0
     have u2 := add_cM T2 _ hy0
     repeat' (first | apply zC | apply zB | refine zF qS qR ?_ ?_ | exact True.intro | fail)
     (refine zE qS ?_ ?_ <;> intro hb <;> have hc := hb <;> (try simp only [bF] at hc) <;> (try (exfalso; simp at hc; done)))
     repeat' (first | apply zC | apply zG | apply zD | apply zK | apply zA | apply zB | refine zF (by simp only [go_sem, u1, u2]; rfl) qR ?_ ?_ | refine stepmu (by simp only [go_sem, u1, u2]; rfl) ?_ ?_ ?_ | refine stepent (by simp only [go_sem, u1, u2]; rfl) (by simp only [go_sem, u1, u2]; rfl) (by simp only [go_sem, u1, u2]; rfl) ?_ | exact True.intro | exact rfl | fail)
     ·exact ⟨Nat.lt_of_le_of_lt (cM_le T2) (by decide), trivial⟩
     refine zR (addK (.i (y0 : Int)) V, some (.i (y0 : Int)), c', insS y0 T2) ?_ ?_ ⟨rfl, qL, qL⟩
     ·intro z hz
      simp only [insS]
      rw [r1 z hz, unV_add _ hy0 hS0, show (z == y0) = (y0 == z) from by rw [Bool.eq_iff_iff, beq_iff_eq, beq_iff_eq]; exact ⟨Eq.symm, Eq.symm⟩]
      rw [Bool.or_comm, Bool.or_assoc]
     ·exact hlt
   | 1, _ =>
    repeat' (first | apply zC | apply zA | apply zB | refine zF qS qR ?_ ?_ | exact True.intro | exact rfl | fail)
    (refine zE qS ?_ ?_ <;> intro hb <;> have hc := hb <;> (try simp only [bF] at hc) <;> (try (exfalso; simp at hc; done)))
    repeat' (first | apply zC | apply zG | apply zD | apply zA | apply zB | refine zF qS qR ?_ ?_ | refine steprng qS qS qS ?_ | exact True.intro | exact rfl | exact qP | fail)
    refine zM [0, 1, 2, 4, 5, 7, 8, 9, 10, 11, 22, 23, 24, 33, 34, 35, 49, 50, 51, 56] (fun x : (MK → Bool) × Option MK × Nat × (Nat → Bool) => []) (fun x : (MK → Bool) × Option MK × Nat × (Nat → Bool) => [(3, oSet x.2.2.2), (4, .mp ⟨some .i64, cM (aft s l d (ms.getD j default) (met.getD n fun _ => false)), dM (aft s l d (ms.getD j default) (met.getD n fun _ => false)), fT, some (.iter x.2.2.1 x.1 x.2.1)⟩ [])]) (fun x : (MK → Bool) × Option MK × Nat × (Nat → Bool) => ∀ z, z < 1024 → x.2.2.2 z = (T z || unV x.1 (aft s l d (ms.getD j default) (met.getD n fun _ => false)) (fun y z => y == z) z)) (fun x : (MK → Bool) × Option MK × Nat × (Nat → Bool) => x.2.2.1) ((fun _ => false), none, cM (aft s l d (ms.getD j default) (met.getD n fun _ => false)), T) (fun x => qS) ?_ qL qL ?_
    ·intro z _; simp only; rw [unV_none]; simp
    rintro ⟨V, cur, c, T2⟩ r1
    simp only at r1
    repeat' (first | apply zC | apply zA | exact rfl | fail)
    refine stepnxt qS qS qR (fun hdone => ?_) (fun y c' hlt hdom hV => ?_)
    ·have hT2 : ∀ z, z < 1024 → T2 z = (T z || (aft s l d (ms.getD j default) (met.getD n fun _ => false)) z) := fun z hz => by rw [r1 z hz, unV_done _ hdone, stepS_id _ z hz]
     repeat' (first | apply zC | apply zB | refine zF qS qR ?_ ?_ | exact True.intro | fail)
     (refine zE qS ?_ ?_ <;> intro hb <;> have hc := hb <;> (try simp only [bF] at hc) <;> (try (exfalso; simp at hc; done)))
     repeat' (first | apply zK | apply zA | apply zB | refine zF qS qR ?_ ?_ | refine zJ qR ?_ | exact True.intro | exact rfl | fail)
     refine zR (2, T2) ?_ ?_ ⟨rfl, qL, qL⟩
     ·exact ⟨by simp only; omega, fun z hz => by simp only; rw [hT2 z hz, p2 z hz]; simp⟩
     ·simp only; omega
    ·obtain ⟨y0, hy0, hy, hS0⟩ := dM_inv hdom
     obtain rfl : y = (y0 : Int) := by simpa using hy
     have u1 := add_dM T2 _ hy0
     have u2 := add_cM T2 _ hy0
     repeat' (first | apply zC | apply zB | refine zF qS qR ?_ ?_ | exact True.intro | fail)
     (refine zE qS ?_ ?_ <;> intro hb <;> have hc := hb <;> (try simp only [bF] at hc) <;> (try (exfalso; simp at hc; done)))
     repeat' (first | apply zC | apply zG | apply zD | apply zK | apply zA | apply zB | refine zF (by simp only [go_sem, u1, u2]; rfl) qR ?_ ?_ | refine stepmu (by simp only [go_sem, u1, u2]; rfl) ?_ ?_ ?_ | refine stepent (by simp only [go_sem, u1, u2]; rfl) (by simp only [go_sem, u1, u2]; rfl) (by simp only [go_sem, u1, u2]; rfl) ?_ | exact True.intro | exact rfl | fail)
     ·exact ⟨Nat.lt_of_le_of_lt (cM_le T2) (by decide), trivial⟩
     refine zR (addK (.i (y0 : Int)) V, some (.i (y0 : Int)), c', insS y0 T2) ?_ ?_ ⟨rfl, qL, qL⟩
     ·intro z hz
      simp only [insS]
      rw [r1 z hz, unV_add _ hy0 hS0, show (z == y0) = (y0 == z) from by rw [Bool.eq_iff_iff, beq_iff_eq, beq_iff_eq]; exact ⟨Eq.symm, Eq.symm⟩]
      rw [Bool.or_comm, Bool.or_assoc]
     ·exact hlt
   | 2, _ =>
    repeat' (first | apply zC | apply zA | apply zB | refine zF qS qR ?_ ?_ | exact True.intro | exact rfl | fail)
    (refine zE qS ?_ ?_ <;> intro hb <;> have hc := hb <;> (try simp only [bF] at hc) <;> (try (exfalso; simp at hc; done)))
    repeat' (first | apply zA | refine zF qS qR ?_ ?_ | refine zJ qR ?_ | exact rfl | exact qP | fail)
    refine runL_frz 3 qS ?_
    repeat' (first | apply zK | apply zA | apply zB | refine zF (by simp only [go_sem, e1]; rfl) qR ?_ ?_ | exact True.intro | exact rfl | fail)
    have hq := q3 (n + 1) (by omega)
    rw [if_neg (by omega)] at hq
    have hE : eSet T = eSet (orS (met.getD (n + 1) noneS) (aft s l d (ms.getD j default) (met.getD n noneS))) := eSet_ext fun z hz => by
     rw [p2 z hz]
     simp only [orS, ← hq]
     rfl
    refine zQ (o' := .acc 103 1 (nx.set (n + 1) (orS (met.getD (n + 1) noneS) (aft s l d (ms.getD j default) (met.getD n noneS)))).length (fun i => eSet ((nx.set (n + 1) (orS (met.getD (n + 1) noneS) (aft s l d (ms.getD j default) (met.getD n noneS)))).getD i fun _ => false))) 1 qR (ole_set nx (n + 1) _ (by omega) hE) ?_
    refine zR (n + 1, nx.set (n + 1) (orS (met.getD (n + 1) noneS) (aft s l d (ms.getD j default) (met.getD n noneS)))) ?_ ?_ ⟨rfl, qL, qL⟩
    ·refine ⟨⟨by simp only; omega, by simp [q2]⟩, fun i hi => ?_⟩
     simp only
     by_cases hin : i = n + 1
     ·subst hin
      rw [if_pos (by omega), List.getD_eq_getElem?_getD, List.getElem?_set_self (by omega)]
      rfl
     ·have h' : ¬ n + 1 = i := fun hc => hin hc.symm
      rw [List.getD_eq_getElem?_getD, List.getElem?_set_ne h', ← List.getD_eq_getElem?_getD, q3 i hi]
      by_cases hh : 0 < i ∧ i ≤ n
      ·rw [if_pos hh, if_pos (by omega)]
      ·rw [if_neg hh, if_neg (by omega)]
    ·simp only; omega
  ·have hnl : n = met.length := by omega
   have hnx : nx = stepM (aft s l d (ms.getD j default)) met := list_ext_getD (by rw [q2, stepM_len]) fun i hi => by
    rw [q3 i (by omega), stepM_get _ _ _ (by omega)]
    by_cases h0 : i = 0
    ·subst h0; rw [if_neg (by omega), if_pos rfl]
    ·rw [if_pos (by omega), if_neg h0]
   repeat' (first | refine zN 1 qS ?_ | apply zK | apply zA | apply zB | refine zF qS qR ?_ ?_ | refine zJ qR ?_ | exact True.intro | exact rfl | fail)
   refine zR (j + 1, nx) ?_ ?_ ⟨rfl, qL, qL⟩
   ·refine ⟨⟨by simp only; omega, by simp only; omega⟩, ?_⟩
    simp only
    rw [hnx, g3, ← foldM_snoc, List.take_add_one, List.getElem?_eq_getElem hj, List.map_append, List.getD_eq_getElem?_getD, List.getElem?_eq_getElem hj]
    rfl
   ·simp only; omega
 ·clear ih
  have hjm : ms.take j = ms := List.take_of_length_le (by omega)
  rw [hjm] at g3
  have hS : someS (ms.map (aft s l d)) least S = fun z => (met.drop (if ((met.length : Nat) : Int) < least then ((met.length : Nat) : Int) else least).toNat).any fun m => m z := by funext z; simp only [someS, ← g3]
  rw [hS]
  clear hS g3
  repeat' (first | apply zC | apply zD | apply zA | apply zB | refine zF qS qR ?_ ?_ | refine stepmk (fT) qS qS ?_ | refine zJ qR ?_ | exact True.intro | exact rfl | exact qP | fail)
  generalize hbb : (if ((met.length : Nat) : Int) < least then ((met.length : Nat) : Int) else least).toNat = b
  have hb2 : b ≤ met.length := by rw [← hbb]; split <;> omega
  refine zQ (o' := oSet (fun _ => false)) 1 qR (ole_eq noneE) ?_
  refine zM [0, 1, 2, 4, 15, 79, 80] (fun x : Nat × (Nat → Bool) => [(81, .int .i64 x.1)]) (fun x : Nat × (Nat → Bool) => [(1, oSet x.2)]) (fun x : Nat × (Nat → Bool) => x.1 ≤ met.length - b ∧ ∀ z, z < 1024 → x.2 z = ((met.drop b).take x.1).any fun m => m z) (fun x : Nat × (Nat → Bool) => met.length - b - x.1) (0, fun _ => false) (fun x => qS) ?_ qL qL ?_
  ·exact ⟨Nat.zero_le _, fun z _ => by simp⟩
  rintro ⟨i, T⟩ ⟨p1, p2⟩
  simp only at p1 p2
  repeat' (first | apply zC | apply zA | apply zB | refine zF qS qR ?_ ?_ | exact True.intro | exact rfl | fail)
  (refine zE qS ?_ ?_ <;> intro hb <;> have hc := hb <;> (try simp only [bF] at hc) <;> (try (exfalso; simp at hc; done)))
  ·have hi : i < met.length - b := by assumption
   have htk : ∀ z, (((met.drop b).take (i + 1)).any fun m => m z) = ((((met.drop b).take i).any fun m => m z) || (met.getD (b + i) fun _ => false) z) := fun z => by
    have h1 : (met.drop b)[i]? = some (met.getD (b + i) fun _ => false) := by
     rw [List.getElem?_drop, List.getD_eq_getElem?_getD, List.getElem?_eq_getElem (by omega)]; rfl
    rw [List.take_add_one, h1, List.any_append]
    simp
   repeat' (first | apply zC | apply zG | apply zD | apply zA | apply zB | refine zF qS qR ?_ ?_ | refine steprng qS qS qS ?_ | exact True.intro | exact rfl | exact qP | fail)
   refine zM [0, 1, 2, 4, 15, 79, 80, 81, 86] (fun x : (MK → Bool) × Option MK × Nat × (Nat → Bool) => []) (fun x : (MK → Bool) × Option MK × Nat × (Nat → Bool) => [(1, oSet x.2.2.2), (2, .mp ⟨some .i64, cM (met.getD (b + i) fun _ => false), dM (met.getD (b + i) fun _ => false), fT, some (.iter x.2.2.1 x.1 x.2.1)⟩ [])]) (fun x : (MK → Bool) × Option MK × Nat × (Nat → Bool) => ∀ z, z < 1024 → x.2.2.2 z = (T z || unV x.1 (met.getD (b + i) fun _ => false) (fun y z => y == z) z)) (fun x : (MK → Bool) × Option MK × Nat × (Nat → Bool) => x.2.2.1) ((fun _ => false), none, cM (met.getD (b + i) fun _ => false), T) (fun x => qS) ?_ qL qL ?_
   ·intro z _; simp only; rw [unV_none]; simp
   rintro ⟨V, cur, c, T2⟩ r1
   simp only at r1
   repeat' (first | apply zC | apply zA | exact rfl | fail)
   refine stepnxt qS qS qR (fun hdone => ?_) (fun y c' hlt hdom hV => ?_)
   ·have hT2 : ∀ z, z < 1024 → T2 z = (T z || (met.getD (b + i) fun _ => false) z) := fun z hz => by rw [r1 z hz, unV_done _ hdone, stepS_id _ z hz]
    repeat' (first | apply zC | apply zB | refine zF qS qR ?_ ?_ | exact True.intro | fail)
    (refine zE qS ?_ ?_ <;> intro hb <;> have hc := hb <;> (try simp only [bF] at hc) <;> (try (exfalso; simp at hc; done)))
    repeat' (first | apply zK | apply zA | apply zB | refine zF qS qR ?_ ?_ | refine zJ qR ?_ | exact True.intro | exact rfl | fail)
    refine zR (i + 1, T2) ?_ ?_ ⟨rfl, qL, qL⟩
    ·exact ⟨by simp only; omega, fun z hz => by simp only; rw [hT2 z hz, p2 z hz, htk z]⟩
    ·simp only; omega
   ·obtain ⟨y0, hy0, hy, hS0⟩ := dM_inv hdom
    obtain rfl : y = (y0 : Int) := by simpa using hy
    have u1 := add_dM T2 _ hy0
    have u2 := add_cM T2 _ hy0
    repeat' (first | apply zC | apply zB | refine zF qS qR ?_ ?_ | exact True.intro | fail)
    (refine zE qS ?_ ?_ <;> intro hb <;> have hc := hb <;> (try simp only [bF] at hc) <;> (try (exfalso; simp at hc; done)))
    repeat' (first | apply zC | apply zG | apply zD | apply zK | apply zA | apply zB | refine zF (by simp only [go_sem, u1, u2]; rfl) qR ?_ ?_ | refine stepmu (by simp only [go_sem, u1, u2]; rfl) ?_ ?_ ?_ | refine stepent (by simp only [go_sem, u1, u2]; rfl) (by simp only [go_sem, u1, u2]; rfl) (by simp only [go_sem, u1, u2]; rfl) ?_ | exact True.intro | exact rfl | fail)
    ·exact ⟨Nat.lt_of_le_of_lt (cM_le T2) (by decide), trivial⟩
    refine zR (addK (.i (y0 : Int)) V, some (.i (y0 : Int)), c', insS y0 T2) ?_ ?_ ⟨rfl, qL, qL⟩
    ·intro z hz
     simp only [insS]
     rw [r1 z hz, unV_add _ hy0 hS0, show (z == y0) = (y0 == z) from by rw [Bool.eq_iff_iff, beq_iff_eq, beq_iff_eq]; exact ⟨Eq.symm, Eq.symm⟩]
     rw [Bool.or_comm, Bool.or_assoc]
    ·exact hlt
  ·have hE : eSet T = eSet (fun z => (met.drop b).any fun m => m z) := eSet_ext fun z hz => by
    rw [p2 z hz, List.take_of_length_le (by rw [List.length_drop]; omega)]
   rw [← hE]
   repeat' (first | refine zN 1 qS ?_ | apply zC | apply zA | apply zB | refine zF qS qR ?_ ?_ | refine zI qR ?_ | refine zJ qR ?_ | exact True.intro | exact rfl | exact SLe0.pure rfl | fail)
   all_goals skip
end Go.Sx
