/- Lemmas on the judge: SxMv. -/
import Derived.Test.YtmbocmonhcplhaaGreatS4
import Derived.Test.YtmbocmonhcplhaaGreatS3
set_option linter.all false
namespace Go.Sx
open Go.RowKit
section
variable {P : Program} {F : List Nat} {w0 : Base} {s : St} {Q : Exit -> Act -> World -> Prop} {l : List Oper} {s0 : St} {rs : List Rec} {id : Nat}
theorem zUo {f t j : Nat} {caps : List SD} {args : Array Operand} {tys : Array Nat} {ty : Nat} {pos : String} {af : Array Edge} {R : List SD -> List OB -> SD -> List (Nat × OB) -> Prop} {ks : List Nat} {ds : List SD} {os : List OB} {d : SD} {os' : List (Nat × OB)} {s' : St} {ops : Array Oper} (hf : FnM P f R) (hj : lkp s.sl j = .fn f caps)
  (ha : zHn (tau ks) (args.toList.map (unG s) ++ caps) = ds) (hal : zCq (fun x => zB8 x ks) (fun x => zB8 x ks) (args.toList.map (unG s) ++ caps) = true) (ho : zMa s ks ks = some os) (hg : zAl (gCs s args.toList [])) (hR : R ds os d os')
  (hs : zLw s t ks os d os' = some s') : zIa P F w0 ops s.n ⟨some t, .call ⟨.value (.tmp j), args, tys⟩, ty, pos, af, none⟩ (zJ3 s t (.tmp j :: args.toList) ks d os') /\ Leq s' ((zJ3 s t (.tmp j :: args.toList) ks d os').app s) := by
 unfold zLw at hs;generalize hB : zGg os' = B at hs
 generalize hcb : (Nat.blt t s.n && nodupB ks && Nat.ble (s.nx + B) 700 && allB (fun k => !zB9 s.nx B k) ks && isNil (zBn s os' 1000 ks) &&
  zDs (okb ks B) (okh ks B []) d && zVq ks B [] os' && zLm os' 1000 os) = cb at hs
 cases cb
 ·cases hs
 simp only [cond_true, zz1] at hs;simp only [zz3] at hcb;obtain ⟨⟨⟨⟨⟨⟨⟨c1, c2⟩, c3⟩, c4⟩, c5⟩, c6⟩, c7⟩, c8⟩ := hcb;subst hs;refine ⟨fun σ hn h1 h2 h3 h e a w D K Q hK => ?_, ⟨rfl, fun _ => rfl, fun _ => rfl⟩⟩;rw [if_pos (by simp [Region.wanted])];have hev := zBd (s := s) (s' := σ) (l := .tmp j :: args.toList) h1;have hj' : lkp σ.sl j = .fn f caps := (hev (.tmp j) (zym ..)).trans hj;have hv := D.slot j;rw [hj'] at hv;simp only [rep] at hv;obtain ⟨vs, hv, hcp⟩ := hv;have ha' : args.toList.map (unG σ) = args.toList.map (unG s) := List.map_congr_left fun x hx => by simp only [unG, hev x (zyc _ hx)]
 have hg' : zAl (gCs σ args.toList []) := by rw [zAn fun y hy => hev y (zyc _ hy)]; exact hg
 obtain ⟨o1, o2⟩ := zEn ho;have hi : ∀ {i : Nat} {o : OB}, os[i]? = some o -> i < ks.length := fun {i o} ho => by have := (List.getElem?_eq_some_iff.1 ho).1; rw [o1] at this; exact this
 have o2' : ∀ (i : Nat) (o : OB), os[i]? = some o -> ∃ o0, lkO σ.ow (zCw ks i) = some o0 /\ o = zJ2 (tau ks) o0 /\ zGi (fun x => zB8 x ks) (fun x => zB8 x ks) o0 = true := fun i o hio => by
  obtain ⟨o0, k1, k2, k3⟩ := o2 i o hio;exact ⟨o0, h2 (zCw ks i, o0) (zI3 (zDr (hi hio)) k1), k2, k3⟩
 have hnd := zDw c2;unfold Oper.wp;rw [zNf hf.call hv];refine (D.pass ⟨hnd, by rw [ha']; exact hal, by rw [ha']; exact ha.symm, o1, o2'⟩ hf hR (zCf (zAq D (zAm hg').1 fun _ hx => hx) hcp)).mono fun en w' hq => ?_;have hfree : ∀ k, zB9 s.nx B k = true -> Free σ k := fun k hk => h3 k (by simp only [zJ3, hB]; exact zNw hk)
 have hbad : ∀ k, (pbN s.nx B k && phN s.nx B [] k) = false -> zB9 s.nx B k = true := fun k hk => by
  cases hx : zB9 s.nx B k
  ·simp [pbN, phN, hx, zB8] at hk
  ·rfl
 have key0 : ∃ v h' e'', en = .returned v /\ Den F w0 ((zJ3 s t (.tmp j :: args.toList) ks d os').app σ) h' e'' (a.put (some t) v) w' := ?_
 ·obtain ⟨v, h', e', rfl, D'⟩ := key0
  exact hK _ _ _ _ D'
 refine D.backM (s' := (zJ3 s t (.tmp j :: args.toList) ks d os').app σ) (ks := ks) (m := s.nx) (B := B) (A := []) (os := os) (d := d) (os' := os')
  ⟨hnd, zz8 c3, fun k hk => by have := zGb c4 k hk; simpa only [Bool.not_eq_true'] using this, o1, o2', .inr (fun k hk => by cases hk), c6, c7, fun i o o' => zI2 c8 i o o'⟩
  (dst := some t) (fun t' h => by cases h; rw [hn]; exact zAk c1) rfl (fun i hi => ?_) (fun t' h => ?_) (fun k o hk => ?_) (fun k hk => by cases hk) hq
 ·have hi : ¬ i = t := fun hc => hi (by rw [hc])
  simp only [zJ3, Rec.app, zB0, hi, if_false];exact .inr ⟨trivial, zDn _ fun k hk => (hfree k (hbad k hk)).sl i⟩
 ·cases h; simp only [zJ3, Rec.app, zB0, if_true]
 ·simp only [zJ3, Rec.app, zE9, zJm, zRa] at hk
  cases hx : lkO (zFi (sgm ks s.nx) os') k with
  | some o' =>
   rw [hx] at hk;simp only [Option.map_some, zz1] at hk;subst hk;exact .inl (zEr hx)
  | none =>
   rw [hx] at hk;simp only [Option.map_none] at hk;refine .inr ?_;cases hy : lkU (zJ5 os' 1000 ks) k with
   | some x =>
    rw [hy] at hk;have := zD9 ks 1000 k x hy;subst this;cases hk
   | none =>
    rw [hy] at hk;simp only at hk
    have hkn : k ∉ ks := fun hc => by
     obtain ⟨q1, q2, q3⟩ := zLn ks k 1000 hc;have hlt : zI6 ks k 1000 - 1000 < ks.length := by omega
     cases hz : lkO os' (1000 + (zI6 ks k 1000 - 1000)) with
     | none =>
      have := zNz ks 1000 _ hlt hz hnd;rw [q3, hy] at this;cases this
     | some o' =>
      have hsg : sgm ks s.nx (1000 + (zI6 ks k 1000 - 1000)) = k := by
       have : Nat.blt (1000 + (zI6 ks k 1000 - 1000)) 1000 = false := by
        cases hb : Nat.blt (1000 + (zI6 ks k 1000 - 1000)) 1000
        ·rfl
        ·have := zAk hb; omega
       simp only [sgm, this, cond_false, Nat.add_sub_cancel_left, q3]
      have key : ∀ (l : List (Nat × OB)), lkO l (1000 + (zI6 ks k 1000 - 1000)) = some o' -> lkO (zFi (sgm ks s.nx) l) k ≠ none := fun l => by
       induction l with
       | nil => intro h; cases h
       | cons p r ih =>
        obtain ⟨j, oj⟩ := p;intro h;simp only [lkO, zFi] at h |-;cases hb : Nat.beq j (1000 + (zI6 ks k 1000 - 1000))
        ·rw [hb] at h
         cases hb2 : Nat.beq (sgm ks s.nx j) k
         ·exact ih h
         ·simp
        ·have hj := zz4 hb
         rw [hj, hsg, Nat.beq_refl];exact fun hc => by cases hc
      exact key os' hz hx
    refine ⟨hkn, ?_, o, hk, OLe.refl o, ?_⟩
    ·cases hx : zB9 s.nx B k
     ·rfl
     ·have := zCn (hfree k hx)
      rw [this] at hk;cases hk
    ·cases o with
     | var lv => exact zCl lv fun j hj => ((hfree j (hbad j hj)).ow k _ hk).2.1 lv rfl
     | acc T es n f => rfl
     | mp kd lv => exact zG0 lv fun j hj => ((hfree j (hbad j hj)).ow k _ hk).2.2 kd lv rfl
theorem zG3 {f t j : Nat} {caps : List SD} {args : Array Operand} {tys : Array Nat} {ty : Nat} {pos : String} {af : Array Edge} {R : List SD -> List OB -> SD -> List (Nat × OB) -> Prop} (ks : List Nat) {ds : List SD} {os : List OB} {d : SD} {os' : List (Nat × OB)} {s' : St} {rest : List Oper} (hf : FnM P f R) (hj : lkp s.sl j = .fn f caps)
  (_hnd : nodupB ks = true) (ha : zHn (tau ks) (args.toList.map (unG s) ++ caps) = ds) (hal : zCq (fun x => zB8 x ks) (fun x => zB8 x ks) (args.toList.map (unG s) ++ caps) = true) (ho : zMa s ks ks = some os) (hg : zAl (gCs s args.toList [])) (hR : R ds os d os')
  (hs : zLw s t ks os d os' = some s') (hn : zAs P F w0 Q id l s0 (rs ++ [zJ3 s t (.tmp j :: args.toList) ks d os']) rest s') : zAs P F w0 Q id l s0 rs (⟨some t, .call ⟨.value (.tmp j), args, tys⟩, ty, pos, af, none⟩ :: rest) s := fun K => by
 obtain ⟨h1, h2⟩ := zUo (F := F) (w0 := w0) (ops := l.toArray) (tys := tys) (ty := ty) (pos := pos) (af := af) hf hj ha hal ho hg hR hs;have g1 : ∀ p ∈ (zJ3 s t (.tmp j :: args.toList) ks d os').slots, lkp s.sl p.1 = p.2 := zBk;have g2 : ∀ p ∈ (zJ3 s t (.tmp j :: args.toList) ks d os').keys, lkO s.ow p.1 = some p.2 := zKq;generalize zJ3 s t (.tmp j :: args.toList) ks d os' = r at *;exact hn (K.snoc g1 g2 h1 h2)
end
end Go.Sx
