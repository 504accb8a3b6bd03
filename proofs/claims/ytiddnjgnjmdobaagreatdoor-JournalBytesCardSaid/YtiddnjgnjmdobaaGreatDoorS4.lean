/- Part of the proofs that the laws of the journal return true for every input: SxCv. -/
import Derived.Test.YtiddnjgnjmdobaaGreatDoorS3
set_option linter.unusedVariables false
set_option linter.unusedSimpArgs false
set_option linter.all false
/-! SxCv: 'string(b)' of a slice that stays, in a drawn region. -/
namespace Go.Sx
open Go.RowKit
section
variable {P : Program} {F : List Nat} {w0 : Base} {s s0 : St} {Q : Exit → Act → World → Prop} {id : Nat} {l : List Oper} {rs : List Rec} {rest : List Oper}
theorem sem_cv {t S T te : Nat} {n : Nat} {f : Nat → SD} {x : Operand} {ty : Nat} {pos : String} {af : Array Edge} {ops : Array Oper} (bl : List UInt8) (hx : unG s x = .list 1 n f) (hg : allP (gCs s [x] [])) (hl : n = bl.length) (hf : ∀ i, i < n → f i = byF bl i)
    (hS : P.underlying S = some (.slice te)) (he : P.underlying te = some (.int .u8)) (hT : P.underlying T = some .string) (ht : t < s.n) :
    OpSem P F w0 ops s.n ⟨some t, .convert S T x, ty, pos, af, none⟩ ⟨readS s (tmpsOf [x]), [], some t, .str ⟨bl.toArray⟩, [], []⟩ := fun σ hn h1 _ _ h e a w D K Q hK => by
  rw [if_pos (by simp [Region.wanted])]
  have hev := ev_agree (s := s) (s' := σ) (l := [x]) h1
  have hx' : unG σ x = .list 1 n f := by rw [← hx]; simp only [unG, hev x List.mem_cons_self]
  have hg' : allP (gCs σ [x] []) := by rw [gCs_agree hev]; exact hg
  subst hl
  have hv : rep h (unG σ x) e (a.eval x) := D.unG hg' (List.mem_singleton_self x)
  rw [hx'] at hv
  simp only [rep] at hv
  obtain ⟨ao, cap, h4, _, _, h6⟩ := hv
  have h5 : 0 < bl.length → ∃ b o, ao = some ⟨b, o, none⟩ ∧ ∀ j, j < bl.length → w.cell? ⟨b, o + j, none⟩ = some (.int .u8 ((bl.getD j 0).toNat : Int)) := fun hp => by
    obtain ⟨⟨b, o, sp⟩, cs, T1, fr, rfl, hsp, h7, h8⟩ := h6 hp
    simp only at hsp
    subst hsp
    refine ⟨b, o, rfl, fun j hj => ?_⟩
    obtain ⟨u, u1, u2, u3, _⟩ := h8 j hj
    have hu := u1 e
    rw [hf j hj] at hu
    simp only [byF, rep] at hu
    subst hu
    have hw := D.sub _ _ h7
    simp only at hw
    unfold World.cell?
    simp only [hw]
    have h9 : cs.toList[o + j]? = some (.int .u8 ((bl.getD j 0).toNat : Int)) := by
      have e1 : (Value.int IntKind.u8 ((bl.getD j 0).toNat : Int)).cells = #[.int .u8 ((bl.getD j 0).toNat : Int)] := rfl
      rw [e1, Nat.mul_one, cut] at u2
      have := congrArg (·[0]?) u2
      simpa using this.symm
    simpa using h9
  have hrun := conv_back (P := P) (w := w) (S := S) (T := T) (cap := cap) hS he hT h5
  unfold Oper.wp
  have hex : (execOp a.eval ⟨some t, .convert S T x, ty, pos, af, none⟩).run P w = .ok (.value (.string ⟨bl.toArray⟩)) w := by
    simp only [execOp, h4, Sem.run_bind, hrun, Result.andThen_ok]
    rfl
  rw [hex]
  exact hK _ _ _ _ (D.put (by rw [hn]; exact ht) (by simp only [rep]))
theorem runDcv {t S T te : Nat} {n : Nat} {f : Nat → SD} {x : Operand} {ty : Nat} {pos : String} {af : Array Edge} {s' : St} (bl : List UInt8) (hx : unG s x = .list 1 n f) (hg : allP (gCs s [x] [])) (hl : n = bl.length) (hf : ∀ i, i < n → f i = byF bl i)
    (hS : P.underlying S = some (.slice te)) (he : P.underlying te = some (.int .u8)) (hT : P.underlying T = some .string) (hs : cstep s t (.str ⟨bl.toArray⟩) = some s')
    (hn : RunD P F w0 Q id l s0 (rs ++ [⟨readS s (tmpsOf [x]), [], some t, .str ⟨bl.toArray⟩, [], []⟩]) rest s') : RunD P F w0 Q id l s0 rs (⟨some t, .convert S T x, ty, pos, af, none⟩ :: rest) s := fun K => by
  obtain ⟨ht, rfl⟩ := cstep_ok hs
  exact hn (K.snoc readS_ok (fun p hp => by cases hp) (sem_cv bl hx hg hl hf hS he hT ht) ⟨rfl, fun _ => rfl, fun _ => rfl⟩)
end
end Go.Sx
