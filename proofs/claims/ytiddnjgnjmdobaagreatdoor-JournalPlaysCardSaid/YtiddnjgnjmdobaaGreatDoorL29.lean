/- Part of the proofs that the laws of the journal return true for every input: L29. -/
import Derived.Test.YtiddnjgnjmdobaaGreatDoorL28
import Derived.Test.YtiddnjgnjmdobaaGreatDoorL7
import Derived.Test.YtiddnjgnjmdobaaGreatDoorL16
import Derived.Test.YtiddnjgnjmdobaaGreatDoorL23
set_option linter.unusedVariables false
set_option linter.unusedSimpArgs false
set_option linter.all false
/-! L29: the pieces of a text, as strings.SplitAfterSeq yields them. -/
namespace Go.Sx
open Go.Proofs Go.RowKit
attribute [local irreducible] Run RunL RunD OpT SLe0 SLe OLe
set_option maxHeartbeats 2000000
set_option maxRecDepth 8000
set_option linter.unusedSimpArgs false
set_option linter.unusedVariables false
def picF : Nat → List UInt8 → List (List UInt8)
  | 0, l => [l]
  | n + 1, l => match cutL 10 l with
    | none => [l]
    | some (a, b) => (a ++ [10]) :: picF n b
theorem picF_more : ∀ (n j : Nat) (l : List UInt8), l.length ≤ n → picF n l = picF (n + j) l
  | 0, j, l, h => by
    have : l = [] := List.eq_nil_of_length_eq_zero (by omega)
    subst this
    cases j <;> simp [picF, cutL]
  | n + 1, j, l, h => by
    rw [show n + 1 + j = (n + j) + 1 by omega]
    simp only [picF]
    cases hc : cutL 10 l with
    | none => rfl
    | some p =>
      obtain ⟨a, b⟩ := p
      obtain ⟨_, q2, _⟩ := cutL_some _ _ _ _ hc
      have hl := congrArg List.length q2
      simp only [List.length_append, List.length_cons] at hl
      simp only [picF_more n j b (by omega)]
def picL (l : List UInt8) : List (List UInt8) := picF l.length l
theorem picL_none (l : List UInt8) (h : cutL 10 l = none) : picL l = [l] := by
  unfold picL
  cases l.length <;> simp [picF, h]
theorem picL_some (l a b : List UInt8) (h : cutL 10 l = some (a, b)) : picL l = (a ++ [10]) :: picL b := by
  obtain ⟨_, q2, _⟩ := cutL_some _ _ _ _ h
  have hl := congrArg List.length q2
  simp only [List.length_append, List.length_cons] at hl
  unfold picL
  rw [show l.length = b.length + a.length + 1 by omega]
  simp only [picF, h]
  rw [picF_more b.length a.length b (Nat.le_refl _)]
def tsB (s t : ByteArray) : ByteArray := if sufB s t then s.extract 0 (s.size - t.size) else s
/-- The record that a piece says, if it is a line. -/
def lineR (x : List UInt8) : Option ByteArray :=
  if (spN 2 (L (tsB (B x) (B [10])))).length < 3 then none
  else if liB (B (unL ((spN 2 (L (tsB (B x) (B [10])))).getD 2 []))) = B x then some (B (unL ((spN 2 (L (tsB (B x) (B [10])))).getD 2 []))) else none
def recO' (ps : List ByteArray) (x : List UInt8) : List ByteArray := ps ++ (lineR x).toList
@[go_sem] def eV : OB := .var [.acc 1001]
@[go_sem] def eA (ps : List ByteArray) : OB := .acc 9 1 ps.length (psF ps)
def R2 (r1 r2 : LR) : List SD → List OB → SD → List (Nat × OB) → Prop := fun ds os d os' => ∃ (x : ByteArray) (ps : List ByteArray) (rest : ByteArray), (x.size ≤ 400000000 ∧ ps.length ≤ 50000000000) ∧ ds = [.str x] ∧ os = [eV, eA ps, recO r1 .ready none, .var [.str rest], recO r2 .ready none] ∧
    d = .bool true ∧ os' = [(1000, eV), (1001, eA (recO' ps (L x))), (1002, recO r1 .ready none), (1003, .var [.str rest]), (1004, recO r2 .ready none)]
attribute [go_sem] recO rawOB
theorem recO'_len (ps : List ByteArray) (x : List UInt8) : (recO' ps x).length ≤ ps.length + 1 := by
  unfold recO'
  cases lineR x <;> simp
theorem K68 (r1 r2 : LR) (h0 : Hp) (bl : List Nat) (hbl : bl.length = 5) (Y : YldMA Tryz.prog r2.l h0 bl (R2 r1 r2)) :
    FnMA Tryz.prog 68 h0 bl (fun ds os d os' => ∃ (s : ByteArray) (ps : List ByteArray), (s.size ≤ 400000000 ∧ ps.length + s.size ≤ 50000000000) ∧ ds = [.yld r2.l, .fp [.str (B [10])], .loc 1003 0, .fp [.int .i64 1]] ∧ os = [eV, eA ps, recO r1 .ready none, .var [.str s], recO r2 .ready none] ∧
      d = .tup [] ∧ os' = [(1000, eV), (1001, eA ((picL (L s)).foldl recO' ps)), (1002, recO r1 .ready none), (1003, .var [.any]), (1004, recO r2 .ready none)]) := by
  obtain ⟨b0, b1, b2, b3, b4, rfl⟩ : ∃ b0 b1 b2 b3 b4, bl = [b0, b1, b2, b3, b4] := by
    match bl, hbl with
    | [b0, b1, b2, b3, b4], _ => exact ⟨b0, b1, b2, b3, b4, rfl⟩
  refine fn_introMA Tryz.call68 Tryz.func68 rfl Tryz.ntmps68 ?_
  rintro ds os d os' ⟨s, ps, hs, rfl, rfl, rfl, rfl⟩
  refine ⟨by simp, by simp, fun F w0 han => ?_⟩
  have h1 : (B [10]).size = 1 := rfl
  have h2 : (((B [10]).size : Nat) : Int) = 1 := rfl
  repeat' (first | apply run_seq | apply run_skip | apply run_block | apply run_region | apply runL_nil | refine runxP (by simp only [go_sem, h1, h2]; rfl) (by rfl) ?_ ?_ | (refine run_cond (by simp only [go_sem, h1, h2]; rfl) ?_ ?_ <;> intro hb <;> have hc := hb <;> (try simp only [decide_eq_true_eq, decide_eq_false_iff_not, Int.not_lt, Int.not_le, Int.ofNat_lt, Int.ofNat_le, Bool.and_eq_true, Bool.or_eq_true, Bool.or_eq_false_iff, Bool.not_eq_true', Bool.not_eq_false', beq_iff_eq, beq_eq_false_iff_ne, bne_iff_ne, bne_eq_false_iff_eq] at hc) <;> (try (exfalso; simp at hc; done))) | exact True.intro | exact rfl)
  refine run_loopK [0, 1, 2, 3] (fun x : ByteArray × List ByteArray => []) (fun x : ByteArray × List ByteArray => [(1000, eV), (1001, eA x.2), (1002, recO r1 .ready none), (1003, .var [.str x.1]), (1004, recO r2 .ready none)]) (fun x : ByteArray × List ByteArray => x.1.size ≤ 400000000 ∧ (picL (L x.1)).foldl recO' x.2 = (picL (L s)).foldl recO' ps ∧ x.2.length + x.1.size ≤ 50000000000) (fun x : ByteArray × List ByteArray => x.1.size) (s, ps) (fun x => by simp only [go_sem]; rfl) ?_ (by simp only [go_sem]; repeat' (first | exact trivial | exact True.intro | exact SLe.refl _ | exact OLe.refl _ | exact ⟨_, rfl, OLe.refl _⟩ | refine ⟨_, rfl, ?_⟩ | refine OLe.var ?_ | (show SLeL _ _; refine ⟨?_, ?_⟩) | (show SLeL [] []; exact True.intro) | (refine SLe.int ?_; rw [w64]; omega) | refine SLe.int ?_ | refine SLe.bool ?_ | apply And.intro)) (by simp only [go_sem]; repeat' (first | exact trivial | exact True.intro | exact SLe.refl _ | exact OLe.refl _ | exact ⟨_, rfl, OLe.refl _⟩ | refine ⟨_, rfl, ?_⟩ | refine OLe.var ?_ | (show SLeL _ _; refine ⟨?_, ?_⟩) | (show SLeL [] []; exact True.intro) | (refine SLe.int ?_; rw [w64]; omega) | refine SLe.int ?_ | refine SLe.bool ?_ | apply And.intro)) ?_
  · exact ⟨hs.1, rfl, hs.2⟩
  rintro ⟨t, qs⟩ ⟨g1, g2, g3⟩
  simp only at g1 g2 g3
  cases hc0 : cutL 10 (L t) with
  | none =>
    have hix := cutL_none _ _ hc0
    have hp := picL_none _ hc0
    repeat' (first | apply run_seq | apply run_block | apply run_region | apply runL_nil | refine runxP (by simp only [go_sem, hix]; rfl) (by rfl) ?_ ?_ | refine stepcall K70 (by simp only [go_sem, hix]; first | done | rfl) ?_ ⟨t, 10, rfl, rfl⟩ (by simp only [go_sem, hix]; rfl) ?_ | refine stepcallYA [1000, 1001, 1002, 1003, 1004] Y (by first | (simp only [go_sem, hix]; done) | (simp only [go_sem, hix]; rfl)) han (by rfl) (by rfl) (by simp only [go_sem, hix]; first | done | rfl) (by first | (simp only [go_sem, hix]; done) | rfl) (by first | (simp only [go_sem, hix]; done) | (simp only [go_sem, hix]; rfl)) ?_ ⟨t, qs, t, ⟨g1, by omega⟩, rfl, rfl, rfl, rfl⟩ (by simp only [go_sem, hix]; rfl) ?_ | (refine run_cond (by simp only [go_sem, hix]; rfl) ?_ ?_ <;> intro hb <;> have hc := hb <;> (try simp only [decide_eq_true_eq, decide_eq_false_iff_not, Int.not_lt, Int.not_le, Int.ofNat_lt, Int.ofNat_le, Bool.and_eq_true, Bool.or_eq_true, Bool.or_eq_false_iff, Bool.not_eq_true', Bool.not_eq_false', beq_iff_eq, beq_eq_false_iff_ne, bne_iff_ne, bne_eq_false_iff_eq] at hc) <;> (try (exfalso; simp at hc; done))) | refine run_exit (by rfl) ?_ | exact True.intro | exact rfl)
    rw [hp] at g2
    simp only [List.foldl] at g2
    rw [g2]
    refine run_endM (by rfl) ?_ ?_
    · repeat' (first | exact SLe.refl _)
    · (show subO _ _; simp only [go_sem]; repeat' (first | exact SLe.any1 | exact trivial | exact True.intro | exact SLe.refl _ | exact OLe.refl _ | exact ⟨_, rfl, OLe.refl _⟩ | refine ⟨_, rfl, ?_⟩ | refine OLe.var ?_ | (show SLeL _ _; refine ⟨?_, ?_⟩) | (show SLeL [] []; exact True.intro) | (refine SLe.int ?_; rw [w64]; omega) | refine SLe.int ?_ | refine SLe.bool ?_ | apply And.intro))
  | some p =>
    obtain ⟨a, b⟩ := p
    obtain ⟨hix, hr, hna⟩ := cutL_some _ _ _ _ hc0
    have hp := picL_some _ _ _ hc0
    have hrl : a.length + 1 + b.length = t.size := by rw [size_L, hr]; simp; omega
    have e6 : IntKind.i64.wrap ((a.length : Int) + 1) = ((a.length + 1 : Nat) : Int) := by rw [w64]; omega
    have q1 : L (t.extract (a.length + 1) t.size) = b := by
      rw [L_extract, hr, List.take_of_length_le (by simp; omega), show a.length + 1 = (a ++ [10]).length by simp, show a ++ 10 :: b = (a ++ [10]) ++ b by simp, List.drop_left]
    have q2 : L (t.extract 0 (a.length + 1)) = a ++ [10] := by
      rw [L_extract, hr, List.drop_zero, Nat.sub_zero, show a.length + 1 = (a ++ [10]).length by simp, show a ++ 10 :: b = (a ++ [10]) ++ b by simp, List.take_left]
    have q3 : (t.extract 0 (a.length + 1)).size ≤ 400000000 := by rw [size_L, q2]; simp; omega
    repeat' (first | apply run_seq | apply run_skip | apply run_block | apply run_blk | apply run_region | apply runL_nil | refine runxP (by simp only [go_sem, hix, h1, h2, e6]; rfl) (by rfl) ?_ ?_ | refine stepcall K70 (by simp only [go_sem, hix, h1, h2, e6]; first | done | rfl) ?_ ⟨t, 10, rfl, rfl⟩ (by simp only [go_sem, hix, h1, h2, e6]; rfl) ?_ | refine stepcallYA [1000, 1001, 1002, 1003, 1004] Y (by first | (simp only [go_sem, hix, h1, h2, e6]; done) | (simp only [go_sem, hix, h1, h2, e6]; rfl)) han (by rfl) (by rfl) (by simp only [go_sem, hix, h1, h2, e6]; first | done | rfl) (by first | (simp only [go_sem, hix, h1, h2, e6]; done) | rfl) (by first | (simp only [go_sem, hix, h1, h2, e6]; done) | (simp only [go_sem, hix, h1, h2, e6]; rfl)) ?_ ⟨t.extract 0 (a.length+1), qs, t, ⟨q3, by omega⟩, rfl, rfl, rfl, rfl⟩ (by simp only [go_sem, hix, h1, h2, e6]; rfl) ?_ | (refine run_cond (by simp only [go_sem, hix, h1, h2, e6]; rfl) ?_ ?_ <;> intro hb <;> have hc := hb <;> (try simp only [decide_eq_true_eq, decide_eq_false_iff_not, Int.not_lt, Int.not_le, Int.ofNat_lt, Int.ofNat_le, Bool.and_eq_true, Bool.or_eq_true, Bool.or_eq_false_iff, Bool.not_eq_true', Bool.not_eq_false', beq_iff_eq, beq_eq_false_iff_ne, bne_iff_ne, bne_eq_false_iff_eq] at hc) <;> (try (exfalso; simp at hc; done))) | refine run_exit (by rfl) ?_ | refine run_lp (t.extract (a.length+1) t.size,recO' qs (L (t.extract 0 (a.length+1)))) ?_ ?_ ⟨rfl, by simp only [go_sem]; repeat' (first | exact trivial | exact True.intro | exact SLe.refl _ | exact OLe.refl _ | exact ⟨_, rfl, OLe.refl _⟩ | refine ⟨_, rfl, ?_⟩ | refine OLe.var ?_ | (show SLeL _ _; refine ⟨?_, ?_⟩) | (show SLeL [] []; exact True.intro) | (refine SLe.int ?_; rw [w64]; omega) | refine SLe.int ?_ | refine SLe.bool ?_ | apply And.intro), by simp only [go_sem]; repeat' (first | exact trivial | exact True.intro | exact SLe.refl _ | exact OLe.refl _ | exact ⟨_, rfl, OLe.refl _⟩ | refine ⟨_, rfl, ?_⟩ | refine OLe.var ?_ | (show SLeL _ _; refine ⟨?_, ?_⟩) | (show SLeL [] []; exact True.intro) | (refine SLe.int ?_; rw [w64]; omega) | refine SLe.int ?_ | refine SLe.bool ?_ | apply And.intro)⟩ | exact True.intro | exact rfl | omega | (show allP _; first | exact True.intro | (simp only [allP, go_sem, Bool.not_eq_true', Bool.not_eq_false', implies_true, true_and, and_true, and_self, imp_self]; done) | (simp [allP, go_sem]; done) | (simp [allP, go_sem] at *; first | done | assumption | omega | (simp_all; done)) | (simp only [allP, go_sem]; intros; simp_all; done) | (simp only [allP, go_sem, ByteArray.size_append, size_mk, List.size_toArray, List.length_append, List.length_cons, List.length_nil, and_true, true_and]; (repeat' apply And.intro) <;> omega)))
    · refine ⟨by simp only; rw [size_L, q1]; omega, ?_, ?_⟩
      · simp only
        rw [q1, q2, ← g2, hp]
        rfl
      · have := recO'_len qs (L (t.extract 0 (a.length + 1)))
        simp only
        rw [size_L (t.extract (a.length + 1) t.size), q1]
        omega
    · simp only
      rw [size_L, q1]; omega
end Go.Sx
