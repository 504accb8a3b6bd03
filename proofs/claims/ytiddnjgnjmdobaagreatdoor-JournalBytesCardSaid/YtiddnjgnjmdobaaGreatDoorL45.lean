/- Part of the proofs that the laws of the journal return true for every input: L45. -/
import Derived.Test.YtiddnjgnjmdobaaGreatDoorL46
set_option linter.unusedVariables false
set_option linter.unusedSimpArgs false
set_option linter.all false
/-! L45: a byte of the contents that is changed (plain). -/
namespace Go.Sx
/-- The lines of records. -/
def lns (l : List ByteArray) : List UInt8 := l.flatMap fun r => lineL (L r)
def tch (n fr e : Nat) : Bool := (decide (fr ≤ n) && decide (n < e)) || decide (n + 1 = fr)
def wantF (same : Bool) (n : Nat) : Nat → List ByteArray → List ByteArray
  | _, [] => []
  | fr, r :: l => (bif !tch n fr (fr + (liB r).size) || same then [r] else []) ++ wantF same n (fr + (liB r).size) l
theorem lns_app (a b : List ByteArray) : lns (a ++ b) = lns a ++ lns b := by simp [lns]
theorem lns_cons (r : ByteArray) (b : List ByteArray) : lns (r :: b) = lineL (L r) ++ lns b := by simp [lns]
theorem liB_len (r : ByteArray) : (liB r).size = (lineL (L r)).length := size_B _
theorem recs_lns (m : List UInt8) : ∀ l : List ByteArray, recs [] (lns l ++ m) = l.map L ++ recs [] m
  | [] => rfl
  | r :: l => by rw [lns_cons, List.append_assoc, recs_line, recs_lns m l]; rfl
theorem map_BL (l : List ByteArray) : (l.map L).map B = l := by
  rw [List.map_map]
  have : (B ∘ L) = id := funext fun x => L_inj (L_B _)
  rw [this, List.map_id]
theorem lns_whole : ∀ l : List ByteArray, lns l = [] ∨ ∃ y, lns l = y ++ [10]
  | [] => .inl rfl
  | r :: l => by
    right
    rw [lns_cons]
    rcases lns_whole l with h | ⟨y, h⟩
    · exact ⟨liH (L r), by rw [h, List.append_nil, lineL_H]⟩
    · exact ⟨lineL (L r) ++ y, by rw [h, List.append_assoc]⟩
theorem whole_app (m : List UInt8) (b : List ByteArray) (h : ∃ y, m = y ++ [10]) : ∃ y, m ++ lns b = y ++ [10] := by
  rcases lns_whole b with hb | ⟨y, hb⟩
  · rw [hb, List.append_nil]; exact h
  · exact ⟨m ++ y, by rw [hb, List.append_assoc]⟩
theorem wantF_same (n : Nat) : ∀ (l : List ByteArray) (fr : Nat), wantF true n fr l = l
  | [], _ => rfl
  | r :: l, fr => by simp only [wantF, Bool.or_true, cond_true, wantF_same n l]; rfl
theorem wantF_pre (n : Nat) (m : List ByteArray) : ∀ (a : List ByteArray) (fr : Nat), fr + (lns a).length ≤ n → wantF false n fr (a ++ m) = a ++ wantF false n (fr + (lns a).length) m
  | [], fr, h => by simp [lns]
  | r :: a, fr, h => by
    rw [lns_cons, List.length_append] at h
    have h1 : tch n fr (fr + (liB r).size) = false := by
      rw [liB_len]; simp only [tch, Bool.or_eq_false_iff, Bool.and_eq_false_iff, decide_eq_false_iff_not]; omega
    simp only [List.cons_append, wantF, h1, Bool.not_false, Bool.true_or, cond_true]
    rw [wantF_pre n m a _ (by rw [liB_len]; omega), lns_cons, List.length_append, liB_len, Nat.add_assoc]; rfl
theorem wantF_post (n : Nat) : ∀ (b : List ByteArray) (fr : Nat), n + 1 < fr → wantF false n fr b = b
  | [], fr, h => rfl
  | r :: b, fr, h => by
    have h1 : tch n fr (fr + (liB r).size) = false := by
      simp only [tch, Bool.or_eq_false_iff, Bool.and_eq_false_iff, decide_eq_false_iff_not]; omega
    simp only [wantF, h1, Bool.not_false, Bool.true_or, cond_true]
    rw [wantF_post n b _ (by omega)]; rfl
theorem lns_find : ∀ (l : List ByteArray) (n : Nat), n < (lns l).length → ∃ a r b i, l = a ++ r :: b ∧ n = (lns a).length + i ∧ i < (lineL (L r)).length
  | [], n, h => by simp [lns] at h
  | r :: l, n, h => by
    by_cases h1 : n < (lineL (L r)).length
    · exact ⟨[], r, l, n, rfl, by simp [lns], h1⟩
    · rw [lns_cons, List.length_append] at h
      obtain ⟨a, r', b, i, e1, e2, e3⟩ := lns_find l (n - (lineL (L r)).length) (by omega)
      exact ⟨r :: a, r', b, i, by rw [e1]; rfl, by rw [lns_cons, List.length_append]; omega, e3⟩
/-- The contents in which a byte is another one. -/
def oddL (l : List UInt8) (n : Nat) (c : UInt8) : List UInt8 := l.take n ++ [c] ++ l.drop (n + 1)
theorem oddL_at (x y : List UInt8) (d c : UInt8) : oddL (x ++ d :: y) x.length c = x ++ c :: y := by
  unfold oddL
  rw [List.take_left, show x.length + 1 = (x ++ [d]).length by simp, show x ++ d :: y = (x ++ [d]) ++ y by simp, List.drop_left]
  simp
/-- What is found is what is wanted, or more; and then the contents say so. -/
def FoundOk (o : ByteArray) (want : List ByteArray) : Prop := rs (enD o) = want ∨ (rs (enD o) = (recs [] (L o)).map B ∧ want.length < (rs (enD o)).length)
theorem found_mid (o : ByteArray) (a b : List ByteArray) (m : List UInt8) (ho : L o = lns a ++ (m ++ lns b)) (hm : ∃ y, m = y ++ [10]) : FoundOk o (a ++ b) := by
  have hw : ∃ y, L o = y ++ [10] := by
    obtain ⟨y, hy⟩ := whole_app m b hm
    exact ⟨lns a ++ y, by rw [ho, hy, List.append_assoc]⟩
  have hl : lastN o = false := by
    obtain ⟨y, hy⟩ := hw
    rw [lastN_snoc _ _ _ hy]; rfl
  have he : enD o = o := by unfold enD; rw [hl]; rfl
  have hr : rs o = a ++ ((recs [] m).map B ++ b) := by
    unfold rs
    have hb : recs [] (lns b) = b.map L := by
      have := recs_lns [] b
      rwa [List.append_nil, show recs [] ([] : List UInt8) = [] from rfl, List.append_nil] at this
    rw [ho, recs_lns, recs_whole _ _ [] (.inr hm), hb, List.map_append, List.map_append, map_BL, map_BL]
  unfold FoundOk
  rw [he, hr]
  by_cases h : recs [] m = []
  · left; rw [h]; rfl
  · right
    refine ⟨by rw [← hr]; rfl, ?_⟩
    have := List.length_pos_iff.2 h
    simp only [List.length_append, List.length_map]; omega
theorem bytes_law (l : List ByteArray) (n : Nat) (c : UInt8) (o : ByteArray) (hn : n < (lns l).length) (ho : L o = oddL (lns l) n c) (hc : L o ≠ lns l) : FoundOk o (wantF false n 0 l) := by
  obtain ⟨a, r, b, i, rfl, hni, hi⟩ := lns_find l n hn
  have hz : (0 : Nat) + (lns a).length = (lns a).length := Nat.zero_add _
  rw [wantF_pre n (r :: b) a 0 (by omega), hz]
  have h1 : tch n (lns a).length ((lns a).length + (liB r).size) = true := by
    rw [liB_len]; simp only [tch, Bool.or_eq_true, Bool.and_eq_true, decide_eq_true_eq]; omega
  have h2 : wantF false n (lns a).length (r :: b) = wantF false n ((lns a).length + (liB r).size) b := by
    simp only [wantF, h1, Bool.not_true, Bool.false_or, cond_false, List.nil_append]
  rw [h2, liB_len]
  rw [lns_app, lns_cons] at ho hc
  have hH := lineL_H (L r)
  have hHl : (lineL (L r)).length = (liH (L r)).length + 1 := by rw [hH]; simp
  by_cases hq : i < (liH (L r)).length
  · obtain ⟨p, d, q, e1, e2⟩ : ∃ p d q, liH (L r) = p ++ d :: q ∧ p.length = i := ⟨(liH (L r)).take i, (liH (L r))[i], (liH (L r)).drop (i + 1), by rw [← List.drop_eq_getElem_cons hq, List.take_append_drop], by rw [List.length_take]; omega⟩
    rw [wantF_post n b _ (by omega)]
    refine found_mid o a b (p ++ c :: (q ++ [10])) ?_ ⟨p ++ c :: q, by simp⟩
    have e3 : lns a ++ (lineL (L r) ++ lns b) = (lns a ++ p) ++ d :: (q ++ [10] ++ lns b) := by rw [hH, e1]; simp
    have e4 : n = (lns a ++ p).length := by rw [List.length_append]; omega
    rw [ho, e3, e4, oddL_at]
    simp
  · have hie : i = (liH (L r)).length := by omega
    have e3 : lns a ++ (lineL (L r) ++ lns b) = (lns a ++ liH (L r)) ++ 10 :: lns b := by rw [hH]; simp
    have e4 : n = (lns a ++ liH (L r)).length := by rw [List.length_append]; omega
    rw [e3] at ho hc
    rw [e4, oddL_at] at ho
    cases b with
    | nil =>
      have hc10 : c ≠ 10 := fun h => hc (by rw [ho, h])
      have hw : wantF false n ((lns a).length + (lineL (L r)).length) [] = [] := rfl
      rw [hw, List.append_nil]
      left
      have ho2 : L o = (lns a ++ liH (L r)) ++ [c] := ho
      have hl : lastN o = true := by
        rw [lastN_snoc _ _ _ ho2, bne_iff_ne]
        exact fun h => hc10 (u8i c 10 (by omega) h)
      have hn10 : 10 ∉ liH (L r) ++ [c] := by
        simp only [List.mem_append, List.mem_singleton, not_or]
        exact ⟨liH_n10 _, fun h => hc10 h.symm⟩
      unfold enD rs
      rw [hl, cond_true, L_app, ho2]
      have e5 : lns a ++ liH (L r) ++ [c] ++ L (B [10]) = lns a ++ ((liH (L r) ++ [c]) ++ 10 :: []) := by
        rw [L_B]; simp
      rw [e5, recs_lns, recs_app _ _ hn10, List.nil_append, last_none, List.map_append, map_BL]
      simp [recs]
    | cons r2 b2 =>
      have h3 : tch n ((lns a).length + (lineL (L r)).length) ((lns a).length + (lineL (L r)).length + (liB r2).size) = true := by
        simp only [tch, Bool.or_eq_true, Bool.and_eq_true, decide_eq_true_eq]; omega
      have h4 : wantF false n ((lns a).length + (lineL (L r)).length) (r2 :: b2) = wantF false n ((lns a).length + (lineL (L r)).length + (liB r2).size) b2 := by
        simp only [wantF, h3, Bool.not_true, Bool.false_or, cond_false, List.nil_append]
      have h5 := lineL_min (L r2)
      rw [h4, wantF_post n b2 _ (by rw [liB_len]; omega)]
      refine found_mid o a b2 (liH (L r) ++ c :: lineL (L r2)) ?_ ⟨liH (L r) ++ c :: liH (L r2), by rw [lineL_H (L r2)]; simp⟩
      rw [ho, lns_cons]
      simp
theorem same_law (l : List ByteArray) (o : ByteArray) (ho : L o = lns l) : rs (enD o) = l := by
  have hr : rs o = l := by
    unfold rs
    have := recs_lns [] l
    rw [List.append_nil, show recs [] ([] : List UInt8) = [] from rfl, List.append_nil] at this
    rw [ho, this, map_BL]
  have hl : lastN o = false := by
    rcases lns_whole l with h | ⟨y, h⟩
    · exact lastN_nil _ (by rw [ho, h])
    · rw [lastN_snoc _ y 10 (by rw [ho, h])]; rfl
  unfold enD
  rw [hl, cond_false, hr]
/-- The two cases in one. -/
theorem found_law (l : List ByteArray) (n : Nat) (c : UInt8) (o : ByteArray) (same : Bool) (hn : n < (lns l).length) (ho : L o = oddL (lns l) n c) (hs : same = decide (L o = lns l)) : FoundOk o (wantF same n 0 l) := by
  cases same
  · exact bytes_law l n c o hn ho (of_decide_eq_false hs.symm)
  · rw [wantF_same]
    exact .inl (same_law l o (of_decide_eq_true hs.symm))
end Go.Sx
