/- Part of the proofs that the laws of the journal return true for every input: L31. -/
import Derived.Test.YtiddnjgnjmdobaaGreatDoorL29
set_option linter.unusedVariables false
set_option linter.unusedSimpArgs false
set_option linter.all false
/-! L31: the program's records are the reference's (plain). -/
namespace Go.Sx
theorem decL_no (n : Nat) : ∀ c ∈ decL n, c ≠ 32 := by
  induction n using Nat.strongRecOn with
  | _ n ih =>
    rw [decL]
    by_cases h : n < 10
    · rw [if_pos h]
      intro c hc
      simp only [List.mem_singleton] at hc
      subst hc
      intro h2
      have := congrArg UInt8.toNat h2
      simp at this
      omega
    · rw [if_neg h]
      intro c hc
      rcases List.mem_append.1 hc with hc | hc
      · exact ih (n / 10) (by omega) c hc
      · simp only [List.mem_singleton] at hc
        subst hc
        intro h2
        have := congrArg UInt8.toNat h2
        simp at this
        omega
theorem hxD_no : ∀ n : Nat, n < 16 → hxD n ≠ 32 := by decide
theorem hexL_no (l : List UInt8) : ∀ c ∈ hexL l, c ≠ 32 := by
  intro c hc
  simp only [hexL, List.mem_flatMap, List.mem_cons, List.not_mem_nil, or_false] at hc
  obtain ⟨x, _, rfl | rfl⟩ := hc
  · exact hxD_no _ (by have := x.toNat_lt; omega)
  · exact hxD_no _ (by omega)
theorem cutL_at (w rest : List UInt8) (c : UInt8) (h : ∀ x ∈ w, x ≠ c) : cutL c (w ++ c :: rest) = some (w, rest) := by
  induction w with
  | nil => simp [cutL]
  | cons a w ih =>
    simp only [List.cons_append, cutL]
    rw [if_neg (h a (by simp)), ih fun x hx => h x (by simp [hx])]
    rfl
theorem unL_esc (r : List UInt8) : unL (escL r) = r := by
  induction r with
  | nil => rfl
  | cons c r ih =>
    simp only [escL, List.flatMap_cons] at ih ⊢
    by_cases h : c = 92
    · subst h; simp only [escC, if_true, List.cons_append, List.nil_append]; rw [unL_92, ih]
    · by_cases h2 : c = 10
      · subst h2
        have : escC 10 = [92, 110] := by decide
        rw [this]; simp only [List.cons_append, List.nil_append]; rw [unL_110, ih]
      · have : escC c = [c] := by simp [escC, h, h2]
        rw [this]; simp only [List.cons_append, List.nil_append]; rw [unL_c _ _ h, ih]
theorem parse_skip (w rest : List UInt8) (bl : Nat) (hb : bl < 2) (h : ∀ x ∈ w, x ≠ 32) (hr : rest ≠ []) : parse bl (w ++ 32 :: rest) = parse (bl + 1) rest := by
  induction w with
  | nil =>
    cases rest with
    | nil => exact absurd rfl hr
    | cons b r => simp only [List.nil_append]; rw [parse_eq, if_pos hb, if_pos rfl]
  | cons a w ih =>
    have ha := h a (by simp)
    cases hw : w ++ 32 :: rest with
    | nil => simp at hw
    | cons b r =>
      simp only [List.cons_append, hw]
      rw [parse_eq, if_pos hb, if_neg ha, ← hw, ih fun x hx => h x (by simp [hx])]
theorem parse_esc (r : List UInt8) : parse 2 (escL r ++ [10]) = r := by
  induction r with
  | nil => exact parse_short _ _ (by simp [escL])
  | cons c r ih =>
    simp only [escL, List.flatMap_cons] at ih ⊢
    by_cases h : c = 92
    · subst h
      simp only [escC, if_true, List.cons_append, List.nil_append]
      rw [parse_eq, if_neg (by omega), if_neg (by simp), if_neg (by decide), ih]
    · have key : ∀ R : List UInt8, R ≠ [] → parse 2 (c :: R) = c :: parse 2 R := fun R hR => by
        cases R with
        | nil => exact absurd rfl hR
        | cons b R => rw [parse_eq, if_neg (by omega), if_pos h]
      by_cases h2 : c = 10
      · subst h2
        have : escC 10 = [92, 110] := by decide
        rw [this]
        simp only [List.cons_append, List.nil_append]
        rw [parse_eq, if_neg (by omega), if_neg (by simp), if_pos rfl, ih]
      · have : escC c = [c] := by simp [escC, h, h2]
        rw [this]
        simp only [List.cons_append, List.nil_append]
        rw [key _ (by simp), ih]
theorem parse_line (r : List UInt8) : parse 0 (lineL r) = r := by
  have h1 : lineL r = decL r.length ++ 32 :: (hexL (dgR (B r)) ++ 32 :: (escL r ++ [10])) := by simp [lineL]
  rw [h1, parse_skip _ _ 0 (by omega) (decL_no _) (by simp), parse_skip _ _ 1 (by omega) (hexL_no _) (by simp), parse_esc]
theorem tsB_10 (y : List UInt8) : tsB (B (y ++ [10])) (B [10]) = B y := by
  have h1 : (B (y ++ [10])).size = y.length + 1 := by rw [size_B]; simp
  have h2 : (B [10]).size = 1 := rfl
  have h3 : (B (y ++ [10])).extract y.length (y.length + 1) = B [10] := L_inj (by rw [L_extract, L_B, L_B, List.drop_left]; simp)
  have h4 : (B (y ++ [10])).extract 0 y.length = B y := L_inj (by rw [L_extract, L_B, L_B, List.drop_zero, Nat.sub_zero, List.take_left])
  unfold tsB sufB
  rw [h1, h2, Nat.add_sub_cancel, h3, h4]
  simp
theorem split_line (r : List UInt8) : spN 2 (L (tsB (B (lineL r)) (B [10]))) = [decL r.length, hexL (dgR (B r)), escL r] := by
  have h1 : lineL r = (decL r.length ++ 32 :: (hexL (dgR (B r)) ++ 32 :: escL r)) ++ [10] := by simp [lineL]
  rw [h1, tsB_10, L_B]
  simp only [spN, cutL_at _ _ _ (decL_no _), cutL_at _ _ _ (hexL_no _)]
theorem lineR_rec (x : List UInt8) : lineR x = (recOf x).map B := by
  by_cases h : ∃ r, lineL r = x
  · obtain ⟨r, rfl⟩ := h
    unfold recOf lineR
    rw [parse_line, if_pos rfl, split_line, if_neg (by simp)]
    have h3 : ([decL r.length, hexL (dgR (B r)), escL r] : List (List UInt8)).getD 2 [] = escL r := rfl
    rw [h3, unL_esc]
    have h4 : liB (B r) = B (lineL r) := rfl
    rw [if_pos h4]; rfl
  · have h1 : recOf x = none := by unfold recOf; exact if_neg fun hc => h ⟨_, hc⟩
    rw [h1]
    unfold lineR
    split
    · rfl
    · rw [if_neg]
      · rfl
      · intro hc
        refine h ⟨unL ((spN 2 (L (tsB (B x) (B [10])))).getD 2 []), ?_⟩
        have := congrArg L hc
        simpa [liB, L_B] using this
theorem lineR_nil : lineR [] = none := by
  unfold lineR
  rw [if_pos]
  have : tsB (B []) (B [10]) = B [] := by
    unfold tsB sufB
    rw [if_neg]
    simp [B, ByteArray.size]
  rw [this, L_B]
  simp [spN, cutL]
theorem recs_app (a b : List UInt8) (h : 10 ∉ a) : ∀ cur, recs cur (a ++ 10 :: b) = (recOf (cur ++ a ++ [10])).toList ++ recs [] b := by
  induction a with
  | nil => intro cur; simp only [List.nil_append, List.append_nil]; rw [recs_10 _ _ _ rfl]
  | cons c a ih =>
    intro cur
    simp only [List.mem_cons, not_or] at h
    simp only [List.cons_append]
    rw [recs_o _ _ _ (fun hc => h.1 hc.symm), ih h.2]
    simp
/-- Contents whose last line ends. -/
def Whole (l : List UInt8) : Prop := l = [] ∨ ∃ y, l = y ++ [10]
theorem recs_law : ∀ (n : Nat) (l : List UInt8), l.length ≤ n → Whole l → ∀ ps, (picL l).foldl recO' ps = ps ++ (recs [] l).map B
  | n, l, hn, hw, ps => by
    cases hc : cutL 10 l with
    | none =>
      have hnil : l = [] := by
        rcases hw with rfl | ⟨y, rfl⟩
        · rfl
        · have hix := cutL_none _ _ hc
          have : ∀ y : List UInt8, cutL 10 (y ++ [10]) ≠ none := by
            intro y
            induction y with
            | nil => simp [cutL]
            | cons a y ih =>
              simp only [List.cons_append, cutL]
              by_cases ha : a = 10
              · simp [ha]
              · simp [ha, ih]
          exact absurd hc (this y)
      subst hnil
      rw [picL_none _ hc]
      simp [recO', lineR_nil, recs]
    | some p =>
      obtain ⟨a, b⟩ := p
      obtain ⟨_, q2, q3⟩ := cutL_some _ _ _ _ hc
      have hl := congrArg List.length q2
      simp only [List.length_append, List.length_cons] at hl
      rw [picL_some _ _ _ hc, List.foldl_cons]
      have hwb : Whole b := by
        rcases hw with h | ⟨y, hy⟩
        · rw [h] at q2; simp at q2
        · rw [q2] at hy
          rcases List.eq_nil_or_concat b with hb | ⟨z, c, hb⟩
          · exact .inl hb
          · right
            rw [List.concat_eq_append] at hb
            rw [hb] at hy
            refine ⟨z, ?_⟩
            rw [hb]
            have h2 : a ++ 10 :: (z ++ [c]) = (a ++ 10 :: z) ++ [c] := by simp
            rw [h2] at hy
            have := (List.append_inj' hy rfl).2
            rw [this]
      cases n with
      | zero => omega
      | succ n =>
        rw [recs_law n b (by omega) hwb, q2, recs_app _ _ q3]
        simp only [recO', List.nil_append, lineR_rec, List.map_append, List.append_assoc]
        congr 1
        cases recOf (a ++ [10]) <;> simp
end Go.Sx
