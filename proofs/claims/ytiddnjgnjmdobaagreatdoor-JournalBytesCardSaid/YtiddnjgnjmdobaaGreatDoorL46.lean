/- Part of the proofs that the laws of the journal return true for every input: L44, L46. -/
import Derived.Test.YtiddnjgnjmdobaaGreatDoorL36
set_option linter.unusedVariables false
set_option linter.unusedSimpArgs false
set_option linter.all false
/-! L44: torn lines are lines of no record (plain). -/
namespace Go.Sx
theorem escC_pref (c c' : UInt8) (x y : List UInt8) (h : escC c' ++ x = escC c ++ y) : c' = c ∧ x = y := by
  unfold escC at h
  by_cases a : c' = 92
  · subst a
    rw [if_pos rfl] at h
    by_cases b : c = 92
    · subst b; rw [if_pos rfl] at h; simpa using h
    · rw [if_neg b] at h
      by_cases b2 : c = 10
      · rw [if_pos b2] at h; simp at h
      · rw [if_neg b2] at h
        simp only [List.cons_append, List.nil_append, List.cons.injEq] at h
        exact absurd h.1.symm b
  · rw [if_neg a] at h
    by_cases a2 : c' = 10
    · subst a2
      rw [if_pos rfl] at h
      by_cases b : c = 92
      · subst b; rw [if_pos rfl] at h; simp at h
      · rw [if_neg b] at h
        by_cases b2 : c = 10
        · rw [if_pos b2] at h; subst b2; simpa using h
        · rw [if_neg b2] at h
          simp only [List.cons_append, List.nil_append, List.cons.injEq] at h
          exact absurd h.1.symm b
    · rw [if_neg a2] at h
      by_cases b : c = 92
      · subst b; rw [if_pos rfl] at h
        simp only [List.cons_append, List.nil_append, List.cons.injEq] at h
        exact absurd h.1 a
      · rw [if_neg b] at h
        by_cases b2 : c = 10
        · rw [if_pos b2] at h
          simp only [List.cons_append, List.nil_append, List.cons.injEq] at h
          exact absurd h.1 a
        · rw [if_neg b2] at h; simpa using h
theorem esc_pref : ∀ (r' r q : List UInt8), r'.length = r.length → escL r' ++ q = escL r → r' = r ∧ q = []
  | [], r, q, hl, h => by
    have : r = [] := List.eq_nil_of_length_eq_zero hl.symm
    subst this
    simpa [escL] using h
  | c' :: t', [], q, hl, h => by simp at hl
  | c' :: t', c :: t, q, hl, h => by
    have e1 : escL (c' :: t') = escC c' ++ escL t' := rfl
    have e2 : escL (c :: t) = escC c ++ escL t := rfl
    rw [e1, e2, List.append_assoc] at h
    obtain ⟨rfl, h2⟩ := escC_pref _ _ _ _ h
    obtain ⟨rfl, rfl⟩ := esc_pref t' t q (by simpa using hl) h2
    exact ⟨rfl, rfl⟩
def vD (l : List UInt8) : Nat := l.foldl (fun v c => 10 * v + (c.toNat - 48)) 0
theorem vD_decL (n : Nat) : vD (decL n) = n := by
  induction n using Nat.strongRecOn with
  | _ n ih =>
    rw [decL]
    by_cases h : n < 10
    · rw [if_pos h]
      simp only [vD, List.foldl_cons, List.foldl_nil, UInt8.toNat_ofNat']
      omega
    · rw [if_neg h]
      have := ih (n / 10) (by omega)
      simp only [vD] at this ⊢
      rw [List.foldl_append, this]
      simp only [List.foldl_cons, List.foldl_nil, UInt8.toNat_ofNat']
      omega
def liH (r : List UInt8) : List UInt8 := decL r.length ++ 32 :: (hexL (dgR (B r)) ++ 32 :: escL r)
theorem lineL_H (r : List UInt8) : lineL r = liH r ++ [10] := by simp [lineL, liH]
theorem liH_n10 (r : List UInt8) : 10 ∉ liH r := by
  simp only [liH, List.mem_append, List.mem_cons, not_or]
  exact ⟨decL_n10 _, by decide, hexL_n10 _, by decide, escL_n10 _⟩
theorem liH_eq (r r' q q' : List UInt8) (h : liH r' ++ q' = liH r ++ q) : r'.length = r.length ∧ escL r' ++ q' = escL r ++ q := by
  simp only [liH, List.append_assoc, List.cons_append] at h
  have h1 := congrArg (cutL 32) h
  rw [cutL_at _ _ _ (decL_no _), cutL_at _ _ _ (decL_no _)] at h1
  simp only [Option.some.injEq, Prod.mk.injEq] at h1
  have h2 := congrArg (cutL 32) h1.2
  rw [cutL_at _ _ _ (hexL_no _), cutL_at _ _ _ (hexL_no _)] at h2
  simp only [Option.some.injEq, Prod.mk.injEq] at h2
  have h3 := congrArg vD h1.1
  rw [vD_decL, vD_decL] at h3
  exact ⟨h3, h2.2⟩
theorem recOf_none (x : List UInt8) (h : ∀ r', x ≠ liH r') : recOf (x ++ [10]) = none := by
  unfold recOf
  rw [if_neg]
  intro hc
  rw [lineL_H] at hc
  exact h _ (List.append_inj' hc rfl).1.symm
theorem torn_none (r p q : List UInt8) (h : liH r = p ++ q) (hq : q ≠ []) : recOf (p ++ [10]) = none := by
  refine recOf_none p fun r' hr => hq ?_
  subst hr
  have h1 := liH_eq r r' [] q (by rw [List.append_nil]; exact h.symm)
  rw [List.append_nil] at h1
  exact (esc_pref _ _ _ h1.1 h1.2).2
theorem last_none (r : List UInt8) (c : UInt8) : recOf ((liH r ++ [c]) ++ [10]) = none := by
  refine recOf_none _ fun r' hr => ?_
  have h1 := liH_eq r r' [c] [] (by rw [List.append_nil]; exact hr.symm)
  rw [List.append_nil] at h1
  have := (esc_pref _ _ _ h1.1.symm h1.2.symm).2
  simp at this
theorem recs_whole (m : List UInt8) : ∀ (l cur : List UInt8), (l = [] ∧ cur = []) ∨ (∃ y, l = y ++ [10]) → recs cur (l ++ m) = recs cur l ++ recs [] m
  | [], cur, h => by
    rcases h with ⟨-, rfl⟩ | ⟨y, hy⟩
    · rfl
    · simp at hy
  | c :: r, cur, h => by
    have hy : ∃ y, c :: r = y ++ [10] := by
      rcases h with ⟨h, -⟩ | h
      · simp at h
      · exact h
    obtain ⟨y, hy⟩ := hy
    have hr : r = [] ∧ c = 10 ∨ ∃ y, r = y ++ [10] := by
      cases y with
      | nil => simp at hy; exact .inl ⟨hy.2, hy.1⟩
      | cons a y => simp at hy; exact .inr ⟨y, hy.2⟩
    simp only [List.cons_append]
    by_cases hc : c = 10
    · rw [recs_10 _ _ _ hc, recs_10 _ _ _ hc, recs_whole m r [] (hr.imp (fun h => ⟨h.1, rfl⟩) id), List.append_assoc]
    · rw [recs_o _ _ _ hc, recs_o _ _ _ hc, recs_whole m r _ (.inr (hr.resolve_left fun h => hc h.2))]
theorem lastN_nil (t : ByteArray) (h : L t = []) : lastN t = false := by
  have : t.size = 0 := by rw [size_L, h]; rfl
  simp [lastN, this]
theorem lastN_snoc (t : ByteArray) (y : List UInt8) (c : UInt8) (h : L t = y ++ [c]) : lastN t = ((c.toNat : Int) != 10) := by
  have hz : t.size = y.length + 1 := by rw [size_L, h]; simp
  have h4 : t.data.toList.getD (t.size - 1) 0 = c := by
    show (L t).getD _ 0 = c
    rw [hz, h, Nat.add_sub_cancel, List.getD_eq_getElem?_getD, List.getElem?_append_right (Nat.le_refl _), Nat.sub_self]; rfl
  unfold lastN
  rw [h4, decide_eq_true (show t.size > 0 by omega), Bool.true_and]
theorem lastN_whole (t : ByteArray) (h : lastN t = false) : Whole (L t) := by
  rcases List.eq_nil_or_concat (L t) with hb | ⟨z, c, hb⟩
  · exact .inl hb
  · right
    rw [List.concat_eq_append] at hb
    rw [lastN_snoc _ _ _ hb, bne_eq_false_iff_eq] at h
    exact ⟨z, by rw [hb, u8i c 10 (by omega) h]; rfl⟩
theorem rs_app (t x : ByteArray) (h : lastN t = false) : rs (t ++ x) = rs t ++ rs x := by
  unfold rs
  rw [L_app, recs_whole _ _ [] ((lastN_whole t h).imp (fun h => ⟨h, rfl⟩) id), List.map_append]
theorem app_nil (t x : ByteArray) (h : L x = []) : t ++ x = t := L_inj (by rw [L_app, h, List.append_nil])
theorem rs_liB (s : ByteArray) : rs (liB s) = [s] := by
  unfold rs
  rw [L_liB, ← List.append_nil (lineL (L s)), recs_line]; rfl
/-- The contents with their last line ended. -/
def enD (t : ByteArray) : ByteArray := bif lastN t then t ++ B [10] else t
theorem enD_whole (t : ByteArray) : lastN (enD t) = false := by
  unfold enD
  cases h : lastN t
  · exact h
  · exact lastN_snoc _ (L t) 10 (by rw [cond_true, L_app])
theorem lastN_app_nil (t x : ByteArray) (h : L x = []) : lastN (t ++ x) = lastN t := by rw [app_nil t x h]
theorem z_law (t x s : ByteArray) (q : List UInt8) (hT : lastN t = false) (hx : lineL (L s) = L x ++ q) : rs (enD (t ++ x)) = rs t ∨ rs (enD (t ++ x)) = rs t ++ [s] := by
  rcases List.eq_nil_or_concat q with rfl | ⟨q', c, rfl⟩
  · rw [List.append_nil] at hx
    have hxe : x = liB s := L_inj (by rw [L_liB, hx])
    right
    have h1 : lastN (t ++ x) = false := by rw [hxe]; exact lastN_line _ _
    unfold enD
    rw [h1, cond_false, rs_app _ _ hT, hxe, rs_liB]
  · rw [List.concat_eq_append, lineL_H, ← List.append_assoc] at hx
    have hx2 := (List.append_inj' hx rfl).1
    rcases List.eq_nil_or_concat (L x) with hb | ⟨z, d, hb⟩
    · left
      unfold enD
      rw [app_nil t x hb, hT, cond_false]
    · rw [List.concat_eq_append] at hb
      have hn : 10 ∉ L x := fun hc => liH_n10 (L s) (by rw [hx2]; exact List.mem_append_left _ hc)
      have hd : d ≠ 10 := fun hd => hn (by rw [hb, hd]; simp)
      have h1 : lastN (t ++ x) = true := by
        rw [lastN_snoc _ (L t ++ z) d (by rw [L_app, hb, List.append_assoc]), bne_iff_ne]
        exact fun h => hd (u8i d 10 (by omega) h)
      have h2 : enD (t ++ x) = t ++ (x ++ B [10]) := by
        unfold enD
        rw [h1, cond_true]
        exact L_inj (by simp only [L_app, List.append_assoc])
      have h3 : L (x ++ B [10]) = L x ++ 10 :: [] := by rw [L_app]
      rw [h2, rs_app _ _ hT]
      have h4 : rs (x ++ B [10]) = ((recOf (L x ++ [10])).toList).map B := by
        unfold rs
        rw [h3, recs_app _ _ hn]
        simp [recs]
      rw [h4]
      by_cases hq : q' = []
      · subst hq
        rw [List.append_nil] at hx2
        right
        rw [← hx2, ← lineL_H, recOf_line]; rfl
      · left
        rw [torn_none _ _ _ hx2 hq]; simp
end Go.Sx

/-! L46: what the disk and the log do in the states of JournalSurvives. -/
namespace Go.Sx
open Go.Proofs Go.RowKit
attribute [local irreducible] Run RunL RunD OpT SLe0 SLe OLe
set_option maxHeartbeats 2000000
set_option maxRecDepth 8000
set_option linter.unusedSimpArgs false
set_option linter.unusedVariables false
theorem K18w : FnM Tryz.prog 18 (fun ds os d os' => ∃ (t : ByteArray) (n : Nat), True ∧ ds = [.loc 1000 0, eInt (n : Int)] ∧ os = [eDk (wk t)] ∧ d = .tup [] ∧ os' = [(1000, eDk ⟨t, 0, false, true, (n : Int)⟩)]) := by
  refine K18.weaken ?_
  rintro ds os d os' ⟨t, n, -, rfl, rfl, rfl, rfl⟩
  refine ⟨wk t, (n : Int), trivial, rfl, rfl, rfl, ?_⟩
  have h1 : decide ((0 : Int) ≤ (n : Int)) = true := decide_eq_true (by omega)
  simp only [faD', h1, wk]
theorem dkOff (t : ByteArray) (p : Int) (c : Bool) (n : Int) : wOk ⟨t, p, true, c, n⟩ = false := by simp [wOk]
theorem K20x : FnM Tryz.prog 20 (fun ds os d os' => ∃ (t x : ByteArray) (n : Nat) (b c : Bool) (a : Int), (t.size ≤ 400000000 ∧ x.size ≤ 400000000) ∧ ds = [.loc 1000 0, eInt (n : Int)] ∧ os = [eDk ⟨t ++ x, (x.size : Int), b, c, a⟩] ∧ d = .tup [] ∧ os' = [(1000, eDk (wk (t ++ x.extract 0 n)))]) := by
  refine K20.weaken ?_
  rintro ds os d os' ⟨t, x, n, b, c, a, ⟨h1, h2⟩, rfl, rfl, rfl, rfl⟩
  have hs : (t ++ x).size = t.size + x.size := ByteArray.size_append
  have e1 : loS ⟨t ++ x, (x.size : Int), b, c, a⟩ (n : Int) = (x.size : Int) - (min n x.size : Nat) := by
    simp only [loS, Bool.cond_decide]
    split <;> split <;> omega
  have e2 : (((t ++ x).size : Int) - ((x.size : Int) - (min n x.size : Nat))).toNat = t.size + min n x.size := by rw [hs]; omega
  have e3 : (t ++ x).extract 0 (t.size + min n x.size) = t ++ x.extract 0 n := L_inj (by
    have q1 : L (t ++ x) = L t ++ L x := by simp [L]
    have q2 : L (t ++ x.extract 0 n) = L t ++ L (x.extract 0 n) := by simp [L]
    rw [L_extract, q1, q2, L_extract, List.drop_zero, List.drop_zero, Nat.sub_zero, Nat.sub_zero, size_L, size_L x, List.take_length_add_append]
    congr 1
    rcases Nat.le_total n (L x).length with h | h
    · rw [Nat.min_eq_left h]
    · rw [Nat.min_eq_right h, List.take_length, List.take_of_length_le h])
  refine ⟨⟨t ++ x, (x.size : Int), b, c, a⟩, (n : Int), ⟨by show (0 : Int) ≤ (x.size : Int); omega, by show (x.size : Int) ≤ ((t ++ x).size : Int); rw [hs]; omega, by show (t ++ x).size ≤ _; rw [hs]; omega⟩, rfl, rfl, rfl, ?_⟩
  rw [e1]
  show [(1000, eDk (wk (t ++ x.extract 0 n)))] = [(1000, eDk ⟨(t ++ x).extract 0 (((t ++ x).size : Int) - ((x.size : Int) - (min n x.size : Nat))).toNat, 0, false, false, 0⟩)]
  rw [e2, e3]; rfl
theorem K20y : FnM Tryz.prog 20 (fun ds os d os' => ∃ (t : ByteArray) (n : Nat) (b c : Bool) (a : Int), t.size ≤ 400000000 ∧ ds = [.loc 1000 0, eInt (n : Int)] ∧ os = [eDk ⟨t, 0, b, c, a⟩] ∧ d = .tup [] ∧ os' = [(1000, eDk (wk t))]) := by
  refine K20x.weaken ?_
  rintro ds os d os' ⟨t, n, b, c, a, h1, rfl, rfl, rfl, rfl⟩
  have e : t ++ ByteArray.empty = t := by simp
  refine ⟨t, ByteArray.empty, n, b, c, a, ⟨h1, by simp⟩, rfl, by rw [e]; rfl, rfl, ?_⟩
  rw [app_nil t _ (by rw [L_extract, show L ByteArray.empty = [] from rfl]; simp)]
theorem K22z : FnM Tryz.prog 22 (fun ds os d os' => ∃ (t : ByteArray), t.size ≤ 300000000 ∧ ds = [.loc 1000 0] ∧ os = [eDk (wk t)] ∧ d = .tup [.loc 0 0, strs (rs (enD t))] ∧ os' = [(1000, eDk (wk (enD t))), (0, eLg 1000 ⟨((rs (enD t)).length : Int), false⟩)]) := by
  refine K22t.weaken ?_
  rintro ds os d os' ⟨t, h1, rfl, rfl, rfl, rfl⟩
  have q1 : opOk (wk t) = true := by unfold opOk; rw [(wk_put t (B [10])).1]; simp [wk]
  have q2 : opD (wk t) = wk (enD t) := by
    unfold opD enD
    rw [(wk_put t (B [10])).2, show (wk t).t = t from rfl]
    cases lastN t <;> rfl
  exact ⟨wk t, ⟨h1, q1⟩, rfl, rfl, by rw [q2]; rfl, by rw [q2]; simp [rs, wk]⟩
theorem puC (t s : ByteArray) (n : Nat) (h : 2 ≤ n) (h2 : n ≤ 1000) (hs : s.size ≤ 1000000) : puOk ⟨t, 0, false, true, (n : Int)⟩ s = true ∧ puD ⟨t, 0, false, true, (n : Int)⟩ s = ⟨t ++ s, 0, false, true, ((n - 2 : Nat) : Int)⟩ := by
  have d0 : decide ((n : Int) = 0) = false := decide_eq_false (by omega)
  have w1 : IntKind.i64.wrap ((n : Int) - 1) = ((n - 1 : Nat) : Int) := by rw [w64]; omega
  have d1 : decide (((n - 1 : Nat) : Int) = 0) = false := decide_eq_false (by omega)
  have w2 : IntKind.i64.wrap (((n - 1 : Nat) : Int) - 1) = ((n - 2 : Nat) : Int) := by rw [w64]; omega
  refine ⟨?_, ?_⟩
  · simp only [puOk, wOk, wrD, wDk, d0, d1, w1, Bool.not_false, Bool.true_and, Bool.and_self, cond_true, cond_false]
  · simp only [puD, wOk, wrD, wDk, syD, d0, d1, w1, w2, Bool.not_false, Bool.true_and, Bool.and_self, cond_true, cond_false]
theorem puC1 (t s : ByteArray) (hs : s.size ≤ 1000000) : puOk ⟨t, 0, false, true, 1⟩ s = false ∧ puD ⟨t, 0, false, true, 1⟩ s = ⟨t ++ s, (s.size : Int), true, true, 0⟩ := by
  have w1 : IntKind.i64.wrap ((0 : Int) + (s.size : Int)) = (s.size : Int) := by rw [w64]; omega
  have w0 : IntKind.i64.wrap ((1 : Int) - 1) = 0 := by decide
  have d0 : decide ((1 : Int) = 0) = false := by decide
  refine ⟨?_, ?_⟩
  · simp only [puOk, wOk, wrD, wDk, d0, decide_true, w0, Bool.not_false, Bool.not_true, Bool.true_and, Bool.and_self, Bool.and_false, cond_true, cond_false]
  · simp only [puD, wOk, wrD, wDk, syD, d0, decide_true, w0, w1, Bool.not_false, Bool.not_true, Bool.true_and, Bool.and_self, Bool.and_false, cond_true, cond_false]
theorem puC0 (t s : ByteArray) : puOk ⟨t, 0, false, true, 0⟩ s = false ∧ puD ⟨t, 0, false, true, 0⟩ s = ⟨t, 0, true, true, 0⟩ := by
  refine ⟨?_, ?_⟩
  · simp only [puOk, wOk, wrD, wDk, decide_true, Bool.not_false, Bool.not_true, Bool.true_and, Bool.and_self, Bool.and_false, Bool.false_and, cond_true, cond_false]
  · simp only [puD, wOk, wrD, wDk, decide_true, Bool.not_false, Bool.not_true, Bool.true_and, Bool.and_self, Bool.and_false, cond_true, cond_false]
theorem K25p : FnM Tryz.prog 25 (fun ds os d os' => ∃ (t s : ByteArray) (m : Int) (n : Nat), (t.size + (liB s).size ≤ 200000 ∧ s.size ≤ 1000 ∧ 2 ≤ n ∧ n ≤ 1000) ∧ ds = [.loc 1000 0, .str s] ∧ os = [eLg 1001 ⟨m, false⟩, eDk ⟨t, 0, false, true, (n : Int)⟩] ∧ d = eInt 0 ∧
    os' = [(1000, eLg 1001 ⟨IntKind.i64.wrap (m + 1), false⟩), (1001, eDk ⟨t ++ liB s, 0, false, true, ((n - 2 : Nat) : Int)⟩)]) := by
  refine (K25of K44).weaken ?_
  rintro ds os d os' ⟨t, s, m, n, ⟨h1, h2, h3, h4⟩, rfl, rfl, rfl, rfl⟩
  have h5 : decide ((⟨t, 0, false, true, (n : Int)⟩ : Dk).t.size + (liB s).size > 262144) = false := decide_eq_false (by show ¬ (t.size + _ > _); omega)
  have p := puC t (liB s) n h3 h4 (by omega)
  exact ⟨⟨m, false⟩, ⟨t, 0, false, true, (n : Int)⟩, s, ⟨by show t.size ≤ _; omega, by omega⟩, rfl, rfl, by unfold apE; rw [h5, p.1]; rfl, by unfold apL apK; rw [h5, p.1, p.2]; rfl⟩
theorem K25q : FnM Tryz.prog 25 (fun ds os d os' => ∃ (t s : ByteArray) (m : Int) (n : Nat) (t' : ByteArray) (p' : Int), (t.size + (liB s).size ≤ 200000 ∧ s.size ≤ 1000 ∧ (n = 0 ∧ t' = t ∧ p' = 0 ∨ n = 1 ∧ t' = t ++ liB s ∧ p' = (liB s).size)) ∧ ds = [.loc 1000 0, .str s] ∧ os = [eLg 1001 ⟨m, false⟩, eDk ⟨t, 0, false, true, (n : Int)⟩] ∧ d = eInt 54 ∧
    os' = [(1000, eLg 1001 ⟨m, true⟩), (1001, eDk ⟨t', p', true, true, 0⟩)]) := by
  refine (K25of K44).weaken ?_
  rintro ds os d os' ⟨t, s, m, n, t', p', ⟨h1, h2, h3⟩, rfl, rfl, rfl, rfl⟩
  have h5 : decide ((⟨t, 0, false, true, (n : Int)⟩ : Dk).t.size + (liB s).size > 262144) = false := decide_eq_false (by show ¬ (t.size + _ > _); omega)
  rcases h3 with ⟨rfl, rfl, rfl⟩ | ⟨rfl, rfl, rfl⟩
  · have p := puC0 t' (liB s)
    exact ⟨⟨m, false⟩, ⟨t', 0, false, true, 0⟩, s, ⟨by show t'.size ≤ _; omega, by omega⟩, rfl, rfl, by unfold apE; rw [show (⟨t', 0, false, true, 0⟩ : Dk) = ⟨t', 0, false, true, ((0 : Nat) : Int)⟩ from rfl, h5]; rw [show (⟨t', 0, false, true, ((0 : Nat) : Int)⟩ : Dk) = ⟨t', 0, false, true, 0⟩ from rfl, p.1]; rfl, by unfold apL apK; rw [show (⟨t', 0, false, true, 0⟩ : Dk) = ⟨t', 0, false, true, ((0 : Nat) : Int)⟩ from rfl, h5]; rw [show (⟨t', 0, false, true, ((0 : Nat) : Int)⟩ : Dk) = ⟨t', 0, false, true, 0⟩ from rfl, p.1, p.2]; rfl⟩
  · have p := puC1 t (liB s) (by omega)
    exact ⟨⟨m, false⟩, ⟨t, 0, false, true, 1⟩, s, ⟨by show t.size ≤ _; omega, by omega⟩, rfl, rfl, by unfold apE; rw [show (⟨t, 0, false, true, 1⟩ : Dk) = ⟨t, 0, false, true, ((1 : Nat) : Int)⟩ from rfl, h5]; rw [show (⟨t, 0, false, true, ((1 : Nat) : Int)⟩ : Dk) = ⟨t, 0, false, true, 1⟩ from rfl, p.1]; rfl, by unfold apL apK; rw [show (⟨t, 0, false, true, 1⟩ : Dk) = ⟨t, 0, false, true, ((1 : Nat) : Int)⟩ from rfl, h5]; rw [show (⟨t, 0, false, true, ((1 : Nat) : Int)⟩ : Dk) = ⟨t, 0, false, true, 1⟩ from rfl, p.1, p.2]; rfl⟩
/-- Open while the power may fail: it opens. -/
theorem K22s : FnM Tryz.prog 22 (fun ds os d os' => ∃ (t : ByteArray) (n m : Nat), (t.size ≤ 100000 ∧ n ≤ 1000 ∧ (lastN t = false ∧ m = n ∨ lastN t = true ∧ 2 ≤ n ∧ m = n - 2)) ∧ ds = [.loc 1000 0] ∧ os = [eDk ⟨t, 0, false, true, (n : Int)⟩] ∧ d = .tup [.loc 0 0, strs (rs (enD t))] ∧
    os' = [(1000, eDk ⟨enD t, 0, false, true, (m : Int)⟩), (0, eLg 1000 ⟨((rs (enD t)).length : Int), false⟩)]) := by
  refine K22t.weaken ?_
  rintro ds os d os' ⟨t, n, m, ⟨h1, h2, h3⟩, rfl, rfl, rfl, rfl⟩
  have b1 : (B [10]).size = 1 := rfl
  rcases h3 with ⟨hl, rfl⟩ | ⟨hl, h4, rfl⟩
  · have q1 : opOk ⟨t, 0, false, true, (m : Int)⟩ = true := by simp [opOk, hl]
    have q2 : opD ⟨t, 0, false, true, (m : Int)⟩ = ⟨enD t, 0, false, true, (m : Int)⟩ := by unfold opD enD; simp only [hl, cond_false]
    exact ⟨⟨t, 0, false, true, (m : Int)⟩, ⟨by show t.size ≤ _; omega, q1⟩, rfl, rfl, by rw [q2]; rfl, by rw [q2]; simp [rs]⟩
  · have p := puC t (B [10]) n h4 h2 (by omega)
    have q1 : opOk ⟨t, 0, false, true, (n : Int)⟩ = true := by unfold opOk; rw [p.1]; simp
    have q2 : opD ⟨t, 0, false, true, (n : Int)⟩ = ⟨enD t, 0, false, true, ((n - 2 : Nat) : Int)⟩ := by unfold opD enD; rw [p.2]; simp only [hl, cond_true]
    exact ⟨⟨t, 0, false, true, (n : Int)⟩, ⟨by show t.size ≤ _; omega, q1⟩, rfl, rfl, by rw [q2]; rfl, by rw [q2]; simp [rs]⟩
/-- .. and it fails. -/
theorem K22x : FnM Tryz.prog 22 (fun ds os d os' => ∃ (t x : ByteArray) (n : Nat), (t.size ≤ 100000 ∧ lastN t = true ∧ (n = 0 ∧ x = ByteArray.empty ∨ n = 1 ∧ x = B [10])) ∧ ds = [.loc 1000 0] ∧ os = [eDk ⟨t, 0, false, true, (n : Int)⟩] ∧ d = .tup [.nilp, .nils] ∧
    os' = [(1000, eDk ⟨t ++ x, (x.size : Int), true, true, 0⟩)]) := by
  refine K22f.weaken ?_
  rintro ds os d os' ⟨t, x, n, ⟨h1, hl, h3⟩, rfl, rfl, rfl, rfl⟩
  have b1 : (B [10]).size = 1 := rfl
  rcases h3 with ⟨rfl, rfl⟩ | ⟨rfl, rfl⟩
  · have p := puC0 t (B [10])
    have q1 : opOk ⟨t, 0, false, true, 0⟩ = false := by unfold opOk; rw [p.1]; simp [hl]
    have q2 : opD ⟨t, 0, false, true, 0⟩ = ⟨t ++ ByteArray.empty, 0, true, true, 0⟩ := by unfold opD; rw [p.2]; simp [hl]
    exact ⟨⟨t, 0, false, true, 0⟩, ⟨by show t.size ≤ _; omega, q1⟩, rfl, rfl, rfl, by rw [q2]; rfl⟩
  · have p := puC1 t (B [10]) (by omega)
    have q1 : opOk ⟨t, 0, false, true, 1⟩ = false := by unfold opOk; rw [p.1]; simp [hl]
    have q2 : opD ⟨t, 0, false, true, 1⟩ = ⟨t ++ B [10], ((B [10]).size : Int), true, true, 0⟩ := by unfold opD; rw [p.2]; simp [hl]
    exact ⟨⟨t, 0, false, true, 1⟩, ⟨by show t.size ≤ _; omega, q1⟩, rfl, rfl, rfl, by rw [q2]; rfl⟩
end Go.Sx
