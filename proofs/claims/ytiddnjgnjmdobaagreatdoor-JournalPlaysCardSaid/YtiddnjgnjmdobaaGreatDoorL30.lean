/- Part of the proofs that the laws of the journal return true for every input: L30. -/
import Derived.Test.YtiddnjgnjmdobaaGreatDoorL29
import Derived.Test.YtiddnjgnjmdobaaGreatDoorL25
import Derived.Test.YtiddnjgnjmdobaaGreatDoorL19
import Derived.Test.YtiddnjgnjmdobaaGreatDoorL21
set_option linter.unusedVariables false
set_option linter.unusedSimpArgs false
set_option linter.all false
/-! L30: the records of contents, as the program's lines yields them. -/
namespace Go.Sx
open Go.Proofs Go.RowKit
attribute [local irreducible] Run RunL RunD OpT SLe0 SLe OLe
set_option maxHeartbeats 2000000
set_option maxRecDepth 8000
set_option linter.unusedSimpArgs false
set_option linter.unusedVariables false
theorem K44 : FnOK Tryz.prog 44 (fun ds d => ∃ s : ByteArray, s.size ≤ 400000000 ∧ ds = [.str s] ∧ d = .str (liB s)) := K44of K55 K56
def R1 (r1 : LR) : List SD → List OB → SD → List (Nat × OB) → Prop := fun ds os d os' => ∃ (x : ByteArray) (ps : List ByteArray), (x.size ≤ 400000000 ∧ ps.length ≤ 50000000000) ∧ ds = [.str x] ∧ os = [eV, eA ps, recO r1 .ready none] ∧
    d = .bool true ∧ os' = [(1000, eV), (1001, eA (ps ++ [x])), (1002, recO r1 .ready none)]
theorem FnMA.weaken {P : Program} {f : Nat} {h0 : Hp} {bl : List Nat} {R R' : List SD → List OB → SD → List (Nat × OB) → Prop} (hf : FnMA P f h0 bl R) (h : ∀ ds os d os', R' ds os d os' → R ds os d os') : FnMA P f h0 bl R' := ⟨hf.call, fun ds os d os' hr => hf.ok ds os d os' (h ds os d os' hr)⟩
theorem spN_le : ∀ (k : Nat) (l p : List UInt8), p ∈ spN k l → p.length ≤ l.length
  | 0, l, p, h => by simp only [spN, List.mem_singleton] at h; subst h; exact Nat.le_refl _
  | k + 1, l, p, h => by
    simp only [spN] at h
    cases hc : cutL 32 l with
    | none => rw [hc] at h; simp only [List.mem_singleton] at h; subst h; exact Nat.le_refl _
    | some q =>
      obtain ⟨a, b⟩ := q
      obtain ⟨_, q2, _⟩ := cutL_some _ _ _ _ hc
      rw [hc] at h
      have hl := congrArg List.length q2
      simp only [List.length_append, List.length_cons] at hl
      simp only [List.mem_cons] at h
      rcases h with rfl | h
      · omega
      · have := spN_le k b p h
        omega
theorem tsB_le (s t : ByteArray) : (tsB s t).size ≤ s.size := by
  unfold tsB
  split
  · rw [size_L, L_extract, List.length_take, List.length_drop, size_L]; omega
  · exact Nat.le_refl _
theorem lineR_none (x : ByteArray) (h : (spN 2 (L (tsB x (B [10])))).length < 3) : lineR (L x) = none := by unfold lineR; rw [B_L, if_pos h]
theorem lineR_no (x : ByteArray) (h : ¬ (spN 2 (L (tsB x (B [10])))).length < 3) (h2 : liB (B (unL ((spN 2 (L (tsB x (B [10])))).getD 2 []))) ≠ x) : lineR (L x) = none := by unfold lineR; rw [B_L, if_neg h, if_neg h2]
theorem lineR_yes (x : ByteArray) (h : ¬ (spN 2 (L (tsB x (B [10])))).length < 3) (h2 : liB (B (unL ((spN 2 (L (tsB x (B [10])))).getD 2 []))) = x) : lineR (L x) = some (B (unL ((spN 2 (L (tsB x (B [10])))).getD 2 []))) := by unfold lineR; rw [B_L, if_neg h, if_pos h2]
attribute [go_sem] recO rawOB menM
theorem K50 (r1 : LR) (h0 : Hp) (bl : List Nat) (hbl : bl.length = 3) (Y : YldMA Tryz.prog r1.l h0 bl (R1 r1)) :
    FnMA Tryz.prog 50 h0 bl (fun ds os d os' => ∃ (s : ByteArray) (ps : List ByteArray), (s.size ≤ 400000000 ∧ ps.length + s.size ≤ 50000000000) ∧ ds = [.yld r1.l, .fp [.str s]] ∧ os = [eV, eA ps, recO r1 .ready none] ∧
      d = .tup [] ∧ os' = [(1000, eV), (1001, eA ((picL (L s)).foldl recO' ps)), (1002, recO r1 .ready none)]) := by
  obtain ⟨b0, b1, b2, rfl⟩ : ∃ b0 b1 b2, bl = [b0, b1, b2] := by
    match bl, hbl with
    | [b0, b1, b2], _ => exact ⟨b0, b1, b2, rfl⟩
  refine fn_introMAX Tryz.call50 Tryz.func50 rfl Tryz.ntmps50 ?_
  rintro ds os d os' ⟨s, ps, hs, rfl, rfl, rfl, rfl⟩
  refine ⟨by simp, by simp, fun F w0 han => ?_⟩
  repeat' (first | refine run_frz 0 (by simp only [go_sem]; rfl) ?_ | apply run_seq | apply run_block | apply run_region | apply runL_nil | refine runxP (by simp only [go_sem]; rfl) (by rfl) ?_ ?_ | refine stepcallM [] K51 (by rfl) (by simp only [go_sem]; first | done | rfl) (by simp only [go_sem]) (by first | (simp only [go_sem]; done) | (simp only [go_sem]; rfl)) ?_ ⟨s, trivial, rfl, rfl, rfl, rfl⟩ (by simp only [go_sem]; rfl) ?_ | exact True.intro | exact rfl)
  refine run_rangeFuncO [1000, 1001, 1002, 1] (gf := 68) (os := [eV, eA ps, recO r1 .ready none, .var [.str s]]) (osu' := [eV, eA ((picL (L s)).foldl recO' ps), recO r1 .ready none, .var [.any]]) (pe := none) rfl (by simp only [go_sem]; rfl) (by rfl) (by rfl) (by rfl) (by rfl) (fun r K => by rfl) (fun h1 bl r hps has hbd htm hbl1 hle hfx hsl => ?hit) (fun r K => by simp only [go_sem]; rfl) (fun r K => by rfl) (fun r K => ?hk)
  case hk =>
    change Run _ _ ⟨w0, none, [{ target := .collected K, args := #[] }]⟩ _ [.blk 0] _
    apply run_blk
    refine run_endMX1 2 K (by rfl) (by rfl) (by rfl) ?_ ?_
    · repeat' (first | exact SLe.refl _)
    · (show subO _ _; simp only [go_sem]; repeat' (first | exact SLe.any1 | exact trivial | exact True.intro | exact SLe.refl _ | exact OLe.refl _ | exact ⟨_, rfl, OLe.refl _⟩ | refine ⟨_, rfl, ?_⟩ | refine OLe.var ?_ | (show SLeL _ _; refine ⟨?_, ?_⟩) | (show SLeL [] []; exact True.intro) | (refine SLe.int ?_; rw [w64]; omega) | refine SLe.int ?_ | refine SLe.bool ?_ | apply And.intro))
  case hit =>
    refine (K68 r1 r h1 bl (by simpa using hbl1) ?Y).weaken ?w
    case w =>
      rintro ds os d os' ⟨rfl, rfl, rfl, rfl⟩
      exact ⟨s, ps, hs, rfl, rfl, rfl, rfl⟩
    case Y =>
      obtain ⟨c0, c1, c2, c3, c4, rfl⟩ : ∃ b0 b1 b2 b3 b4, bl = [b0, b1, b2, b3, b4] := by
        match bl, hbl1 with
        | [b0, b1, b2, b3, b4], _ => exact ⟨b0, b1, b2, b3, b4, rfl⟩
      refine yld_intro r [(0, .yld r1.l), (1, .fp [.str s]), (2, .fp [.yld r1.l]), (6, .str s), (7, .fn 68 [.fp [.str (B [10])], .loc 1003 0, .fp [.int .i64 1]])] 29 r.l rfl htm (by rw [hps]; simp) hsl ?_
      rintro ds os d os' ⟨x, qs, rest, ⟨hx, hql⟩, rfl, rfl, rfl, rfl⟩
      refine ⟨[eV, eA qs, recO r1 .ready none, .var [.str rest]], [eV, eA (recO' qs (L x)), recO r1 .ready none, .var [.str rest]], none, ?sA, rfl, rfl, rfl, rfl, rfl, by rw [hps]; rfl, fun F w0 han2 => ?g1, ?g2, fun F w0 han2 => ?g3⟩
      case g1 =>
        rw [has, hps]
        change Run _ F _ _ _ ⟨29, 0, upd [(0, .yld r1.l), (1, .fp [.str s]), (2, .fp [.yld r1.l]), (6, .str s), (7, .fn 68 [.fp [.str (B [10])], .loc 1003 0, .fp [.int .i64 1]])] 8 (.str x), _⟩
        repeat' (first | apply run_region | apply runL_nil | refine runxP (by simp only [go_sem]; rfl) (by rfl) ?_ ?_ | exact True.intro | exact rfl)
        exact run_here
      case g2 => rfl
      case g3 =>
        rw [hbd]
        have hY : Anch h0 [b0, b1, b2] w0 := ⟨han.le.trans (hle.trans han2.le), fun i b hib => han2.fx i b (by
          have h3 : i < 3 := (List.getElem?_eq_some_iff.1 hib).1
          refine hfx i b (by simp; omega) ?_ (han.fx i b hib)
          match i, h3 with
          | 0, _ => rfl
          | 1, _ => rfl
          | 2, _ => rfl)⟩
        have hts : (tsB x (B [10])).size ≤ 400000000 := Nat.le_trans (tsB_le _ _) hx
        have hsz : x.size ≤ 68719476736 ∧ (B [10]).size ≤ 68719476736 := ⟨by omega, by simp [B, ByteArray.size]⟩
        by_cases hw : (spN 2 (L (tsB x (B [10])))).length < 3
        · have hd3 : decide ((((spN 2 (L (tsB x (B [10])))).length : Nat) : Int) < 3) = true := decide_eq_true (by omega)
          have hno := lineR_none x hw
          repeat' (first | apply run_seq | apply run_block | apply run_region | apply runL_nil | refine runxP (by simp only [go_sem, hd3]; rfl) (by rfl) ?_ ?_ | refine stepcall K53 (by simp only [go_sem, hd3]; first | done | rfl) ?_ ⟨x, B [10], hsz, rfl, rfl⟩ (by simp only [go_sem, hd3]; rfl) ?_ | refine stepcall K52 (by simp only [go_sem, hd3]; first | done | rfl) ?_ ⟨tsB x (B [10]), hts, rfl, rfl⟩ (by simp only [go_sem, hd3]; rfl) ?_ | (refine run_cond (by simp only [go_sem, hd3]; rfl) ?_ ?_ <;> intro hb <;> have hc := hb <;> (try simp only [decide_eq_true_eq, decide_eq_false_iff_not, Int.not_lt, Int.not_le, Int.ofNat_lt, Int.ofNat_le, Bool.and_eq_true, Bool.or_eq_true, Bool.or_eq_false_iff, Bool.not_eq_true', Bool.not_eq_false', beq_iff_eq, beq_eq_false_iff_ne, bne_iff_ne, bne_eq_false_iff_eq] at hc) <;> (try (exfalso; simp at hc; done))) | refine run_exit (by rfl) ?_ | exact True.intro | exact rfl)
          have hrec : recO' qs (L x) = qs := by unfold recO'; rw [hno]; simp
          rw [hrec]
          refine run_round_end ?_
          (show subO _ _; simp only [go_sem]; repeat' (first | exact SLe.any1 | exact trivial | exact True.intro | exact SLe.refl _ | exact OLe.refl _ | exact ⟨_, rfl, OLe.refl _⟩ | refine ⟨_, rfl, ?_⟩ | refine OLe.var ?_ | (show SLeL _ _; refine ⟨?_, ?_⟩) | (show SLeL [] []; exact True.intro) | (refine SLe.int ?_; rw [w64]; omega) | refine SLe.int ?_ | refine SLe.bool ?_ | apply And.intro))
        · have hd3 : decide ((((spN 2 (L (tsB x (B [10])))).length : Nat) : Int) < 3) = false := decide_eq_false (by omega)
          have h3 : 2 < (spN 2 (L (tsB x (B [10])))).length := by omega
          have hw2 : psF ((spN 2 (L (tsB x (B [10])))).map B) 2 = .str (B ((spN 2 (L (tsB x (B [10])))).getD 2 [])) := by
            simp only [psF]
            rw [List.getD_eq_getElem?_getD, List.getElem?_map, List.getElem?_eq_getElem h3, List.getD_eq_getElem?_getD, List.getElem?_eq_getElem h3]; rfl
          have hm := spN_le 2 _ _ (show (spN 2 (L (tsB x (B [10])))).getD 2 [] ∈ spN 2 (L (tsB x (B [10]))) by
            rw [List.getD_eq_getElem?_getD, List.getElem?_eq_getElem h3]; exact List.getElem_mem h3)
          generalize hW : (spN 2 (L (tsB x (B [10])))).getD 2 [] = wd at hw2 hm
          have hb1 : (B wd).size ≤ 400000000 := by rw [size_B]; rw [← size_L] at hm; omega
          have hb2 : (B (unL wd)).size ≤ 400000000 := by rw [size_B]; have := unL_le wd; rw [← size_L] at hm; omega
          by_cases hq : liB (B (unL wd)) = x
          · have hyes := lineR_yes x hw (by rw [hW]; exact hq)
            have hqb : (liB (B (unL wd)) == x) = true := beq_iff_eq.2 hq
            rw [hW] at hyes
            repeat' (first | apply run_seq | apply run_skip | apply run_block | apply run_blk | apply run_region | apply runL_nil | refine runxP (by simp only [go_sem, hd3, hw2, hqb, L_B]; rfl) (by rfl) ?_ ?_ | refine stepcall K53 (by simp only [go_sem, hd3, hw2, hqb, L_B]; first | done | rfl) ?_ ⟨x, B [10], hsz, rfl, rfl⟩ (by simp only [go_sem, hd3, hw2, hqb, L_B]; rfl) ?_ | refine stepcall K52 (by simp only [go_sem, hd3, hw2, hqb, L_B]; first | done | rfl) ?_ ⟨tsB x (B [10]), hts, rfl, rfl⟩ (by simp only [go_sem, hd3, hw2, hqb, L_B]; rfl) ?_ | refine stepcall K54 (by simp only [go_sem, hd3, hw2, hqb, L_B]; first | done | rfl) ?_ ⟨B wd, hb1, rfl, rfl⟩ (by simp only [go_sem, hd3, hw2, hqb, L_B]; rfl) ?_ | refine stepcall K44 (by simp only [go_sem, hd3, hw2, hqb, L_B]; first | done | rfl) ?_ ⟨B (unL wd), hb2, rfl, rfl⟩ (by simp only [go_sem, hd3, hw2, hqb, L_B]; rfl) ?_ | refine stepcallYAg [1000, 1001, 1002] Y (by first | (simp only [go_sem, hd3, hw2, hqb, L_B]; done) | (simp only [go_sem, hd3, hw2, hqb, L_B]; rfl)) hY (by rfl) (by rfl) (by simp only [go_sem, hd3, hw2, hqb, L_B]; first | done | rfl) (by first | (simp only [go_sem, hd3, hw2, hqb, L_B]; done) | rfl) (by first | (simp only [go_sem, hd3, hw2, hqb, L_B]; done) | (simp only [go_sem, hd3, hw2, hqb, L_B]; rfl)) ?_ ⟨B (unL wd), qs, ⟨hb2, hql⟩, rfl, rfl, rfl, rfl⟩ (by simp only [go_sem, hd3, hw2, hqb, L_B]; rfl) ?_ | refine runL_gT 23 (by rfl) (by simp only [go_sem, hd3, hw2, hqb, L_B]; first | done | rfl) ?_ | (refine run_cond (by simp only [go_sem, hd3, hw2, hqb, L_B]; rfl) ?_ ?_ <;> intro hb <;> have hc := hb <;> (try simp only [decide_eq_true_eq, decide_eq_false_iff_not, Int.not_lt, Int.not_le, Int.ofNat_lt, Int.ofNat_le, Bool.and_eq_true, Bool.or_eq_true, Bool.or_eq_false_iff, Bool.not_eq_true', Bool.not_eq_false', beq_iff_eq, beq_eq_false_iff_ne, bne_iff_ne, bne_eq_false_iff_eq] at hc) <;> (try (exfalso; simp at hc; done))) | exact True.intro | exact rfl | (show allP _; first | exact True.intro | (simp only [allP, go_sem, Bool.not_eq_true', Bool.not_eq_false', implies_true, true_and, and_true, and_self, imp_self]; done) | (simp [allP, go_sem]; done) | (simp [allP, go_sem] at *; first | done | assumption | omega | (simp_all; done)) | (simp only [allP, go_sem]; intros; simp_all; done) | (simp only [allP, go_sem, ByteArray.size_append, size_mk, List.size_toArray, List.length_append, List.length_cons, List.length_nil, and_true, true_and]; (repeat' apply And.intro) <;> omega)))
            have hrec : recO' qs (L x) = qs ++ [B (unL wd)] := by unfold recO'; rw [hyes]; rfl
            rw [hrec]
            refine run_round_end ?_
            (show subO _ _; simp only [go_sem]; repeat' (first | exact SLe.any1 | exact trivial | exact True.intro | exact SLe.refl _ | exact OLe.refl _ | exact ⟨_, rfl, OLe.refl _⟩ | refine ⟨_, rfl, ?_⟩ | refine OLe.var ?_ | (show SLeL _ _; refine ⟨?_, ?_⟩) | (show SLeL [] []; exact True.intro) | (refine SLe.int ?_; rw [w64]; omega) | refine SLe.int ?_ | refine SLe.bool ?_ | apply And.intro))
          · have hno := lineR_no x hw (by rw [hW]; exact hq)
            have hqb : (liB (B (unL wd)) == x) = false := beq_eq_false_iff_ne.2 hq
            repeat' (first | apply run_seq | apply run_skip | apply run_block | apply run_blk | apply run_region | apply runL_nil | refine runxP (by simp only [go_sem, hd3, hw2, hqb, L_B]; rfl) (by rfl) ?_ ?_ | refine stepcall K53 (by simp only [go_sem, hd3, hw2, hqb, L_B]; first | done | rfl) ?_ ⟨x, B [10], hsz, rfl, rfl⟩ (by simp only [go_sem, hd3, hw2, hqb, L_B]; rfl) ?_ | refine stepcall K52 (by simp only [go_sem, hd3, hw2, hqb, L_B]; first | done | rfl) ?_ ⟨tsB x (B [10]), hts, rfl, rfl⟩ (by simp only [go_sem, hd3, hw2, hqb, L_B]; rfl) ?_ | refine stepcall K54 (by simp only [go_sem, hd3, hw2, hqb, L_B]; first | done | rfl) ?_ ⟨B wd, hb1, rfl, rfl⟩ (by simp only [go_sem, hd3, hw2, hqb, L_B]; rfl) ?_ | refine stepcall K44 (by simp only [go_sem, hd3, hw2, hqb, L_B]; first | done | rfl) ?_ ⟨B (unL wd), hb2, rfl, rfl⟩ (by simp only [go_sem, hd3, hw2, hqb, L_B]; rfl) ?_ | refine runL_gF 23 (by simp only [go_sem, hd3, hw2, hqb, L_B]; rfl) (by rfl) (by simp only [go_sem, hd3, hw2, hqb, L_B]; first | done | rfl) (by simp only [go_sem, hd3, hw2, hqb, L_B]; rfl) ?_ | (refine run_cond (by simp only [go_sem, hd3, hw2, hqb, L_B]; rfl) ?_ ?_ <;> intro hb <;> have hc := hb <;> (try simp only [decide_eq_true_eq, decide_eq_false_iff_not, Int.not_lt, Int.not_le, Int.ofNat_lt, Int.ofNat_le, Bool.and_eq_true, Bool.or_eq_true, Bool.or_eq_false_iff, Bool.not_eq_true', Bool.not_eq_false', beq_iff_eq, beq_eq_false_iff_ne, bne_iff_ne, bne_eq_false_iff_eq] at hc) <;> (try (exfalso; simp at hc; done))) | exact True.intro | exact rfl | (show allP _; first | exact True.intro | (simp only [allP, go_sem, Bool.not_eq_true', Bool.not_eq_false', implies_true, true_and, and_true, and_self, imp_self]; done) | (simp [allP, go_sem]; done) | (simp [allP, go_sem] at *; first | done | assumption | omega | (simp_all; done)) | (simp only [allP, go_sem]; intros; simp_all; done) | (simp only [allP, go_sem, ByteArray.size_append, size_mk, List.size_toArray, List.length_append, List.length_cons, List.length_nil, and_true, true_and]; (repeat' apply And.intro) <;> omega)))
            have hrec : recO' qs (L x) = qs := by unfold recO'; rw [hno]; simp
            rw [hrec]
            refine run_round_end ?_
            (show subO _ _; simp only [go_sem]; repeat' (first | exact SLe.any1 | exact trivial | exact True.intro | exact SLe.refl _ | exact OLe.refl _ | exact ⟨_, rfl, OLe.refl _⟩ | refine ⟨_, rfl, ?_⟩ | refine OLe.var ?_ | (show SLeL _ _; refine ⟨?_, ?_⟩) | (show SLeL [] []; exact True.intro) | (refine SLe.int ?_; rw [w64]; omega) | refine SLe.int ?_ | refine SLe.bool ?_ | apply And.intro))
end Go.Sx
