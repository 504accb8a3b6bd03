/- Part of the proofs that the laws of the journal return true for every input: L33. -/
import Derived.Test.YtiddnjgnjmdobaaGreatDoorL32
set_option linter.unusedVariables false
set_option linter.unusedSimpArgs false
set_option linter.all false
/-! L33: the program's Open, where it opens. -/
namespace Go.Sx
theorem run_keep {P : Program} {F : List Nat} {w0 : Base} {fin : Exit → Act → World → Prop} {k : List It} {s : St} (ns : List Nat) {l : List (Nat × SD)} (hl : keepS s.sl ns = l) (hn : Run P F w0 fin k ⟨s.n, s.nx, l, s.ow⟩) : Run P F w0 fin k s := fun h e a w D =>
  hn h e a w (hl ▸ D.weak' (s' := ⟨s.n, s.nx, keepS s.sl ns, s.ow⟩) rfl (subS_keep ns) fun k o h => ⟨o, h, OLe.refl o⟩)
theorem psF_add (ps : List ByteArray) (x : ByteArray) (f : Nat → SD) (hf : f 0 = .str x) (i : Nat) (hi : i < ps.length + 1) : joinF ps.length (psF ps) f i = psF (ps ++ [x]) i := by
  simp only [joinF, psF]
  by_cases h : i < ps.length
  · rw [if_pos h, List.getD_eq_getElem?_getD, List.getD_eq_getElem?_getD, List.getElem?_append_left h]
  · have : i = ps.length := by omega
    subst this
    rw [if_neg h, Nat.sub_self, hf]
    simp
theorem oleAdd (ps : List ByteArray) (x : ByteArray) {f : Nat → SD} (hf : f 0 = .str x) : OLe (.acc 9 1 (ps.length + 1) (joinF ps.length (psF ps) f)) (eA (ps ++ [x])) := OLe.accS (by simp) fun i hi => psF_add ps x f hf i hi
open Go.Proofs Go.RowKit
attribute [local irreducible] Run RunL RunD OpT SLe0 SLe OLe
set_option maxHeartbeats 2000000
set_option maxRecDepth 8000
set_option linter.unusedSimpArgs false
set_option linter.unusedVariables false
attribute [go_sem] recO rawOB aftD rfS stE entS del Option.isNone
theorem psF_strs (l : List ByteArray) : SLe (.list 1 l.length (psF l)) (strs l) := SLe.list rfl fun _ _ => rfl
set_option maxHeartbeats 20000000
theorem K22t : FnM Tryz.prog 22 (fun ds os d os' => ∃ (k : Dk), (k.t.size ≤ 300000000 ∧ opOk k = true) ∧ ds = [.loc 1000 0] ∧ os = [eDk k] ∧ d = .tup [.loc 0 0, strs ((recs [] (L (opD k).t)).map B)] ∧ os' = [(1000, eDk (opD k)), (0, eLg 1000 ⟨((recs [] (L (opD k).t)).length : Int), false⟩)]) := by
  refine fn_introMX Tryz.call22 Tryz.func22 rfl Tryz.ntmps22 ?_
  rintro ds os d os' ⟨k, ⟨h1, h2⟩, rfl, rfl, rfl, rfl⟩
  refine ⟨by simp, fun F w0 => ?_⟩
  have b1 : (B [10]).size = 1 := rfl
  have hs1 : k.t.size + (B [10]).size ≤ 9223372036854775807 := by rw [b1]; omega
  have hof : k.off = false := opOff h2
  have hlaw := open_law k h2
  have hss : k.t.size ≤ 68719476736 ∧ (B [10]).size ≤ 68719476736 := ⟨by omega, by rw [b1]; omega⟩
  cases hl : lastN k.t
  · simp only [opD, hl, cond_false] at hlaw ⊢
    by_cases hz : k.t.size > 0
    · have hne : (k.t == ByteArray.empty) = false := beq_eq_false_iff_ne.2 fun hx => by rw [hx] at hz; simp at hz
      have hsf : sufB k.t (B [10]) = true := by rw [sufB_last _ hz, hl]; rfl
      repeat' (first | apply run_seq | apply run_skip | apply run_block | apply run_region | apply runL_nil | refine runxP (by simp only [go_sem, hof, hne, hsf]; rfl) (by rfl) ?_ ?_ | refine stepcallg 23 (by rfl) (by simp only [go_sem, hof, hne, hsf]; rfl) K41 (by simp only [go_sem, hof, hne, hsf]; first | done | rfl) (fun hg => ?_) (fun _ => ⟨k.t, B [10], hss, rfl, rfl⟩) (by simp only [go_sem, hof, hne, hsf]; rfl) ?_ | refine stepcall K43 (by simp only [go_sem, hof, hne, hsf]; first | done | rfl) ?_ ⟨k.t, rfl, rfl⟩ (by simp only [go_sem, hof, hne, hsf]; rfl) ?_ | refine runL_gF 31 (by simp only [go_sem, hof, hne, hsf]; rfl) (by rfl) (by simp only [go_sem, hof, hne, hsf]; first | done | rfl) (by simp only [go_sem, hof, hne, hsf]; rfl) ?_ | (refine run_cond (by simp only [go_sem, hof, hne, hsf]; rfl) ?_ ?_ <;> intro hb <;> have hc := hb <;> (try simp only [decide_eq_true_eq, decide_eq_false_iff_not, Int.not_lt, Int.not_le, Int.ofNat_lt, Int.ofNat_le, Bool.and_eq_true, Bool.or_eq_true, Bool.or_eq_false_iff, Bool.not_eq_true', Bool.not_eq_false', beq_iff_eq, beq_eq_false_iff_ne, bne_iff_ne, bne_eq_false_iff_eq] at hc) <;> (try (exfalso; simp at hc; done))) | exact True.intro | exact rfl | (show allP _; first | exact True.intro | (simp only [allP, go_sem, Bool.not_eq_true', Bool.not_eq_false', implies_true, true_and, and_true, and_self, imp_self]; done) | (simp [allP, go_sem]; done) | (simp [allP, go_sem] at *; first | done | assumption | omega | (simp_all; done)) | (simp only [allP, go_sem]; intros; simp_all; done) | (simp only [allP, go_sem, ByteArray.size_append, size_mk, List.size_toArray, List.length_append, List.length_cons, List.length_nil, and_true, true_and]; (repeat' apply And.intro) <;> omega)))
      refine run_nilaccV 1 0 9 1 (psF []) rfl rfl (by simp only [List.set]; rfl) rfl ?_
      refine run_keep [4, 5, 40] (by simp only [go_sem]; rfl) ?_
      refine run_rangeFuncO [1, 2] (gf := 50) (os := [eV, eA []]) (osu' := [eV, eA ((recs [] (L k.t)).map B)]) (pe := none) rfl (by simp only [go_sem]; rfl) (by rfl) (by rfl) (by rfl) (by rfl) (fun r K => by rfl) (fun h1 bl r hps has hbd htm hbl1 hle hfx hsl => ?hit) (fun r K => by simp only [go_sem]; rfl) (fun r K => by rfl) (fun r K => ?hk)
      case hk =>
        refine run_st (s' := ?_) (by simp only [go_sem]; rfl) ?_
        simp only [contK]
        change Run _ _ ⟨w0, none, [{ target := .collected K, args := #[] }]⟩ _ _ _
        have hlm : (((recs [] (L k.t)).map B).length : Int) = ((recs [] (L k.t)).length : Int) := by rw [List.length_map]
        repeat' (first | refine run_frz 2 (by simp only [go_sem]; rfl) ?_ | apply run_seq | apply run_blk | apply run_region | apply run_draw | apply runL_nil | refine runxP (by simp only [go_sem, List.length_map]; rfl) (by rfl) ?_ ?_ | refine runDqP (by simp only [go_sem, List.length_map]; rfl) (by rfl) ?_ ?_ | refine runD_end (by kernel_rfl) (by kernel_rfl) ?_ | exact True.intro | exact rfl)
        refine run_retMX1 3 K (by rfl) (by rfl) (by simp only [go_sem]; rfl) ?_ ?_
        · refine SLe.tup ?_
          exact ⟨SLe.refl _, by have := psF_strs ((recs [] (L k.t)).map B); rwa [List.length_map] at this, True.intro⟩
        · (show subO _ _; simp only [go_sem]; repeat' (first | exact SLe.any1 | exact trivial | exact True.intro | exact SLe.refl _ | exact OLe.refl _ | exact ⟨_, rfl, OLe.refl _⟩ | refine ⟨_, rfl, ?_⟩ | refine OLe.var ?_ | (show SLeL _ _; refine ⟨?_, ?_⟩) | (show SLeL [] []; exact True.intro) | (refine SLe.int ?_; rw [w64]; omega) | refine SLe.int ?_ | refine SLe.bool ?_ | apply And.intro))
          exact hof.symm
      case hit =>
        refine (K50 r h1 bl (by simpa using hbl1) ?Y).weaken ?w
        case w =>
          rintro ds os d os' ⟨rfl, rfl, rfl, rfl⟩
          exact ⟨k.t, [], ⟨by omega, by simp; omega⟩, rfl, rfl, rfl, by rw [hlaw]; rfl⟩
        case Y =>
          obtain ⟨c0, c1, c2, rfl⟩ : ∃ b0 b1 b2, bl = [b0, b1, b2] := by
            match bl, hbl1 with
            | [b0, b1, b2], _ => exact ⟨b0, b1, b2, rfl⟩
          refine yld_intro r [(5, .loc 1000 0)] 53 r.l rfl htm (by rw [hps]; simp) (fun h e hl hb t => by
            by_cases ht : t = 5
            · subst ht; exact hsl h e hl hb 5
            · have : lkp [(5, SD.loc 1000 0)] t = .any := by simp only [lkp]; rw [beqF (fun hc => ht hc.symm)]; rfl
              rw [this]; simp only [rep]) ?_
          rintro ds os d os' ⟨x, qs, ⟨hx, hql⟩, rfl, rfl, rfl, rfl⟩
          refine ⟨[eV, eA qs], [eV, eA (qs ++ [x])], none, ?sA, rfl, rfl, rfl, rfl, rfl, by rw [hps]; rfl, fun F w0 han2 => ?g1, ?g2, fun F w0 han2 => ?g3⟩
          case g1 =>
            rw [has, hps]
            change Run _ F _ _ _ ⟨53, 0, upd [(5, .loc 1000 0)] 41 (.str x), _⟩
            repeat' (first | apply run_region | apply runL_nil | refine runxP (by simp only [go_sem]; rfl) (by rfl) ?_ ?_ | exact True.intro | exact rfl)
            exact run_here
          case g2 => rfl
          case g3 =>
            rw [hbd]
            repeat' (first | apply run_block | apply run_blk | apply run_region | apply runL_nil | refine runxP (by simp only [go_sem, menM]; rfl) (by rfl) ?_ ?_ | exact rfl | (show allP _; first | exact True.intro | (simp only [allP, go_sem, Bool.not_eq_true', Bool.not_eq_false', implies_true, true_and, and_true, and_self, imp_self]; done) | (simp [allP, go_sem]; done) | (simp [allP, go_sem] at *; first | done | assumption | omega | (simp_all; done)) | (simp only [allP, go_sem]; intros; simp_all; done) | (simp only [allP, go_sem, ByteArray.size_append, size_mk, List.size_toArray, List.length_append, List.length_cons, List.length_nil, and_true, true_and]; (repeat' apply And.intro) <;> omega)))
            refine run_accLe (o' := eA (qs ++ [x])) 1001 (by rfl) (oleAdd qs x rfl) ?_
            refine run_round_end ?_
            (show subO _ _; simp only [go_sem]; repeat' (first | exact SLe.any1 | exact trivial | exact True.intro | exact SLe.refl _ | exact OLe.refl _ | exact ⟨_, rfl, OLe.refl _⟩ | refine ⟨_, rfl, ?_⟩ | refine OLe.var ?_ | (show SLeL _ _; refine ⟨?_, ?_⟩) | (show SLeL [] []; exact True.intro) | (refine SLe.int ?_; rw [w64]; omega) | refine SLe.int ?_ | refine SLe.bool ?_ | apply And.intro))
    · have hne : (k.t == ByteArray.empty) = true := beq_iff_eq.2 (ByteArray.ext (Array.ext' (List.eq_nil_of_length_eq_zero (by have : (L k.t).length = 0 := by { rw [← size_L]; omega }
                                                                                                                               exact this))))
      repeat' (first | apply run_seq | apply run_skip | apply run_block | apply run_region | apply runL_nil | refine runxP (by simp only [go_sem, hof, hne]; rfl) (by rfl) ?_ ?_ | refine stepcall K43 (by simp only [go_sem, hof, hne]; first | done | rfl) ?_ ⟨k.t, rfl, rfl⟩ (by simp only [go_sem, hof, hne]; rfl) ?_ | refine runL_gF 23 (by simp only [go_sem, hof, hne]; rfl) (by rfl) (by simp only [go_sem, hof, hne]; first | done | rfl) (by simp only [go_sem, hof, hne]; rfl) ?_ | refine runL_gF 31 (by simp only [go_sem, hof, hne]; rfl) (by rfl) (by simp only [go_sem, hof, hne]; first | done | rfl) (by simp only [go_sem, hof, hne]; rfl) ?_ | (refine run_cond (by simp only [go_sem, hof, hne]; rfl) ?_ ?_ <;> intro hb <;> have hc := hb <;> (try simp only [decide_eq_true_eq, decide_eq_false_iff_not, Int.not_lt, Int.not_le, Int.ofNat_lt, Int.ofNat_le, Bool.and_eq_true, Bool.or_eq_true, Bool.or_eq_false_iff, Bool.not_eq_true', Bool.not_eq_false', beq_iff_eq, beq_eq_false_iff_ne, bne_iff_ne, bne_eq_false_iff_eq] at hc) <;> (try (exfalso; simp at hc; done))) | exact True.intro | exact rfl | (show allP _; first | exact True.intro | (simp only [allP, go_sem, Bool.not_eq_true', Bool.not_eq_false', implies_true, true_and, and_true, and_self, imp_self]; done) | (simp [allP, go_sem]; done) | (simp [allP, go_sem] at *; first | done | assumption | omega | (simp_all; done)) | (simp only [allP, go_sem]; intros; simp_all; done) | (simp only [allP, go_sem, ByteArray.size_append, size_mk, List.size_toArray, List.length_append, List.length_cons, List.length_nil, and_true, true_and]; (repeat' apply And.intro) <;> omega)))
      refine run_nilaccV 1 0 9 1 (psF []) rfl rfl (by simp only [List.set]; rfl) rfl ?_
      refine run_keep [4, 5, 40] (by simp only [go_sem]; rfl) ?_
      refine run_rangeFuncO [1, 2] (gf := 50) (os := [eV, eA []]) (osu' := [eV, eA ((recs [] (L k.t)).map B)]) (pe := none) rfl (by simp only [go_sem]; rfl) (by rfl) (by rfl) (by rfl) (by rfl) (fun r K => by rfl) (fun h1 bl r hps has hbd htm hbl1 hle hfx hsl => ?hitb) (fun r K => by simp only [go_sem]; rfl) (fun r K => by rfl) (fun r K => ?hkb)
      case hkb =>
        refine run_st (s' := ?_) (by simp only [go_sem]; rfl) ?_
        simp only [contK]
        change Run _ _ ⟨w0, none, [{ target := .collected K, args := #[] }]⟩ _ _ _
        have hlm : (((recs [] (L k.t)).map B).length : Int) = ((recs [] (L k.t)).length : Int) := by rw [List.length_map]
        repeat' (first | refine run_frz 2 (by simp only [go_sem]; rfl) ?_ | apply run_seq | apply run_blk | apply run_region | apply run_draw | apply runL_nil | refine runxP (by simp only [go_sem, List.length_map]; rfl) (by rfl) ?_ ?_ | refine runDqP (by simp only [go_sem, List.length_map]; rfl) (by rfl) ?_ ?_ | refine runD_end (by kernel_rfl) (by kernel_rfl) ?_ | exact True.intro | exact rfl)
        refine run_retMX1 3 K (by rfl) (by rfl) (by simp only [go_sem]; rfl) ?_ ?_
        · refine SLe.tup ?_
          exact ⟨SLe.refl _, by have := psF_strs ((recs [] (L k.t)).map B); rwa [List.length_map] at this, True.intro⟩
        · (show subO _ _; simp only [go_sem]; repeat' (first | exact SLe.any1 | exact trivial | exact True.intro | exact SLe.refl _ | exact OLe.refl _ | exact ⟨_, rfl, OLe.refl _⟩ | refine ⟨_, rfl, ?_⟩ | refine OLe.var ?_ | (show SLeL _ _; refine ⟨?_, ?_⟩) | (show SLeL [] []; exact True.intro) | (refine SLe.int ?_; rw [w64]; omega) | refine SLe.int ?_ | refine SLe.bool ?_ | apply And.intro))
          exact hof.symm
      case hitb =>
        refine (K50 r h1 bl (by simpa using hbl1) ?Yb).weaken ?wb
        case wb =>
          rintro ds os d os' ⟨rfl, rfl, rfl, rfl⟩
          exact ⟨k.t, [], ⟨by omega, by simp; omega⟩, rfl, rfl, rfl, by rw [hlaw]; rfl⟩
        case Yb =>
          obtain ⟨c0, c1, c2, rfl⟩ : ∃ b0 b1 b2, bl = [b0, b1, b2] := by
            match bl, hbl1 with
            | [b0, b1, b2], _ => exact ⟨b0, b1, b2, rfl⟩
          refine yld_intro r [(5, .loc 1000 0)] 53 r.l rfl htm (by rw [hps]; simp) (fun h e hl hb t => by
            by_cases ht : t = 5
            · subst ht; exact hsl h e hl hb 5
            · have : lkp [(5, SD.loc 1000 0)] t = .any := by simp only [lkp]; rw [beqF (fun hc => ht hc.symm)]; rfl
              rw [this]; simp only [rep]) ?_
          rintro ds os d os' ⟨x, qs, ⟨hx, hql⟩, rfl, rfl, rfl, rfl⟩
          refine ⟨[eV, eA qs], [eV, eA (qs ++ [x])], none, ?sAb, rfl, rfl, rfl, rfl, rfl, by rw [hps]; rfl, fun F w0 han2 => ?g1b, ?g2b, fun F w0 han2 => ?g3b⟩
          case g1b =>
            rw [has, hps]
            change Run _ F _ _ _ ⟨53, 0, upd [(5, .loc 1000 0)] 41 (.str x), _⟩
            repeat' (first | apply run_region | apply runL_nil | refine runxP (by simp only [go_sem]; rfl) (by rfl) ?_ ?_ | exact True.intro | exact rfl)
            exact run_here
          case g2b => rfl
          case g3b =>
            rw [hbd]
            repeat' (first | apply run_block | apply run_blk | apply run_region | apply runL_nil | refine runxP (by simp only [go_sem, menM]; rfl) (by rfl) ?_ ?_ | exact rfl | (show allP _; first | exact True.intro | (simp only [allP, go_sem, Bool.not_eq_true', Bool.not_eq_false', implies_true, true_and, and_true, and_self, imp_self]; done) | (simp [allP, go_sem]; done) | (simp [allP, go_sem] at *; first | done | assumption | omega | (simp_all; done)) | (simp only [allP, go_sem]; intros; simp_all; done) | (simp only [allP, go_sem, ByteArray.size_append, size_mk, List.size_toArray, List.length_append, List.length_cons, List.length_nil, and_true, true_and]; (repeat' apply And.intro) <;> omega)))
            refine run_accLe (o' := eA (qs ++ [x])) 1001 (by rfl) (oleAdd qs x rfl) ?_
            refine run_round_end ?_
            (show subO _ _; simp only [go_sem]; repeat' (first | exact SLe.any1 | exact trivial | exact True.intro | exact SLe.refl _ | exact OLe.refl _ | exact ⟨_, rfl, OLe.refl _⟩ | refine ⟨_, rfl, ?_⟩ | refine OLe.var ?_ | (show SLeL _ _; refine ⟨?_, ?_⟩) | (show SLeL [] []; exact True.intro) | (refine SLe.int ?_; rw [w64]; omega) | refine SLe.int ?_ | refine SLe.bool ?_ | apply And.intro))
  · have hz : k.t.size > 0 := by
      rcases Nat.eq_zero_or_pos k.t.size with h | h
      · simp [lastN, h] at hl
      · exact h
    have hne : (k.t == ByteArray.empty) = false := beq_eq_false_iff_ne.2 fun hx => by rw [hx] at hz; simp at hz
    have hsf : sufB k.t (B [10]) = false := by rw [sufB_last _ hz, hl]; rfl
    have hpu : puOk k (B [10]) = true := by simpa [opOk, hof, hl] using h2
    have hw : wOk k = true := by cases h : wOk k <;> simp [puOk, h] at hpu ⊢
    simp only [opD, hl, cond_true] at hlaw ⊢
    have hsz2 : (puD k (B [10])).t.size ≤ 300000001 := by
      simp only [puD, hw, cond_true]
      rw [syD_t, wrD_t _ _ hw, ByteArray.size_append, b1]; omega
    repeat' (first | apply run_seq | apply run_skip | apply run_block | apply run_region | apply runL_nil | refine runxP (by simp only [go_sem, hof, hne, hsf, hpu]; rfl) (by rfl) ?_ ?_ | refine stepcallg 23 (by rfl) (by simp only [go_sem, hof, hne, hsf, hpu]; rfl) K41 (by simp only [go_sem, hof, hne, hsf, hpu]; first | done | rfl) (fun hg => ?_) (fun _ => ⟨k.t, B [10], hss, rfl, rfl⟩) (by simp only [go_sem, hof, hne, hsf, hpu]; rfl) ?_ | refine stepcallM [0, 1000] K42 (by rfl) (by simp only [go_sem, hof, hne, hsf, hpu]; first | done | rfl) (by simp only [go_sem, hof, hne, hsf, hpu]) (by first | (simp only [go_sem, hof, hne, hsf, hpu]; done) | (simp only [go_sem, hof, hne, hsf, hpu]; rfl)) ?_ ⟨⟨0, false⟩, k, B [10], hs1, rfl, rfl, rfl, rfl⟩ (by simp only [go_sem, hof, hne, hsf, hpu]; rfl) ?_ | refine stepcall K43 (by simp only [go_sem, hof, hne, hsf, hpu]; first | done | rfl) ?_ ⟨(puD k (B [10])).t, rfl, rfl⟩ (by simp only [go_sem, hof, hne, hsf, hpu]; rfl) ?_ | refine runL_gT 31 (by rfl) (by simp only [go_sem, hof, hne, hsf, hpu]; first | done | rfl) ?_ | (refine run_cond (by simp only [go_sem, hof, hne, hsf, hpu]; rfl) ?_ ?_ <;> intro hb <;> have hc := hb <;> (try simp only [decide_eq_true_eq, decide_eq_false_iff_not, Int.not_lt, Int.not_le, Int.ofNat_lt, Int.ofNat_le, Bool.and_eq_true, Bool.or_eq_true, Bool.or_eq_false_iff, Bool.not_eq_true', Bool.not_eq_false', beq_iff_eq, beq_eq_false_iff_ne, bne_iff_ne, bne_eq_false_iff_eq] at hc) <;> (try (exfalso; simp at hc; done))) | exact True.intro | exact rfl | (show allP _; first | exact True.intro | (simp only [allP, go_sem, Bool.not_eq_true', Bool.not_eq_false', implies_true, true_and, and_true, and_self, imp_self]; done) | (simp [allP, go_sem]; done) | (simp [allP, go_sem] at *; first | done | assumption | omega | (simp_all; done)) | (simp only [allP, go_sem]; intros; simp_all; done) | (simp only [allP, go_sem, ByteArray.size_append, size_mk, List.size_toArray, List.length_append, List.length_cons, List.length_nil, and_true, true_and]; (repeat' apply And.intro) <;> omega)))
    refine run_nilaccV 1 0 9 1 (psF []) rfl rfl (by simp only [List.set]; rfl) rfl ?_
    refine run_keep [4, 5, 40] (by simp only [go_sem]; rfl) ?_
    refine run_rangeFuncO [1, 2] (gf := 50) (os := [eV, eA []]) (osu' := [eV, eA ((recs [] (L (puD k (B [10])).t)).map B)]) (pe := none) rfl (by simp only [go_sem]; rfl) (by rfl) (by rfl) (by rfl) (by rfl) (fun r K => by rfl) (fun h1 bl r hps has hbd htm hbl1 hle hfx hsl => ?hitc) (fun r K => by simp only [go_sem]; rfl) (fun r K => by rfl) (fun r K => ?hkc)
    case hkc =>
      refine run_st (s' := ?_) (by simp only [go_sem]; rfl) ?_
      simp only [contK]
      change Run _ _ ⟨w0, none, [{ target := .collected K, args := #[] }]⟩ _ _ _
      have hlm : (((recs [] (L (puD k (B [10])).t)).map B).length : Int) = ((recs [] (L (puD k (B [10])).t)).length : Int) := by rw [List.length_map]
      repeat' (first | refine run_frz 2 (by simp only [go_sem]; rfl) ?_ | apply run_seq | apply run_blk | apply run_region | apply run_draw | apply runL_nil | refine runxP (by simp only [go_sem, List.length_map]; rfl) (by rfl) ?_ ?_ | refine runDqP (by simp only [go_sem, List.length_map]; rfl) (by rfl) ?_ ?_ | refine runD_end (by kernel_rfl) (by kernel_rfl) ?_ | exact True.intro | exact rfl)
      refine run_retMX1 3 K (by rfl) (by rfl) (by simp only [go_sem]; rfl) ?_ ?_
      · refine SLe.tup ?_
        exact ⟨SLe.refl _, by have := psF_strs ((recs [] (L (puD k (B [10])).t)).map B); rwa [List.length_map] at this, True.intro⟩
      · (show subO _ _; simp only [go_sem]; repeat' (first | exact SLe.any1 | exact trivial | exact True.intro | exact SLe.refl _ | exact OLe.refl _ | exact ⟨_, rfl, OLe.refl _⟩ | refine ⟨_, rfl, ?_⟩ | refine OLe.var ?_ | (show SLeL _ _; refine ⟨?_, ?_⟩) | (show SLeL [] []; exact True.intro) | (refine SLe.int ?_; rw [w64]; omega) | refine SLe.int ?_ | refine SLe.bool ?_ | apply And.intro))
    case hitc =>
      refine (K50 r h1 bl (by simpa using hbl1) ?Yc).weaken ?wc
      case wc =>
        rintro ds os d os' ⟨rfl, rfl, rfl, rfl⟩
        exact ⟨(puD k (B [10])).t, [], ⟨by omega, by simp; omega⟩, rfl, rfl, rfl, by rw [hlaw]; rfl⟩
      case Yc =>
        obtain ⟨c0, c1, c2, rfl⟩ : ∃ b0 b1 b2, bl = [b0, b1, b2] := by
          match bl, hbl1 with
          | [b0, b1, b2], _ => exact ⟨b0, b1, b2, rfl⟩
        refine yld_intro r [(5, .loc 1000 0)] 53 r.l rfl htm (by rw [hps]; simp) (fun h e hl hb t => by
          by_cases ht : t = 5
          · subst ht; exact hsl h e hl hb 5
          · have : lkp [(5, SD.loc 1000 0)] t = .any := by simp only [lkp]; rw [beqF (fun hc => ht hc.symm)]; rfl
            rw [this]; simp only [rep]) ?_
        rintro ds os d os' ⟨x, qs, ⟨hx, hql⟩, rfl, rfl, rfl, rfl⟩
        refine ⟨[eV, eA qs], [eV, eA (qs ++ [x])], none, ?sAc, rfl, rfl, rfl, rfl, rfl, by rw [hps]; rfl, fun F w0 han2 => ?g1c, ?g2c, fun F w0 han2 => ?g3c⟩
        case g1c =>
          rw [has, hps]
          change Run _ F _ _ _ ⟨53, 0, upd [(5, .loc 1000 0)] 41 (.str x), _⟩
          repeat' (first | apply run_region | apply runL_nil | refine runxP (by simp only [go_sem]; rfl) (by rfl) ?_ ?_ | exact True.intro | exact rfl)
          exact run_here
        case g2c => rfl
        case g3c =>
          rw [hbd]
          repeat' (first | apply run_block | apply run_blk | apply run_region | apply runL_nil | refine runxP (by simp only [go_sem, menM]; rfl) (by rfl) ?_ ?_ | exact rfl | (show allP _; first | exact True.intro | (simp only [allP, go_sem, Bool.not_eq_true', Bool.not_eq_false', implies_true, true_and, and_true, and_self, imp_self]; done) | (simp [allP, go_sem]; done) | (simp [allP, go_sem] at *; first | done | assumption | omega | (simp_all; done)) | (simp only [allP, go_sem]; intros; simp_all; done) | (simp only [allP, go_sem, ByteArray.size_append, size_mk, List.size_toArray, List.length_append, List.length_cons, List.length_nil, and_true, true_and]; (repeat' apply And.intro) <;> omega)))
          refine run_accLe (o' := eA (qs ++ [x])) 1001 (by rfl) (oleAdd qs x rfl) ?_
          refine run_round_end ?_
          (show subO _ _; simp only [go_sem]; repeat' (first | exact SLe.any1 | exact trivial | exact True.intro | exact SLe.refl _ | exact OLe.refl _ | exact ⟨_, rfl, OLe.refl _⟩ | refine ⟨_, rfl, ?_⟩ | refine OLe.var ?_ | (show SLeL _ _; refine ⟨?_, ?_⟩) | (show SLeL [] []; exact True.intro) | (refine SLe.int ?_; rw [w64]; omega) | refine SLe.int ?_ | refine SLe.bool ?_ | apply And.intro))
end Go.Sx
