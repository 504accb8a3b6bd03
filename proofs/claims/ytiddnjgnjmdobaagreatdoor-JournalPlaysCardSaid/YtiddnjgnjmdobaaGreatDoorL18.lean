/- Part of the proofs that the laws of the journal return true for every input: L17, L18. -/
import Derived.Test.YtiddnjgnjmdobaaGreatDoorL8
set_option linter.unusedVariables false
set_option linter.unusedSimpArgs false
set_option linter.all false
/-! L17: small functions of the law. -/
namespace Go.Sx
open Go.Proofs Go.RowKit
attribute [local irreducible] Run RunL RunD SLe0 SLe OLe
set_option maxHeartbeats 2000000
set_option maxRecDepth 8000
set_option linter.unusedSimpArgs false
set_option linter.unusedVariables false
/-- The remainder that is never below zero, as the program computes it. -/
def modI (n m : Int) : Int := (n.tmod m + m).tmod m
theorem K38 : FnOK Tryz.prog 38 (fun ds d => ∃ n m : Int, (0 ≤ n ∧ n < 1000000000 ∧ 0 < m ∧ m < 1000000000) ∧ ds = [.int .i64 n, .int .i64 m] ∧ d = .int .i64 (modI n m)) := by
  refine fn_intro Tryz.call38 Tryz.func38 rfl Tryz.ntmps38 ?_
  rintro ds d ⟨n, m, hn, rfl, rfl⟩
  refine ⟨by simp, fun w0 => ?_⟩
  obtain ⟨h1, h2, h3, h4⟩ := hn
  repeat' (first | apply run_seq | apply run_region | apply runL_nil | refine runxP (by simp only [go_sem]; rfl) (by rfl) ?_ ?_ | refine run_ret (by rfl) ?_ | exact True.intro | exact rfl | refine SLe0.int ?_ | (show allP _; first | exact True.intro | (simp only [allP, go_sem, Bool.not_eq_true', Bool.not_eq_false', implies_true, true_and, and_true, and_self, imp_self]; done) | (simp [allP, go_sem]; done) | (simp [allP, go_sem] at *; first | done | assumption | omega | (simp_all; done)) | (simp only [allP, go_sem]; intros; simp_all; done) | (simp only [allP, go_sem, ByteArray.size_append, size_mk, List.size_toArray, List.length_append, List.length_cons, List.length_nil, and_true, true_and]; (repeat' apply And.intro) <;> omega)))
  have g1 := Int.tmod_nonneg m h1
  have g2 := Int.tmod_lt_of_pos n h3
  have hw : IntKind.i64.wrap (n.tmod m + m) = n.tmod m + m := by rw [w64]; omega
  rw [hw, modI]
theorem K13 : FnOK Tryz.prog 13 (fun ds d => ∃ (a b : Int) (s : ByteArray), (0 ≤ b ∧ b < 256) ∧ ds = [.agg [.int .u8 a, .int .u8 b, .str s]] ∧ d = .int .i64 (b % 40 - 1)) := by
  refine fn_intro Tryz.call13 Tryz.func13 rfl Tryz.ntmps13 ?_
  rintro ds d ⟨a, b, s, hb, rfl, rfl⟩
  refine ⟨by simp, fun w0 => ?_⟩
  obtain ⟨h1, h2⟩ := hb
  have hw : IntKind.i64.wrap b = b := by rw [w64]; omega
  have hm : modI b 40 = b % 40 := by
    unfold modI
    rw [Int.tmod_eq_emod_of_nonneg h1, Int.tmod_eq_emod_of_nonneg (by omega)]; omega
  have hw2 : IntKind.i64.wrap (b % 40 - 1) = b % 40 - 1 := by rw [w64]; omega
  repeat' (first | apply run_seq | apply run_region | apply runL_nil | refine runxP (by simp only [go_sem, hw, hm, hw2]; rfl) (by rfl) ?_ ?_ | refine stepcall K38 (by simp only [go_sem, hw, hm, hw2]; first | done | rfl) ?_ ⟨b, 40, ⟨h1, by omega, by omega, by omega⟩, rfl, rfl⟩ (by simp only [go_sem, hw, hm, hw2]; rfl) ?_ | refine run_ret (by rfl) ?_ | exact True.intro | exact rfl | refine SLe0.int ?_)
theorem K35 : FnOK Tryz.prog 35 (fun ds d => ∃ s : ByteArray, s.size ≤ 1000000000 ∧ ds = [.str s] ∧ d = .str (B (hexL (dgR s)))) := by
  refine fn_intro Tryz.call35 Tryz.func35 rfl Tryz.ntmps35 ?_
  rintro ds d ⟨s, hs, rfl, rfl⟩
  refine ⟨by simp, fun w0 => ?_⟩
  have hd : (B (dgR s)).size ≤ 1000000000 := by rw [size_B, dgR_len]; omega
  repeat' (first | apply run_seq | apply run_region | apply runL_nil | refine runxP (by simp only [go_sem]; rfl) (by rfl) ?_ ?_ | refine stepcall K37 (by simp only [go_sem]; first | done | rfl) ?_ ⟨s, hs, rfl, rfl⟩ (by simp only [go_sem]; rfl) ?_ | refine stepcall K36 (by simp only [go_sem]; first | done | rfl) ?_ ⟨B (dgR s), hd, rfl, rfl⟩ (by simp only [go_sem]; rfl) ?_ | refine run_ret (by rfl) ?_ | exact True.intro | exact rfl | refine SLe0.str ?_)
end Go.Sx

/-! L18: the log: the program's Append, told that the program's line is right. -/
namespace Go.Sx
open Go.Proofs Go.RowKit
attribute [local irreducible] Run RunL RunD SLe0 SLe OLe
set_option maxHeartbeats 2000000
set_option maxRecDepth 8000
set_option linter.unusedSimpArgs false
set_option linter.unusedVariables false
theorem K25of (K44 : FnOK Tryz.prog 44 (fun ds d => ∃ s : ByteArray, s.size ≤ 400000000 ∧ ds = [.str s] ∧ d = .str (liB s))) : FnM Tryz.prog 25 (fun ds os d os' => ∃ (l : Lg) (k : Dk) (s : ByteArray), (k.t.size ≤ 400000000 ∧ s.size ≤ 400000000) ∧ ds = [.loc 1000 0, .str s] ∧ os = [eLg 1001 l, eDk k] ∧ d = eInt (apE l k s) ∧ os' = [(1000, eLg 1001 (apL l k s)), (1001, eDk (apK l k s))]) := by
  refine fn_introM Tryz.call25 Tryz.func25 rfl Tryz.ntmps25 ?_
  rintro ds os d os' ⟨l, k, s, ⟨h1, h2⟩, rfl, rfl, rfl, rfl⟩
  refine ⟨by simp, fun F w0 => ?_⟩
  have hls : (liB s).size ≤ 900000000 := by
    have := lineL_len (L s) (by rw [← size_L]; exact h2)
    rw [← size_L] at this
    simp only [liB, size_B]; omega
  have hsm : k.t.size + (liB s).size ≤ 9223372036854775807 := by omega
  have e1 : IntKind.i64.wrap ((k.t.size : Int) + ((liB s).size : Int)) = ((k.t.size + (liB s).size : Nat) : Int) := by rw [w64]; omega
  obtain ⟨n, br⟩ := l
  cases br
  · by_cases hbig : k.t.size + (liB s).size > 262144
    · have hbi : (262144 : Int) < ((k.t.size + (liB s).size : Nat) : Int) := by omega
      simp only [apE, apL, apK, cond_false, hbig, decide_true, cond_true]
      repeat' (first | apply run_seq | apply run_skip | apply run_block | apply run_region | apply runL_nil | refine runxP (by simp only [go_sem, e1, hbi]; rfl) (by rfl) ?_ ?_ | refine stepcall K44 (by simp only [go_sem, e1, hbi]; first | done | rfl) ?_ ⟨s, h2, rfl, rfl⟩ (by simp only [go_sem, e1, hbi]; rfl) ?_ | (refine run_cond (by simp only [go_sem, e1, hbi]; rfl) ?_ ?_ <;> intro hb <;> have hc := hb <;> (try simp only [decide_eq_true_eq, decide_eq_false_iff_not, Int.not_lt, Int.not_le, Int.ofNat_lt, Int.ofNat_le, Bool.and_eq_true, Bool.or_eq_true, Bool.or_eq_false_iff, Bool.not_eq_true', Bool.not_eq_false', beq_iff_eq, beq_eq_false_iff_ne, bne_iff_ne, bne_eq_false_iff_eq] at hc) <;> (try (exfalso; simp at hc; done))) | refine run_retM (by rfl) (by simp only [go_sem, e1, hbi]; rfl) ?_ ?_ | exact True.intro | exact rfl | exact SLe.refl _ | (show subO _ _; simp only [go_sem, e1, hbi]; repeat' (first | exact trivial | exact True.intro | exact SLe.refl _ | exact OLe.refl _ | exact ⟨_, rfl, OLe.refl _⟩ | refine ⟨_, rfl, ?_⟩ | refine OLe.var ?_ | (show SLeL _ _; refine ⟨?_, ?_⟩) | (show SLeL [] []; exact True.intro) | (refine SLe.int ?_; rw [w64]; omega) | refine SLe.int ?_ | refine SLe.bool ?_ | apply And.intro)) | (show allP _; first | exact True.intro | (simp only [allP, go_sem, Bool.not_eq_true', Bool.not_eq_false', implies_true, true_and, and_true, and_self, imp_self]; done) | (simp [allP, go_sem]; done) | (simp [allP, go_sem] at *; first | done | assumption | omega | (simp_all; done)) | (simp only [allP, go_sem]; intros; simp_all; done) | (simp only [allP, go_sem, ByteArray.size_append, size_mk, List.size_toArray, List.length_append, List.length_cons, List.length_nil, and_true, true_and]; (repeat' apply And.intro) <;> omega)))
    · have hbi : ¬ (262144 : Int) < ((k.t.size + (liB s).size : Nat) : Int) := by omega
      simp only [apE, apL, apK, cond_false, hbig, decide_false]
      cases hp : puOk k (liB s)
      · simp only [cond_false]
        repeat' (first | apply run_seq | apply run_skip | apply run_block | apply run_region | apply runL_nil | refine runxP (by simp only [go_sem, e1, hbi, hp]; rfl) (by rfl) ?_ ?_ | refine stepcall K44 (by simp only [go_sem, e1, hbi, hp]; first | done | rfl) ?_ ⟨s, h2, rfl, rfl⟩ (by simp only [go_sem, e1, hbi, hp]; rfl) ?_ | refine stepcallM [1000, 1001] K42 (by rfl) (by simp only [go_sem, e1, hbi, hp]; first | done | rfl) (by simp only [go_sem, e1, hbi, hp]) (by first | (simp only [go_sem, e1, hbi, hp]; done) | (simp only [go_sem, e1, hbi, hp]; rfl)) ?_ ⟨⟨n, false⟩, k, liB s, hsm, rfl, rfl, rfl, rfl⟩ (by simp only [go_sem, e1, hbi, hp]; rfl) ?_ | (refine run_cond (by simp only [go_sem, e1, hbi, hp]; rfl) ?_ ?_ <;> intro hb <;> have hc := hb <;> (try simp only [decide_eq_true_eq, decide_eq_false_iff_not, Int.not_lt, Int.not_le, Int.ofNat_lt, Int.ofNat_le, Bool.and_eq_true, Bool.or_eq_true, Bool.or_eq_false_iff, Bool.not_eq_true', Bool.not_eq_false', beq_iff_eq, beq_eq_false_iff_ne, bne_iff_ne, bne_eq_false_iff_eq] at hc) <;> (try (exfalso; simp at hc; done))) | refine run_retM (by rfl) (by simp only [go_sem, e1, hbi, hp]; rfl) ?_ ?_ | exact True.intro | exact rfl | exact SLe.refl _ | (show subO _ _; simp only [go_sem, e1, hbi, hp]; repeat' (first | exact trivial | exact True.intro | exact SLe.refl _ | exact OLe.refl _ | exact ⟨_, rfl, OLe.refl _⟩ | refine ⟨_, rfl, ?_⟩ | refine OLe.var ?_ | (show SLeL _ _; refine ⟨?_, ?_⟩) | (show SLeL [] []; exact True.intro) | (refine SLe.int ?_; rw [w64]; omega) | refine SLe.int ?_ | refine SLe.bool ?_ | apply And.intro)) | (show allP _; first | exact True.intro | (simp only [allP, go_sem, Bool.not_eq_true', Bool.not_eq_false', implies_true, true_and, and_true, and_self, imp_self]; done) | (simp [allP, go_sem]; done) | (simp [allP, go_sem] at *; first | done | assumption | omega | (simp_all; done)) | (simp only [allP, go_sem]; intros; simp_all; done) | (simp only [allP, go_sem, ByteArray.size_append, size_mk, List.size_toArray, List.length_append, List.length_cons, List.length_nil, and_true, true_and]; (repeat' apply And.intro) <;> omega)))
      · simp only [cond_true]
        repeat' (first | apply run_seq | apply run_skip | apply run_block | apply run_blk | apply run_region | apply runL_nil | refine runxP (by simp only [go_sem, e1, hbi, hp]; rfl) (by rfl) ?_ ?_ | refine stepcall K44 (by simp only [go_sem, e1, hbi, hp]; first | done | rfl) ?_ ⟨s, h2, rfl, rfl⟩ (by simp only [go_sem, e1, hbi, hp]; rfl) ?_ | refine stepcallM [1000, 1001] K42 (by rfl) (by simp only [go_sem, e1, hbi, hp]; first | done | rfl) (by simp only [go_sem, e1, hbi, hp]) (by first | (simp only [go_sem, e1, hbi, hp]; done) | (simp only [go_sem, e1, hbi, hp]; rfl)) ?_ ⟨⟨n, false⟩, k, liB s, hsm, rfl, rfl, rfl, rfl⟩ (by simp only [go_sem, e1, hbi, hp]; rfl) ?_ | (refine run_cond (by simp only [go_sem, e1, hbi, hp]; rfl) ?_ ?_ <;> intro hb <;> have hc := hb <;> (try simp only [decide_eq_true_eq, decide_eq_false_iff_not, Int.not_lt, Int.not_le, Int.ofNat_lt, Int.ofNat_le, Bool.and_eq_true, Bool.or_eq_true, Bool.or_eq_false_iff, Bool.not_eq_true', Bool.not_eq_false', beq_iff_eq, beq_eq_false_iff_ne, bne_iff_ne, bne_eq_false_iff_eq] at hc) <;> (try (exfalso; simp at hc; done))) | refine run_retM (by rfl) (by simp only [go_sem, e1, hbi, hp]; rfl) ?_ ?_ | exact True.intro | exact rfl | exact SLe.refl _ | (show subO _ _; simp only [go_sem, e1, hbi, hp]; repeat' (first | exact trivial | exact True.intro | exact SLe.refl _ | exact OLe.refl _ | exact ⟨_, rfl, OLe.refl _⟩ | refine ⟨_, rfl, ?_⟩ | refine OLe.var ?_ | (show SLeL _ _; refine ⟨?_, ?_⟩) | (show SLeL [] []; exact True.intro) | (refine SLe.int ?_; rw [w64]; omega) | refine SLe.int ?_ | refine SLe.bool ?_ | apply And.intro)) | (show allP _; first | exact True.intro | (simp only [allP, go_sem, Bool.not_eq_true', Bool.not_eq_false', implies_true, true_and, and_true, and_self, imp_self]; done) | (simp [allP, go_sem]; done) | (simp [allP, go_sem] at *; first | done | assumption | omega | (simp_all; done)) | (simp only [allP, go_sem]; intros; simp_all; done) | (simp only [allP, go_sem, ByteArray.size_append, size_mk, List.size_toArray, List.length_append, List.length_cons, List.length_nil, and_true, true_and]; (repeat' apply And.intro) <;> omega)))
  · simp only [apE, apL, apK, cond_true]
    repeat' (first | apply run_seq | apply run_skip | apply run_block | apply run_region | apply runL_nil | refine runxP (by simp only [go_sem]; rfl) (by rfl) ?_ ?_ | refine stepcall K44 (by simp only [go_sem]; first | done | rfl) ?_ ⟨s, h2, rfl, rfl⟩ (by simp only [go_sem]; rfl) ?_ | (refine run_cond (by simp only [go_sem]; rfl) ?_ ?_ <;> intro hb <;> have hc := hb <;> (try simp only [decide_eq_true_eq, decide_eq_false_iff_not, Int.not_lt, Int.not_le, Int.ofNat_lt, Int.ofNat_le, Bool.and_eq_true, Bool.or_eq_true, Bool.or_eq_false_iff, Bool.not_eq_true', Bool.not_eq_false', beq_iff_eq, beq_eq_false_iff_ne, bne_iff_ne, bne_eq_false_iff_eq] at hc) <;> (try (exfalso; simp at hc; done))) | refine run_retM (by rfl) (by simp only [go_sem]; rfl) ?_ ?_ | exact True.intro | exact rfl | exact SLe.refl _ | (show subO _ _; simp only [go_sem]; repeat' (first | exact trivial | exact True.intro | exact SLe.refl _ | exact OLe.refl _ | exact ⟨_, rfl, OLe.refl _⟩ | refine ⟨_, rfl, ?_⟩ | refine OLe.var ?_ | (show SLeL _ _; refine ⟨?_, ?_⟩) | (show SLeL [] []; exact True.intro) | (refine SLe.int ?_; rw [w64]; omega) | refine SLe.int ?_ | refine SLe.bool ?_ | apply And.intro)) | (show allP _; first | exact True.intro | (simp only [allP, go_sem, Bool.not_eq_true', Bool.not_eq_false', implies_true, true_and, and_true, and_self, imp_self]; done) | (simp [allP, go_sem]; done) | (simp [allP, go_sem] at *; first | done | assumption | omega | (simp_all; done)) | (simp only [allP, go_sem]; intros; simp_all; done) | (simp only [allP, go_sem, ByteArray.size_append, size_mk, List.size_toArray, List.length_append, List.length_cons, List.length_nil, and_true, true_and]; (repeat' apply And.intro) <;> omega)))
end Go.Sx
