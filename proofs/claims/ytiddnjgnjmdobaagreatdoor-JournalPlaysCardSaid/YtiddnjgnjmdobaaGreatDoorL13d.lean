/- Part of the proofs that the laws of the journal return true for every input: L13d. -/
import Derived.Test.YtiddnjgnjmdobaaGreatDoorL13c
set_option linter.unusedVariables false
set_option linter.unusedSimpArgs false
set_option linter.all false
/-! L13d: a generic replacer is made: that of 'show', whole. -/
namespace Go.Sx
open Go.Proofs Go.RowKit
attribute [local irreducible] Run RunL RunD SLe0 SLe OLe
set_option maxHeartbeats 2000000
set_option maxRecDepth 8000
set_option linter.unusedSimpArgs false
set_option linter.unusedVariables false
/-- How many bytes of the keys are below. -/
def kS (k : Nat) : Int := if k ≤ 92 then 0 else if k ≤ 110 then 1 else 2
theorem kS_step (k : Nat) : kS k + kF k = kS (k + 1) := by
  simp only [kS, kF]; split <;> split <;> split <;> (try split) <;> (try split) <;> omega
theorem kS_end : kS 256 = 2 := rfl
theorem kF_bd (k : Nat) : 0 ≤ kF k ∧ kF k ≤ 1 := by simp only [kF]; split <;> (try split) <;> omega
theorem kS_bd (k : Nat) : 0 ≤ kS k ∧ kS k ≤ 2 := by simp only [kS]; split <;> (try split) <;> omega
/-- The mapping when k places are done. -/
def hF (k : Nat) : Nat → Int := fun i => if i < k then gF i else kF i
theorem SLeL.refl : ∀ l : List SD, SLeL l l
  | [] => True.intro
  | a :: l => ⟨SLe.refl a, SLeL.refl l⟩
theorem m6 (a b c d e g : SD) (f : Nat → Int) (k : Nat) (v : Int) (h : k < 256) : List.take (6 + k) (a :: b :: c :: d :: e :: g :: mapL f) ++ [SD.int .u8 v] ++ List.drop (6 + k) (b :: c :: d :: e :: g :: mapL f) = a :: b :: c :: d :: e :: g :: mapL (upF f k v) := by
  rw [Nat.add_comm]
  simp only [List.take_succ_cons, List.drop_succ_cons, List.cons_append, List.append_assoc, List.nil_append]
  rw [mapL_set f k v h]
theorem hF_step (k : Nat) (v : Int) (h : v = gF k) : upF (hF k) k v = hF (k + 1) := by
  subst h; funext i; simp only [upF, hF]; split <;> split <;> (try split) <;> simp_all <;> omega
theorem hF_end : mapL (hF 256) = mapL gF := by
  unfold mapL; refine List.map_congr_left fun i hi => ?_
  have : i < 256 := by simpa using hi
  simp only [hF, if_pos this]
theorem u8w2 : IntKind.u8.wrap 2 = 2 := rfl
theorem kS_w (k : Nat) : IntKind.u8.wrap (kS k + 1) = kS k + 1 := by
  simp only [kS]; split <;> (try split) <;> rfl
theorem gS (k : Nat) (h : kF k ≠ 0) : kS k = gF k := by
  simp only [kF, kS, gF] at *; split at h <;> (try split at h) <;> simp_all
theorem gN (k : Nat) (h : kF k = 0) : 2 = gF k := by
  simp only [kF, gF] at *; split at h <;> (try split at h) <;> simp_all
section
variable {P : Program} {F : List Nat} {w0 : Base} {Q : Exit → Act → World → Prop} {id : Nat} {l : List Oper} {s0 s : St} {rs : List Rec}
theorem runDqR {r r' : List Oper} {s' : St} {p : List Prop} {q : List Rec} (h : runQ P l r s = (p, s', r')) (hp : allP p) (hr : recsOf P l r s = q) (hn : RunD P F w0 Q id l s0 (rs ++ q) r' s') : RunD P F w0 Q id l s0 rs r s :=
  runDq h hp (by rw [hr]; exact hn)
end
def leafS (v : ByteArray) (p : Int) : SD := .fp [.str v, .int .i64 p, .str ByteArray.empty, .nilp, .nils]
def innS : SD := .fp [.str ByteArray.empty, .int .i64 0, .str ByteArray.empty, .nilp, .list 1 2 (nthSD [leafS (B [92]) 4, leafS (B [10]) 2])]
/-- The replacer of 'show': its tree. -/
def treeS : List SD := .str ByteArray.empty :: .int .i64 0 :: .str ByteArray.empty :: .nilp :: .list 1 2 (nthSD [innS, .nilp]) :: .int .i64 2 :: mapL gF
theorem K98 : FnOK Tryz.prog 98 (fun ds d => ds = [.list 1 4 fun i => .str (showA.getD i ByteArray.empty)] ∧ d = .fp treeS) := by
  refine fn_intro Tryz.call98 Tryz.func98 rfl Tryz.ntmps98 ?_
  rintro ds d ⟨rfl, rfl⟩
  refine ⟨by simp, fun w0 => ?_⟩
  repeat' (first | apply run_seq | apply run_skip | apply run_block | apply run_blk | apply run_region | apply run_draw | apply runL_nil | refine runxP (by simp only [go_sem, kF_eq]; rfl) (by rfl) ?_ ?_ | refine runDqP (by simp only [go_sem, kF_eq]; rfl) (by rfl) ?_ ?_ | refine runD_end (by kernel_rfl) (by kernel_rfl) ?_ | (refine run_cond (by simp only [go_sem, kF_eq]; rfl) ?_ ?_ <;> intro hb <;> have hc := hb <;> (try simp only [decide_eq_true_eq, decide_eq_false_iff_not, Int.not_lt, Int.not_le, Int.ofNat_lt, Int.ofNat_le, Bool.and_eq_true, Bool.or_eq_true, Bool.or_eq_false_iff, Bool.not_eq_true', Bool.not_eq_false', beq_iff_eq, beq_eq_false_iff_ne, bne_iff_ne, bne_eq_false_iff_eq] at hc) <;> (try (exfalso; simp at hc; done))) | refine run_exit (by rfl) ?_ | refine run_roundsB 0 2 ?_ | refine run_roundsB 2 2 ?_ | refine run_round ?_ | exact True.intro | exact rfl | (show allP _; first | exact True.intro | (simp only [allP, go_sem, Bool.not_eq_true', Bool.not_eq_false', implies_true, true_and, and_true, and_self, imp_self]; done) | (simp [allP, go_sem]; done) | (simp [allP, go_sem] at *; first | done | assumption | omega | (simp_all; done)) | (simp only [allP, go_sem]; intros; simp_all; done) | (simp only [allP, go_sem, ByteArray.size_append, size_mk, List.size_toArray, List.length_append, List.length_cons, List.length_nil, and_true, true_and]; (repeat' apply And.intro) <;> omega)))
  refine run_loopK [0, 3, 40] (fun k : Nat => [(41, .int .i64 (k : Int))]) (fun k : Nat => [(0, .var (.str ByteArray.empty :: .int .i64 0 :: .str ByteArray.empty :: .nilp :: .nils :: .int .i64 (kS k) :: mapL kF))]) (fun k : Nat => k ≤ 256) (fun k : Nat => 256 - k) 0 (fun x => by simp only [go_sem]; rfl) ?_ (by simp only [go_sem]; repeat' (first | exact trivial | exact True.intro | exact SLe.refl _ | exact OLe.refl _ | exact ⟨_, rfl, OLe.refl _⟩ | refine ⟨_, rfl, ?_⟩ | refine OLe.var ?_ | (show SLeL _ _; refine ⟨?_, ?_⟩) | (show SLeL [] []; exact True.intro) | (refine SLe.int ?_; rw [w64]; omega) | refine SLe.int ?_ | refine SLe.bool ?_ | apply And.intro)) (by simp only [go_sem]; repeat' (first | exact trivial | exact True.intro | exact SLe.refl _ | exact OLe.refl _ | exact ⟨_, rfl, OLe.refl _⟩ | refine ⟨_, rfl, ?_⟩ | refine OLe.var ?_ | (show SLeL _ _; refine ⟨?_, ?_⟩) | (show SLeL [] []; exact True.intro) | (refine SLe.int ?_; rw [w64]; omega) | refine SLe.int ?_ | refine SLe.bool ?_ | apply And.intro)) ?_
  · exact Nat.zero_le _
  intro k hk
  have hpl : k < 256 → plT Tryz.prog 130 k = some (k, 1) := plT130_all k
  repeat' (first | apply run_seq | apply run_region | apply runL_nil | refine runxP (by simp only [go_sem]; rfl) (by rfl) ?_ ?_ | exact True.intro | exact rfl)
  (refine run_cond (by simp only [go_sem]; rfl) ?_ ?_ <;> intro hb <;> have hc := hb <;> (try simp only [decide_eq_true_eq, decide_eq_false_iff_not, Int.not_lt, Int.not_le, Int.ofNat_lt, Int.ofNat_le, Bool.and_eq_true, Bool.or_eq_true, Bool.or_eq_false_iff, Bool.not_eq_true', Bool.not_eq_false', beq_iff_eq, beq_eq_false_iff_ne, bne_iff_ne, bne_eq_false_iff_eq] at hc) <;> (try (exfalso; simp at hc; done)))
  · have hk2 : k < 256 := by omega
    have hpl := plT130_all k hk2
    have hdr := mapL_drop kF k hk2
    have hbs := kS_bd k
    have hbf := kF_bd k
    repeat' (first | apply run_seq | apply run_skip | apply run_block | apply run_blk | apply run_region | apply runL_nil | refine runxP (by simp only [go_sem, hpl, hdr]; rfl) (by rfl) ?_ ?_ | refine run_lp (k+1) ?_ ?_ ⟨rfl, by simp only [go_sem]; repeat' (first | exact trivial | exact True.intro | exact SLe.refl _ | exact OLe.refl _ | exact ⟨_, rfl, OLe.refl _⟩ | refine ⟨_, rfl, ?_⟩ | refine OLe.var ?_ | (show SLeL _ _; refine ⟨?_, ?_⟩) | (show SLeL [] []; exact True.intro) | (refine SLe.int ?_; rw [w64]; omega) | refine SLe.int ?_ | refine SLe.bool ?_ | apply And.intro | (first | exact SLeL.refl _ | first | exact SLe.refl _ | (rw [← kS_step]; rw [w64, w64]; omega) | omega)), by simp only [go_sem]; repeat' (first | exact trivial | exact True.intro | exact SLe.refl _ | exact OLe.refl _ | exact ⟨_, rfl, OLe.refl _⟩ | refine ⟨_, rfl, ?_⟩ | refine OLe.var ?_ | (show SLeL _ _; refine ⟨?_, ?_⟩) | (show SLeL [] []; exact True.intro) | (refine SLe.int ?_; rw [w64]; omega) | refine SLe.int ?_ | refine SLe.bool ?_ | apply And.intro | (first | exact SLeL.refl _ | first | exact SLe.refl _ | (rw [← kS_step]; rw [w64, w64]; omega) | omega))⟩ | exact True.intro | exact rfl | omega | (show allP _; first | exact True.intro | (simp only [allP, go_sem, Bool.not_eq_true', Bool.not_eq_false', implies_true, true_and, and_true, and_self, imp_self]; done) | (simp [allP, go_sem]; done) | (simp [allP, go_sem] at *; first | done | assumption | omega | (simp_all; done)) | (simp only [allP, go_sem]; intros; simp_all; done) | (simp only [allP, go_sem, ByteArray.size_append, size_mk, List.size_toArray, List.length_append, List.length_cons, List.length_nil, and_true, true_and]; (repeat' apply And.intro) <;> omega)))
  · have hk2 : k = 256 := by omega
    subst hk2
    repeat' (first | apply run_seq | apply run_block | apply run_region | apply runL_nil | refine runxP (by simp only [go_sem, kS_end]; rfl) (by rfl) ?_ ?_ | refine run_exit (by rfl) ?_ | exact True.intro | exact rfl)
    refine run_loopK [0, 3, 40, 57] (fun k : Nat => [(58, .int .i64 (k : Int)), (9, .int .u8 (kS k))]) (fun k : Nat => [(0, .var (.str ByteArray.empty :: .int .i64 0 :: .str ByteArray.empty :: .nilp :: .nils :: .int .i64 2 :: mapL (hF k)))]) (fun k : Nat => k ≤ 256) (fun k : Nat => 256 - k) 0 (fun x => by simp only [go_sem]; rfl) ?_ (by simp only [go_sem]; repeat' (first | exact trivial | exact True.intro | exact SLe.refl _ | exact OLe.refl _ | exact ⟨_, rfl, OLe.refl _⟩ | refine ⟨_, rfl, ?_⟩ | refine OLe.var ?_ | (show SLeL _ _; refine ⟨?_, ?_⟩) | (show SLeL [] []; exact True.intro) | (refine SLe.int ?_; rw [w64]; omega) | refine SLe.int ?_ | refine SLe.bool ?_ | apply And.intro)) (by simp only [go_sem]; repeat' (first | exact trivial | exact True.intro | exact SLe.refl _ | exact OLe.refl _ | exact ⟨_, rfl, OLe.refl _⟩ | refine ⟨_, rfl, ?_⟩ | refine OLe.var ?_ | (show SLeL _ _; refine ⟨?_, ?_⟩) | (show SLeL [] []; exact True.intro) | (refine SLe.int ?_; rw [w64]; omega) | refine SLe.int ?_ | refine SLe.bool ?_ | apply And.intro)) ?_
    · exact Nat.zero_le _
    intro k hk
    have hpl : k < 256 → plT Tryz.prog 130 k = some (k, 1) := plT130_all k
    repeat' (first | apply run_seq | apply run_region | apply runL_nil | refine runxP (by simp only [go_sem]; rfl) (by rfl) ?_ ?_ | exact True.intro | exact rfl)
    (refine run_cond (by simp only [go_sem]; rfl) ?_ ?_ <;> intro hb <;> have hc := hb <;> (try simp only [decide_eq_true_eq, decide_eq_false_iff_not, Int.not_lt, Int.not_le, Int.ofNat_lt, Int.ofNat_le, Bool.and_eq_true, Bool.or_eq_true, Bool.or_eq_false_iff, Bool.not_eq_true', Bool.not_eq_false', beq_iff_eq, beq_eq_false_iff_ne, bne_iff_ne, bne_eq_false_iff_eq] at hc) <;> (try (exfalso; simp at hc; done)))
    · have hk2 : k < 256 := by omega
      have hpl := plT130_all k hk2
      have hdr := mapL_drop kF k hk2
      repeat' (first | apply run_seq | apply run_skip | apply run_block | apply run_region | apply runL_nil | refine runxP (by simp only [go_sem, hpl, hdr]; rfl) (by rfl) ?_ ?_ | exact True.intro | exact rfl | (show allP _; first | exact True.intro | (simp only [allP, go_sem, Bool.not_eq_true', Bool.not_eq_false', implies_true, true_and, and_true, and_self, imp_self]; done) | (simp [allP, go_sem]; done) | (simp [allP, go_sem] at *; first | done | assumption | omega | (simp_all; done)) | (simp only [allP, go_sem]; intros; simp_all; done) | (simp only [allP, go_sem, ByteArray.size_append, size_mk, List.size_toArray, List.length_append, List.length_cons, List.length_nil, and_true, true_and]; (repeat' apply And.intro) <;> omega)))
      (refine run_cond (by simp only [go_sem]; rfl) ?_ ?_ <;> intro hb <;> have hc := hb <;> (try simp only [decide_eq_true_eq, decide_eq_false_iff_not, Int.not_lt, Int.not_le, Int.ofNat_lt, Int.ofNat_le, Bool.and_eq_true, Bool.or_eq_true, Bool.or_eq_false_iff, Bool.not_eq_true', Bool.not_eq_false', beq_iff_eq, beq_eq_false_iff_ne, bne_iff_ne, bne_eq_false_iff_eq] at hc) <;> (try (exfalso; simp at hc; done)))
      · have hm6 := fun a b c d e g v => m6 a b c d e g (hF k) k v hk2
        have hb6 : (6 + k).ble 261 = true := by rw [Nat.ble_eq]; omega
        have hup : upF (hF k) k 2 = hF (k + 1) := hF_step k 2 (gN k hc)
        have hks : kS (k + 1) = kS k := by rw [← kS_step]; omega
        iterate 1 any_goals (first | apply run_draw)
        refine runDqR (by simp only [go_sem, hpl, hdr, hm6, hb6, u8w2]; rfl) ?_ (by simp only [recsOf, recA, recU, recG, readS, keysA, keysU, go_sem, hpl, hdr, hm6, hb6, u8w2]; rfl) ?_
        · simp only [allP, go_sem]
          refine ⟨?_, ?_, ?_⟩ <;> first | trivial | omega | simp
        refine runD_end (by kernel_rfl) (by kernel_rfl) ?_
        repeat' (first | apply run_blk | apply run_region | apply runL_nil | refine runxP (by simp only [go_sem, hpl, hdr, hup, u8w2, hks]; rfl) (by rfl) ?_ ?_ | refine run_lp (k+1) ?_ ?_ ⟨rfl, by simp only [go_sem]; repeat' (first | exact trivial | exact True.intro | exact SLe.refl _ | exact OLe.refl _ | exact ⟨_, rfl, OLe.refl _⟩ | refine ⟨_, rfl, ?_⟩ | refine OLe.var ?_ | (show SLeL _ _; refine ⟨?_, ?_⟩) | (show SLeL [] []; exact True.intro) | (refine SLe.int ?_; rw [w64]; omega) | refine SLe.int ?_ | refine SLe.bool ?_ | apply And.intro | (first | exact SLeL.refl _ | first | exact SLe.refl _ | (rw [← kS_step]; rw [w64, w64]; omega) | omega)), by simp only [go_sem]; repeat' (first | exact trivial | exact True.intro | exact SLe.refl _ | exact OLe.refl _ | exact ⟨_, rfl, OLe.refl _⟩ | refine ⟨_, rfl, ?_⟩ | refine OLe.var ?_ | (show SLeL _ _; refine ⟨?_, ?_⟩) | (show SLeL [] []; exact True.intro) | (refine SLe.int ?_; rw [w64]; omega) | refine SLe.int ?_ | refine SLe.bool ?_ | apply And.intro | (first | exact SLeL.refl _ | first | exact SLe.refl _ | (rw [← kS_step]; rw [w64, w64]; omega) | omega))⟩ | exact True.intro | exact rfl | omega)
      · have hm6 := fun a b c d e g v => m6 a b c d e g (hF k) k v hk2
        have hb6 : (6 + k).ble 261 = true := by rw [Nat.ble_eq]; omega
        have hbs := kS_bd k
        have hup : upF (hF k) k (kS k) = hF (k + 1) := hF_step k _ (gS k hc)
        have hks : kS (k + 1) = kS k + 1 := by rw [← kS_step]; have := kF_bd k; omega
        repeat' (first | apply run_seq | apply run_blk | apply run_region | apply runL_nil | refine runxP (by simp only [go_sem, hpl, hdr, hb6, hm6, hup, kS_w, hks]; rfl) (by rfl) ?_ ?_ | refine run_lp (k+1) ?_ ?_ ⟨rfl, by simp only [go_sem]; repeat' (first | exact trivial | exact True.intro | exact SLe.refl _ | exact OLe.refl _ | exact ⟨_, rfl, OLe.refl _⟩ | refine ⟨_, rfl, ?_⟩ | refine OLe.var ?_ | (show SLeL _ _; refine ⟨?_, ?_⟩) | (show SLeL [] []; exact True.intro) | (refine SLe.int ?_; rw [w64]; omega) | refine SLe.int ?_ | refine SLe.bool ?_ | apply And.intro | (first | exact SLeL.refl _ | first | exact SLe.refl _ | (rw [← kS_step]; rw [w64, w64]; omega) | omega)), by simp only [go_sem]; repeat' (first | exact trivial | exact True.intro | exact SLe.refl _ | exact OLe.refl _ | exact ⟨_, rfl, OLe.refl _⟩ | refine ⟨_, rfl, ?_⟩ | refine OLe.var ?_ | (show SLeL _ _; refine ⟨?_, ?_⟩) | (show SLeL [] []; exact True.intro) | (refine SLe.int ?_; rw [w64]; omega) | refine SLe.int ?_ | refine SLe.bool ?_ | apply And.intro | (first | exact SLeL.refl _ | first | exact SLe.refl _ | (rw [← kS_step]; rw [w64, w64]; omega) | omega))⟩ | exact True.intro | exact rfl | omega | (show allP _; first | exact True.intro | (simp only [allP, go_sem, Bool.not_eq_true', Bool.not_eq_false', implies_true, true_and, and_true, and_self, imp_self]; done) | (simp [allP, go_sem]; done) | (simp [allP, go_sem] at *; first | done | assumption | omega | (simp_all; done)) | (simp only [allP, go_sem]; intros; simp_all; done) | (simp only [allP, go_sem, ByteArray.size_append, size_mk, List.size_toArray, List.length_append, List.length_cons, List.length_nil, and_true, true_and]; (repeat' apply And.intro) <;> omega)))
    · have hk2 : k = 256 := by omega
      subst hk2
      iterate 3 any_goals (first | apply run_seq | apply run_region | refine run_exit (by rfl) ?_)
      · rfl
      rw [hF_end]
      iterate 5 (refine stepX_ok (by simp only [go_sem]; rfl) ?_ ?_; · exact True.intro)
      refine stepmk2 (by simp only [go_sem]; rfl) (by simp only [go_sem]; rfl) tU164 info163 (by simp only [go_sem]) (by simp only [go_sem]; rfl) ?_
      repeat' (first | apply run_seq | apply run_block | apply run_region | apply runL_nil | refine runxP (by simp only [go_sem]; rfl) (by rfl) ?_ ?_ | exact True.intro | exact rfl)
      clear hpl hk
      have hfz := gF92
      repeat' (first | apply run_seq | apply run_skip | apply run_block | apply run_blk | apply run_region | apply run_draw | apply runL_nil | refine runxP (by simp only [go_sem]; rfl) (by rfl) ?_ ?_ | refine runDqP (by simp only [go_sem]; rfl) (by rfl) ?_ ?_ | refine runD_end (by kernel_rfl) (by kernel_rfl) ?_ | refine runDcallM [0, 1] A1 (by rfl) (by simp only [go_sem]; first | done | rfl) (by simp only [go_sem]) (by first | (simp only [go_sem]; done) | (simp only [go_sem]; rfl)) ?_ ⟨gF, B [92], rfl, rfl, rfl, rfl, rfl⟩ (by simp only [go_sem]; rfl) ?_ | refine runDcallM [0, 1, 2, 3] A5 (by rfl) (by simp only [go_sem]; first | done | rfl) (by simp only [go_sem]) (by first | (simp only [go_sem]; done) | (simp only [go_sem]; rfl)) ?_ ⟨B [10], B [92], trivial, rfl, rfl, rfl, rfl⟩ (by simp only [go_sem]; rfl) ?_ | (refine run_cond (by simp only [go_sem]; rfl) ?_ ?_ <;> intro hb <;> have hc := hb <;> (try simp only [decide_eq_true_eq, decide_eq_false_iff_not, Int.not_lt, Int.not_le, Int.ofNat_lt, Int.ofNat_le, Bool.and_eq_true, Bool.or_eq_true, Bool.or_eq_false_iff, Bool.not_eq_true', Bool.not_eq_false', beq_iff_eq, beq_eq_false_iff_ne, bne_iff_ne, bne_eq_false_iff_eq] at hc) <;> (try (exfalso; simp at hc; done))) | refine run_exit (by rfl) ?_ | refine run_roundsB 8 2 ?_ | refine run_round ?_ | exact True.intro | exact rfl | (show allP _; first | exact True.intro | (simp only [allP, go_sem, Bool.not_eq_true', Bool.not_eq_false', implies_true, true_and, and_true, and_self, imp_self]; done) | (simp [allP, go_sem]; done) | (simp [allP, go_sem] at *; first | done | assumption | omega | (simp_all; done)) | (simp only [allP, go_sem]; intros; simp_all; done) | (simp only [allP, go_sem, ByteArray.size_append, size_mk, List.size_toArray, List.length_append, List.length_cons, List.length_nil, and_true, true_and]; (repeat' apply And.intro) <;> omega)))
      repeat' (first | refine run_frz 3 (by simp only [go_sem]; rfl) ?_ | refine run_frz 4 (by simp only [go_sem]; rfl) ?_ | refine run_frz 5 (by simp only [go_sem]; rfl) ?_ | refine run_frz 2 (by simp only [go_sem]; rfl) ?_ | refine run_frz 1 (by simp only [go_sem]; rfl) ?_ | refine run_frz 0 (by simp only [go_sem]; rfl) ?_ | refine run_ret (by rfl) ?_ | exact SLe0.pure rfl)
end Go.Sx
