/- Part of the proofs that the laws of the journal return true for every input: L53. -/
import Derived.Test.YtiddnjgnjmdobaaGreatDoorL46
import Derived.Test.YtiddnjgnjmdobaaGreatDoorL37
set_option linter.unusedVariables false
set_option linter.unusedSimpArgs false
set_option linter.all false
/-! L53: the program's disk and the reference's: what may differ. -/
namespace Go.Sx
def sz (a : Dk) (z : Int) : Dk := { a with after := z }
/-- The same but for how many calls are left, where none are counted. -/
def Eqv (a b : Dk) : Prop := a = b ∨ (a.counts = false ∧ ∃ z, b = sz a z)
theorem nc_wOk {a : Dk} (h : a.counts = false) : wOk a = !a.off := by simp [wOk, h]
theorem nc_wDk {a : Dk} (h : a.counts = false) : wDk a = a := by unfold wDk; cases a.off <;> simp [h]
theorem nc_wOkz {a : Dk} (h : a.counts = false) (z : Int) : wOk (sz a z) = wOk a := by rw [nc_wOk h, nc_wOk (a := sz a z) h]; rfl
theorem nc_wr {a : Dk} (h : a.counts = false) (z : Int) (s : ByteArray) : wrD (sz a z) s = sz (wrD a s) z ∧ (wrD a s).counts = false := by
  unfold wrD
  rw [nc_wOkz h, nc_wDk (a := sz a z) h, nc_wDk h]
  cases wOk a
  · exact ⟨rfl, h⟩
  · exact ⟨rfl, h⟩
theorem nc_sy {a : Dk} (h : a.counts = false) (z : Int) : syD (sz a z) = sz (syD a) z ∧ (syD a).counts = false := by
  unfold syD
  rw [nc_wOkz h, nc_wDk (a := sz a z) h, nc_wDk h]
  cases wOk a
  · exact ⟨rfl, h⟩
  · exact ⟨rfl, h⟩
theorem nc_pu {a : Dk} (h : a.counts = false) (z : Int) (s : ByteArray) : puOk (sz a z) s = puOk a s ∧ puD (sz a z) s = sz (puD a s) z ∧ (puD a s).counts = false := by
  obtain ⟨h1, h2⟩ := nc_wr h z s
  refine ⟨by unfold puOk; rw [nc_wOkz h, h1, nc_wOkz h2], ?_⟩
  unfold puD
  rw [nc_wOkz h, h1, (nc_sy h2 z).1]
  cases wOk a
  · exact ⟨rfl, h2⟩
  · exact ⟨rfl, (nc_sy h2 z).2⟩
theorem nc_op {a : Dk} (h : a.counts = false) (z : Int) : opOk (sz a z) = opOk a ∧ opD (sz a z) = sz (opD a) z ∧ (opD a).counts = false := by
  obtain ⟨h1, h2, h3⟩ := nc_pu h z (B [10])
  refine ⟨by unfold opOk; rw [h1]; rfl, ?_⟩
  unfold opD
  rw [h2, show (sz a z).t = a.t from rfl]
  cases lastN a.t
  · exact ⟨rfl, h⟩
  · exact ⟨rfl, h3⟩
theorem nc_ap {a : Dk} (h : a.counts = false) (z : Int) (l : Lg) (s : ByteArray) : apE l (sz a z) s = apE l a s ∧ apL l (sz a z) s = apL l a s ∧ apK l (sz a z) s = sz (apK l a s) z ∧ (apK l a s).counts = false := by
  obtain ⟨h1, h2, h3⟩ := nc_pu h z (liB s)
  refine ⟨by unfold apE; rw [h1]; rfl, by unfold apL; rw [h1]; rfl, ?_⟩
  unfold apK
  rw [h2, show (sz a z).t = a.t from rfl]
  cases l.broken
  · cases decide (a.t.size + (liB s).size > 262144)
    · exact ⟨rfl, h3⟩
    · exact ⟨rfl, h⟩
  · exact ⟨rfl, h⟩
theorem Eqv.t {a b : Dk} (h : Eqv a b) : b.t = a.t := by rcases h with rfl | ⟨_, z, rfl⟩ <;> rfl
theorem Eqv.p {a b : Dk} (h : Eqv a b) : b.p = a.p := by rcases h with rfl | ⟨_, z, rfl⟩ <;> rfl
theorem Eqv.off {a b : Dk} (h : Eqv a b) : b.off = a.off := by rcases h with rfl | ⟨_, z, rfl⟩ <;> rfl
theorem Eqv.wOk {a b : Dk} (h : Eqv a b) : wOk b = wOk a := by
  rcases h with rfl | ⟨h, z, rfl⟩
  · rfl
  · exact nc_wOkz h z
theorem Eqv.wr {a b : Dk} (h : Eqv a b) (s : ByteArray) : Eqv (wrD a s) (wrD b s) := by
  rcases h with rfl | ⟨h, z, rfl⟩
  · exact .inl rfl
  · exact .inr ⟨(nc_wr h z s).2, z, (nc_wr h z s).1⟩
theorem Eqv.sy {a b : Dk} (h : Eqv a b) : Eqv (syD a) (syD b) := by
  rcases h with rfl | ⟨h, z, rfl⟩
  · exact .inl rfl
  · exact .inr ⟨(nc_sy h z).2, z, (nc_sy h z).1⟩
theorem Eqv.fa {a b : Dk} (h : Eqv a b) (n : Int) : Eqv (faD' a n) (faD' b n) := by
  rcases h with rfl | ⟨h, z, rfl⟩
  · exact .inl rfl
  · exact .inl rfl
theorem Eqv.op {a b : Dk} (h : Eqv a b) : opOk b = opOk a ∧ Eqv (opD a) (opD b) := by
  rcases h with rfl | ⟨h, z, rfl⟩
  · exact ⟨rfl, .inl rfl⟩
  · exact ⟨(nc_op h z).1, .inr ⟨(nc_op h z).2.2, z, (nc_op h z).2.1⟩⟩
theorem Eqv.ap {a b : Dk} (h : Eqv a b) (l : Lg) (s : ByteArray) : apE l b s = apE l a s ∧ apL l b s = apL l a s ∧ Eqv (apK l a s) (apK l b s) := by
  rcases h with rfl | ⟨h, z, rfl⟩
  · exact ⟨rfl, rfl, .inl rfl⟩
  · exact ⟨(nc_ap h z l s).1, (nc_ap h z l s).2.1, .inr ⟨(nc_ap h z l s).2.2.2, z, (nc_ap h z l s).2.2.1⟩⟩
theorem Eqv.lo {a b : Dk} (h : Eqv a b) (n : Int) : loS b n = loS a n := by unfold loS; rw [h.p]
/-- What a disk holds is in bounds. -/
def Gd (M : Nat) (a : Dk) : Prop := 0 ≤ a.p ∧ a.p ≤ a.t.size ∧ a.t.size ≤ M
theorem Gd.le {M N : Nat} {a : Dk} (h : Gd M a) (hn : M ≤ N) : Gd N a := ⟨h.1, h.2.1, Nat.le_trans h.2.2 hn⟩
theorem Gd.w {M : Nat} {a : Dk} (h : Gd M a) : Gd M (wDk a) := by unfold Gd; rw [wDk_t, wDk_p]; exact h
theorem Gd.wr {M : Nat} {a : Dk} (h : Gd M a) (s : ByteArray) (hm : M + s.size ≤ 100000000) : Gd (M + s.size) (wrD a s) := by
  have hw := h.w
  obtain ⟨h1, h2, h3⟩ := hw
  unfold wrD
  cases wOk a
  · exact Gd.le ⟨h1, h2, h3⟩ (by omega)
  · have e : IntKind.i64.wrap ((wDk a).p + (s.size : Int)) = (wDk a).p + (s.size : Int) := by rw [w64]; omega
    simp only [cond_true]
    refine ⟨?_, ?_, ?_⟩
    · show 0 ≤ IntKind.i64.wrap _; rw [e]; omega
    · show IntKind.i64.wrap _ ≤ (((wDk a).t ++ s).size : Int); rw [e, ByteArray.size_append]; omega
    · show ((wDk a).t ++ s).size ≤ _; rw [ByteArray.size_append]; omega
theorem Gd.sy {M : Nat} {a : Dk} (h : Gd M a) : Gd M (syD a) := by
  have hw := h.w
  unfold syD
  cases wOk a
  · exact hw
  · exact ⟨Int.le_refl _, by simp only [cond_true]; omega, hw.2.2⟩
theorem Gd.pu {M : Nat} {a : Dk} (h : Gd M a) (s : ByteArray) (hm : M + s.size ≤ 100000000) : Gd (M + s.size) (puD a s) := by
  unfold puD
  cases wOk a
  · exact h.wr s hm
  · exact (h.wr s hm).sy
theorem Gd.op {M : Nat} {a : Dk} (h : Gd M a) (hm : M + 1 ≤ 100000000) : Gd (M + 1) (opD a) := by
  unfold opD
  cases lastN a.t
  · exact h.le (by omega)
  · exact h.pu (B [10]) hm
theorem Gd.ap {M : Nat} {a : Dk} (h : Gd M a) (l : Lg) (s : ByteArray) (hm : M + (liB s).size ≤ 100000000) : Gd (M + (liB s).size) (apK l a s) := by
  unfold apK
  cases l.broken
  · cases decide (a.t.size + (liB s).size > 262144)
    · exact h.pu _ hm
    · exact h.le (by omega)
  · exact h.le (by omega)
/-- What a crash leaves, of the text. -/
def crT (a : Dk) (n : Int) : ByteArray := a.t.extract 0 ((a.t.size : Int) - loS a n).toNat
theorem crT_size (a : Dk) (n : Int) : (crT a n).size ≤ a.t.size := by unfold crT; rw [ByteArray.size_extract]; omega
theorem run_nx {P : Program} {F : List Nat} {w0 : Base} {fin : Exit → Act → World → Prop} {k : List It} {s : St} (m : Nat) (hn : Run P F w0 fin k ⟨s.n, m, s.sl, s.ow⟩) : Run P F w0 fin k s := fun h e a w D =>
  hn h e a w (D.congr rfl (fun _ => rfl) fun _ => rfl)
open Go.Proofs Go.RowKit
attribute [local irreducible] Run RunL RunD OpT SLe0 SLe OLe
set_option maxHeartbeats 2000000
set_option maxRecDepth 8000
set_option linter.unusedSimpArgs false
set_option linter.unusedVariables false
theorem K25n' : FnOK Tryz.prog 25 (fun ds d => ∃ s : ByteArray, ds = [.nilp, .str s] ∧ d = eInt 1) := by
  refine fn_intro Tryz.call25 Tryz.func25 rfl Tryz.ntmps25 ?_
  rintro ds d ⟨s, rfl, rfl⟩
  refine ⟨by simp, fun w0 => ?_⟩
  repeat' (first | apply run_seq | apply run_skip | apply run_block | apply run_blk | apply run_region | apply run_draw | apply runL_nil | refine runxP (by simp only [go_sem]; rfl) (by rfl) ?_ ?_ | refine runDqP (by simp only [go_sem]; rfl) (by rfl) ?_ ?_ | refine runD_end (by kernel_rfl) (by kernel_rfl) ?_ | refine runL_gT 8 (by rfl) (by simp only [go_sem]; first | done | rfl) ?_ | refine runL_gF 8 (by simp only [go_sem]; rfl) (by rfl) (by simp only [go_sem]; first | done | rfl) (by simp only [go_sem]; rfl) ?_ | refine runL_gF0 8 (by rfl) (by simp only [go_sem]; first | done | rfl) (by simp only [go_sem]; rfl) ?_ | refine stepnil (by simp only [go_sem]; rfl) (by simp only [go_sem]) (by simp only [go_sem]) (fun bn hbn => ?_) | (refine run_cond (by simp only [go_sem]; rfl) ?_ ?_ <;> intro hb <;> have hc := hb <;> (try simp only [decide_eq_true_eq, decide_eq_false_iff_not, Int.not_lt, Int.not_le, Int.ofNat_lt, Int.ofNat_le, Bool.and_eq_true, Bool.or_eq_true, Bool.or_eq_false_iff, Bool.not_eq_true', Bool.not_eq_false', beq_iff_eq, beq_eq_false_iff_ne, bne_iff_ne, bne_eq_false_iff_eq] at hc) <;> (try (exfalso; simp at hc; done))) | refine run_ret (by rfl) ?_ | refine run_retA (by rfl) (by rfl) (by rfl) ?_ ?_ | refine run_retA0 (by rfl) (by rfl) ?_ | refine run_retG (by rfl) (by simp only [go_sem]; rfl) ?_ | refine run_retM (by rfl) (by simp only [go_sem]; rfl) ?_ ?_ | refine run_endM (by rfl) ?_ ?_ | refine run_retMX (by rfl) (by simp only [go_sem]; rfl) ?_ ?_ | refine run_exit (by rfl) ?_ | refine stepnif (by first | (simp only [go_sem]; done) | (simp only [go_sem]; rfl)) (by rfl) (by simp only [go_sem]; rfl) ?_ | exact True.intro | exact rfl | exact SLe.refl _ | omega | exact SLe0.bool rfl | refine SLe0.bool ?_ | refine SLe0.int ?_ | refine SLe0.str ?_ | exact SLe0.pure rfl | (show SLe _ _; simp only [go_sem]; repeat' (first | exact trivial | exact True.intro | exact SLe.refl _ | exact OLe.refl _ | exact ⟨_, rfl, OLe.refl _⟩ | refine ⟨_, rfl, ?_⟩ | refine OLe.var ?_ | (show SLeL _ _; refine ⟨?_, ?_⟩) | (show SLeL [] []; exact True.intro) | (refine SLe.int ?_; rw [w64]; omega) | refine SLe.int ?_ | refine SLe.bool ?_ | apply And.intro)) | (show subO _ _; simp only [go_sem]; repeat' (first | exact trivial | exact True.intro | exact SLe.refl _ | exact OLe.refl _ | exact ⟨_, rfl, OLe.refl _⟩ | refine ⟨_, rfl, ?_⟩ | refine OLe.var ?_ | (show SLeL _ _; refine ⟨?_, ?_⟩) | (show SLeL [] []; exact True.intro) | (refine SLe.int ?_; rw [w64]; omega) | refine SLe.int ?_ | refine SLe.bool ?_ | apply And.intro)) | (show allP _; first | exact True.intro | (simp only [allP, go_sem, Bool.not_eq_true', Bool.not_eq_false', implies_true, true_and, and_true, and_self, imp_self]; done) | (simp [allP, go_sem]; done) | (simp [allP, go_sem] at *; first | done | assumption | omega | (simp_all; done)) | (simp only [allP, go_sem]; intros; simp_all; done) | (simp only [allP, go_sem, ByteArray.size_append, size_mk, List.size_toArray, List.length_append, List.length_cons, List.length_nil, and_true, true_and]; (repeat' apply And.intro) <;> omega)))
theorem K26n : FnOK Tryz.prog 26 (fun ds d => ∃ s : ByteArray, ds = [.nilp, .str s] ∧ d = eInt 1) := by
  refine fn_intro Tryz.call26 Tryz.func26 rfl Tryz.ntmps26 ?_
  rintro ds d ⟨s, rfl, rfl⟩
  refine ⟨by simp, fun w0 => ?_⟩
  repeat' (first | apply run_seq | apply run_skip | apply run_block | apply run_blk | apply run_region | apply run_draw | apply runL_nil | refine runxP (by simp only [go_sem]; rfl) (by rfl) ?_ ?_ | refine runDqP (by simp only [go_sem]; rfl) (by rfl) ?_ ?_ | refine runD_end (by kernel_rfl) (by kernel_rfl) ?_ | refine runL_gT 9 (by rfl) (by simp only [go_sem]; first | done | rfl) ?_ | refine runL_gF 9 (by simp only [go_sem]; rfl) (by rfl) (by simp only [go_sem]; first | done | rfl) (by simp only [go_sem]; rfl) ?_ | refine runL_gF0 9 (by rfl) (by simp only [go_sem]; first | done | rfl) (by simp only [go_sem]; rfl) ?_ | refine stepnil (by simp only [go_sem]; rfl) (by simp only [go_sem]) (by simp only [go_sem]) (fun bn hbn => ?_) | (refine run_cond (by simp only [go_sem]; rfl) ?_ ?_ <;> intro hb <;> have hc := hb <;> (try simp only [decide_eq_true_eq, decide_eq_false_iff_not, Int.not_lt, Int.not_le, Int.ofNat_lt, Int.ofNat_le, Bool.and_eq_true, Bool.or_eq_true, Bool.or_eq_false_iff, Bool.not_eq_true', Bool.not_eq_false', beq_iff_eq, beq_eq_false_iff_ne, bne_iff_ne, bne_eq_false_iff_eq] at hc) <;> (try (exfalso; simp at hc; done))) | refine run_ret (by rfl) ?_ | refine run_retA (by rfl) (by rfl) (by rfl) ?_ ?_ | refine run_retA0 (by rfl) (by rfl) ?_ | refine run_retG (by rfl) (by simp only [go_sem]; rfl) ?_ | refine run_retM (by rfl) (by simp only [go_sem]; rfl) ?_ ?_ | refine run_endM (by rfl) ?_ ?_ | refine run_retMX (by rfl) (by simp only [go_sem]; rfl) ?_ ?_ | refine run_exit (by rfl) ?_ | refine stepnif (by first | (simp only [go_sem]; done) | (simp only [go_sem]; rfl)) (by rfl) (by simp only [go_sem]; rfl) ?_ | exact True.intro | exact rfl | exact SLe.refl _ | omega | exact SLe0.bool rfl | refine SLe0.bool ?_ | refine SLe0.int ?_ | refine SLe0.str ?_ | exact SLe0.pure rfl | (show SLe _ _; simp only [go_sem]; repeat' (first | exact trivial | exact True.intro | exact SLe.refl _ | exact OLe.refl _ | exact ⟨_, rfl, OLe.refl _⟩ | refine ⟨_, rfl, ?_⟩ | refine OLe.var ?_ | (show SLeL _ _; refine ⟨?_, ?_⟩) | (show SLeL [] []; exact True.intro) | (refine SLe.int ?_; rw [w64]; omega) | refine SLe.int ?_ | refine SLe.bool ?_ | apply And.intro)) | (show subO _ _; simp only [go_sem]; repeat' (first | exact trivial | exact True.intro | exact SLe.refl _ | exact OLe.refl _ | exact ⟨_, rfl, OLe.refl _⟩ | refine ⟨_, rfl, ?_⟩ | refine OLe.var ?_ | (show SLeL _ _; refine ⟨?_, ?_⟩) | (show SLeL [] []; exact True.intro) | (refine SLe.int ?_; rw [w64]; omega) | refine SLe.int ?_ | refine SLe.bool ?_ | apply And.intro)) | (show allP _; first | exact True.intro | (simp only [allP, go_sem, Bool.not_eq_true', Bool.not_eq_false', implies_true, true_and, and_true, and_self, imp_self]; done) | (simp [allP, go_sem]; done) | (simp [allP, go_sem] at *; first | done | assumption | omega | (simp_all; done)) | (simp only [allP, go_sem]; intros; simp_all; done) | (simp only [allP, go_sem, ByteArray.size_append, size_mk, List.size_toArray, List.length_append, List.length_cons, List.length_nil, and_true, true_and]; (repeat' apply And.intro) <;> omega)))
theorem K30b' : FnM Tryz.prog 30 (fun ds os d os' => ∃ (l : Lg) (k : Dk), True ∧ ds = [.loc 1000 0] ∧ os = [eLg 1001 l, eDk k] ∧ d = eInt l.n ∧ os' = [(1000, eLg 1001 l), (1001, eDk k)]) := by
  refine fn_introM Tryz.call30 Tryz.func30 rfl Tryz.ntmps30 ?_
  rintro ds os d os' ⟨l, k, -, rfl, rfl, rfl, rfl⟩
  refine ⟨by simp, fun F w0 => ?_⟩
  repeat' (first | apply run_seq | apply run_skip | apply run_block | apply run_blk | apply run_region | apply run_draw | apply runL_nil | refine runxP (by simp only [go_sem]; rfl) (by rfl) ?_ ?_ | refine runDqP (by simp only [go_sem]; rfl) (by rfl) ?_ ?_ | refine runD_end (by kernel_rfl) (by kernel_rfl) ?_ | refine stepnil (by simp only [go_sem]; rfl) (by simp only [go_sem]) (by simp only [go_sem]) (fun bn hbn => ?_) | (refine run_cond (by simp only [go_sem]; rfl) ?_ ?_ <;> intro hb <;> have hc := hb <;> (try simp only [decide_eq_true_eq, decide_eq_false_iff_not, Int.not_lt, Int.not_le, Int.ofNat_lt, Int.ofNat_le, Bool.and_eq_true, Bool.or_eq_true, Bool.or_eq_false_iff, Bool.not_eq_true', Bool.not_eq_false', beq_iff_eq, beq_eq_false_iff_ne, bne_iff_ne, bne_eq_false_iff_eq] at hc) <;> (try (exfalso; simp at hc; done))) | refine run_ret (by rfl) ?_ | refine run_retA (by rfl) (by rfl) (by rfl) ?_ ?_ | refine run_retA0 (by rfl) (by rfl) ?_ | refine run_retG (by rfl) (by simp only [go_sem]; rfl) ?_ | refine run_retM (by rfl) (by simp only [go_sem]; rfl) ?_ ?_ | refine run_endM (by rfl) ?_ ?_ | refine run_retMX (by rfl) (by simp only [go_sem]; rfl) ?_ ?_ | refine run_exit (by rfl) ?_ | refine stepnif (by first | (simp only [go_sem]; done) | (simp only [go_sem]; rfl)) (by rfl) (by simp only [go_sem]; rfl) ?_ | exact True.intro | exact rfl | exact SLe.refl _ | omega | exact SLe0.bool rfl | refine SLe0.bool ?_ | refine SLe0.int ?_ | refine SLe0.str ?_ | exact SLe0.pure rfl | (show SLe _ _; simp only [go_sem]; repeat' (first | exact trivial | exact True.intro | exact SLe.refl _ | exact OLe.refl _ | exact ⟨_, rfl, OLe.refl _⟩ | refine ⟨_, rfl, ?_⟩ | refine OLe.var ?_ | (show SLeL _ _; refine ⟨?_, ?_⟩) | (show SLeL [] []; exact True.intro) | (refine SLe.int ?_; rw [w64]; omega) | refine SLe.int ?_ | refine SLe.bool ?_ | apply And.intro)) | (show subO _ _; simp only [go_sem]; repeat' (first | exact trivial | exact True.intro | exact SLe.refl _ | exact OLe.refl _ | exact ⟨_, rfl, OLe.refl _⟩ | refine ⟨_, rfl, ?_⟩ | refine OLe.var ?_ | (show SLeL _ _; refine ⟨?_, ?_⟩) | (show SLeL [] []; exact True.intro) | (refine SLe.int ?_; rw [w64]; omega) | refine SLe.int ?_ | refine SLe.bool ?_ | apply And.intro)) | (show allP _; first | exact True.intro | (simp only [allP, go_sem, Bool.not_eq_true', Bool.not_eq_false', implies_true, true_and, and_true, and_self, imp_self]; done) | (simp [allP, go_sem]; done) | (simp [allP, go_sem] at *; first | done | assumption | omega | (simp_all; done)) | (simp only [allP, go_sem]; intros; simp_all; done) | (simp only [allP, go_sem, ByteArray.size_append, size_mk, List.size_toArray, List.length_append, List.length_cons, List.length_nil, and_true, true_and]; (repeat' apply And.intro) <;> omega)))
theorem K20c : FnM Tryz.prog 20 (fun ds os d os' => ∃ (k : Dk) (n : Int), Gd 100000000 k ∧ ds = [.loc 1000 0, eInt n] ∧ os = [eDk k] ∧ d = .tup [] ∧ os' = [(1000, eDk ⟨crT k n, 0, false, false, 0⟩)]) := by
  refine K20.weaken ?_
  rintro ds os d os' ⟨k, n, ⟨h1, h2, h3⟩, rfl, rfl, rfl, rfl⟩
  exact ⟨k, n, ⟨h1, h2, by omega⟩, rfl, rfl, rfl, rfl⟩
theorem K21c : FnM Tryz.prog 21 (fun ds os d os' => ∃ (k : Dk) (n : Int) (t : ByteArray), (Gd 100000000 k ∧ crT k n = t) ∧ ds = [.loc 1000 0, eInt n] ∧ os = [eDk k] ∧ d = .tup [] ∧ os' = [(1000, eDk ⟨t, 0, false, false, k.after⟩)]) := by
  refine K21.weaken ?_
  rintro ds os d os' ⟨k, n, t, ⟨⟨h1, h2, h3⟩, rfl⟩, rfl, rfl, rfl, rfl⟩
  exact ⟨k, n, ⟨h1, h2, by omega⟩, rfl, rfl, rfl, rfl⟩
end Go.Sx
