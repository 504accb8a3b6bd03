/- Part of the proofs that the laws of the journal return true for every input: L10. -/
import Derived.Test.YtiddnjgnjmdobaaGreatDoorL9
import Derived.Test.YtiddnjgnjmdobaaGreatDoorHex
set_option linter.unusedVariables false
set_option linter.unusedSimpArgs false
set_option linter.all false
/-! L10: sync.Once, as a contract with own objects. -/
namespace Go.Sx
open Go.Proofs Go.RowKit
set_option linter.unusedSimpArgs false
set_option linter.unusedVariables false
/-- A replacer that has been built, its lock's state 'lk'; and one that is done. -/
@[go_sem] def eRu (it : SD) (lk : Int) : OB := .var [.int .u32 0, .int .i32 lk, .int .u32 0, it, .nils]
@[go_sem] def eRd (it : SD) : OB := .var [.int .u32 1, .int .i32 0, .int .u32 0, it, .nils]
theorem Keeps.set {F : List Nat} {w0 w : World} (hk : Keeps F w0 w) {b i : Nat} {v : Value} (hb : b ∈ F) : Keeps F w0 (w.setCell ⟨b, i, none⟩ v) :=
  ⟨hk.os, hk.tape, hk.output, by simpa [World.setCell] using hk.size, fun c hc hF => (heap_setCell_other w ⟨b, i, none⟩ c v (fun hx => hF (by rw [hx]; exact hb))).trans (hk.block c hc hF)⟩
theorem Sub.set {h : Hp} {w : World} (hs : Sub h w) {b i : Nat} {v : Value} (hb : h b = none) : Sub h (w.setCell ⟨b, i, none⟩ v) := fun c o hc => by
  rw [heap_setCell_other w ⟨b, i, none⟩ c v (fun hx => by rw [hx, hb] at hc; cases hc)]
  exact hs c o hc
theorem rp_open {h : Hp} {e : Nm} {w : World} {a b c : Int} {d x : SD} (ho : obOk h e w 1000 (.var [.int .u32 a, .int .i32 b, .int .u32 c, d, x])) :
    ∃ cs T v3 v4, w.heap[e.bs 1000]? = some (.cells cs T (0, 0)) ∧ cs.toList = [.int .u32 a, .int .i32 b, .int .u32 c, v3, v4] ∧ (v3.oneCell' = true ∧ rep h d e v3) ∧ (v4.oneCell' = true ∧ rep h x e v4) := by
  obtain ⟨cs, T, g1, g2⟩ := ho
  simp only [repC, rep] at g2
  obtain ⟨v0, r0, hcs, -, rfl, v1, r1, rfl, -, rfl, v2, r2, rfl, -, rfl, v3, r3, rfl, o3, q3, v4, r4, rfl, o4, q4, rfl⟩ := g2
  exact ⟨cs, T, v3, v4, g1, hcs, ⟨o3, q3⟩, o4, q4⟩
theorem rp_shut {h : Hp} {e : Nm} {w : World} {a b c : Int} {d x : SD} {cs : Array Value} {T : Nat} {v3 v4 : Value} (g1 : w.heap[e.bs 1000]? = some (.cells cs T (0, 0))) (hcs : cs.toList = [.int .u32 a, .int .i32 b, .int .u32 c, v3, v4])
    (h3 : v3.oneCell' = true ∧ rep h d e v3) (h4 : v4.oneCell' = true ∧ rep h x e v4) : obOk h e w 1000 (.var [.int .u32 a, .int .i32 b, .int .u32 c, d, x]) := by
  refine ⟨cs, T, g1, ?_⟩
  simp only [repC, rep]
  exact ⟨_, _, hcs, rfl, rfl, _, _, rfl, rfl, rfl, _, _, rfl, rfl, rfl, _, _, rfl, h3.1, h3.2, _, _, rfl, h4.1, h4.2, rfl⟩
theorem set_toList {cs : Array Value} {i : Nat} {v : Value} : (cs.setIfInBounds i v).toList = cs.toList.set i v := by simp
theorem K73of (A : List ByteArray) (it : SD) (h74 : FnM Tryz.prog 74 (fun ds os d os' => ∃ lk : Int, True ∧ ds = [.loc 1000 0] ∧ os = [eRp lk A] ∧ d = .tup [] ∧ os' = [(1000, eRu it lk)])) :
    FnM Tryz.prog 73 (fun ds os d os' => True ∧ ds = [.loc 1000 0, .bfn (.func 74) [.loc 1000 0]] ∧ os = [eRp 0 A] ∧ d = .tup [] ∧ os' = [(1000, eRd it)]) := by
  refine ⟨Tryz.call73, ?_⟩
  rintro ds os d os' ⟨-, rfl, rfl, rfl, rfl⟩ h e w vs gh hs hr ho hb hap
  simp only [repT, rep] at hr
  obtain ⟨_, _, rfl, rfl, _, _, rfl, ⟨ws, rfl, _, _, rfl, rfl, rfl⟩, rfl⟩ := hr
  obtain ⟨cs, T, v3, v4, g1, g2, g3, g4⟩ := rp_open (ho 0 _ rfl)
  have hF : blksO e 1000 [eRp 0 A] = [e.bs 1000] := rfl
  have hnone : h (e.bs 1000) = none := hb (e.bs 1000) (by rw [hF]; simp)
  have hcell : ∀ i, w.cell? ⟨e.bs 1000, i, none⟩ = cs.toList[i]? := fun i => by rw [cell_of_block g1 i]; simp
  have hF1 : blksO e 1000 [eRp 1 A] = [e.bs 1000] := rfl
  have hw1 : (w.setCell ⟨e.bs 1000, 1, none⟩ (.int .i32 1)).heap[e.bs 1000]? = some (.cells (cs.setIfInBounds 1 (.int .i32 1)) T (0, 0)) := heap_setCell_same w _ 1 cs T _ g1
  refine (Lz.do_first (e.bs 1000) w (fun w2 => ∃ h' e', Le h h' ∧ Sub h' w2 ∧ Keeps [e.bs 1000] w w2 ∧ (∀ b, b < w.heap.size → h' b = h b) ∧ e'.bs 1000 = e.bs 1000 ∧ OwnP [e.bs 1000] w [(1000, eRu it 1)] h' e' w2) ?_ ?_ ?_ ?_).mono ?_
  · rw [hcell, g2]; rfl
  · rw [hcell, g2]; rfl
  · exact frozen_of_row w _ 1 cs T g1
  · refine (h74.ok [.loc 1000 0] [eRp 1 A] (.tup []) [(1000, eRu it 1)] ⟨1, trivial, rfl, rfl, rfl, rfl⟩ h e (w.setCell ⟨e.bs 1000, 1, none⟩ (.int .i32 1)) [.pointer (some ⟨e.bs 1000, 0, none⟩)] gh (hs.set hnone) (by simp [repT, rep]) ?_ ?_ ?_).mono ?_
    · intro i o hi
      match i, hi with
      | 0, hi =>
        simp only [List.getElem?_cons_zero, Option.some.injEq] at hi
        subst hi
        exact rp_shut hw1 (by rw [set_toList, g2]; rfl) g3 g4
    · intro b hbm
      rw [hF1] at hbm
      rw [List.mem_singleton.1 hbm]; exact hnone
    · intro i j o o' b hne hi hj
      match i, j, hi, hj, hne with
      | 0, 0, _, _, hne => exact absurd rfl hne
    · intro en w2 hp
      obtain ⟨v, h', e', rfl, q1, q2, q3, q4, q5, q6, q7⟩ := hp
      have hfx : e'.bs 1000 = e.bs 1000 := q5 0 _ rfl
      have hown := q7.own 1000 _ rfl
      obtain ⟨c2, T2, u3, u4, k1, k2, k3, k4⟩ := rp_open hown
      rw [hfx] at k1
      have hc2 : ∀ i, w2.cell? ⟨e.bs 1000, i, none⟩ = c2.toList[i]? := fun i => by rw [cell_of_block k1 i]; simp
      simp only [rep] at q6
      obtain ⟨ws, rfl, q6⟩ := q6
      simp only [repT] at q6
      subst q6
      have hsz : (w.setCell ⟨e.bs 1000, 1, none⟩ (.int .i32 1)).heap.size = w.heap.size := by simp [World.setCell]
      rw [hF1] at q3 q7
      refine ⟨rfl, by rw [hc2, k2]; rfl, by rw [hc2, k2]; rfl, frozen_of_row w2 _ 0 c2 T2 k1, frozen_of_row w2 _ 1 c2 T2 k1, h', e', q1, q2, ⟨q3.os, q3.tape, q3.output, by rw [← hsz]; exact q3.size, fun b hb' hF' => ?_⟩, fun b hb' => q4 b (by rw [hsz]; exact hb'), hfx, ⟨q7.own, fun k o b hk hbk => ?_, q7.apart⟩⟩
      · rw [q3.block b (by rw [hsz]; exact hb') hF']
        exact heap_setCell_other w ⟨e.bs 1000, 1, none⟩ b _ (fun hx => hF' (by simp at hx; simp [hx]))
      · have := q7.ownb k o b hk hbk
        rw [hsz] at this
        exact this
  · rintro en w4 ⟨rfl, w2, ⟨h', e', q1, q2, q3, q4, q5, q7⟩, rfl⟩
    obtain ⟨c2, T2, u3, u4, k1, k2, k3, k4⟩ := rp_open (q7.own 1000 _ rfl)
    have hn' : h' (e.bs 1000) = none := by
      have := (q7.ownb 1000 _ (e'.bs 1000) rfl rfl).2
      rwa [q5] at this
    rw [q5] at k1
    have k1d : w2.drew.heap[e.bs 1000]? = some (.cells c2 T2 (0, 0)) := k1
    have m1 := heap_setCell_same w2.drew (e.bs 1000) 0 c2 T2 (.int .u32 1) k1d
    have m2 := heap_setCell_same _ (e.bs 1000) 1 _ T2 (.int .i32 0) m1
    rw [hF]
    have hkd : Keeps [e.bs 1000] w w2.drew := ⟨q3.os, q3.tape, q3.output, q3.size, q3.block⟩
    have hsd : Sub h' w2.drew := q2
    refine ⟨.tuple #[], h', e', rfl, q1, (hsd.set hn').set hn', (hkd.set (by simp)).set (by simp), q4, fun i b hib => ?_, by simp only [rep]; exact ⟨[], rfl, by simp [repT]⟩, ⟨fun k o hk => ?_, fun k o b hk hbk => ?_, fun k k' o o' b hne hk hk' => ?_⟩⟩
    · match i, hib with
      | 0, hib =>
        have : b = e.bs 1000 := by simpa [fixO] using hib.symm
        rw [this]; exact q5
      | i + 1, hib => simp [fixO] at hib
    · have hk1 : k = 1000 ∧ o = eRd it := by
        simp only [lkO] at hk
        cases hbq : Nat.beq 1000 k
        · rw [hbq] at hk; cases hk
        · rw [hbq] at hk
          simp only [cond_true, Option.some.injEq] at hk
          exact ⟨(Nat.eq_of_beq_eq_true hbq).symm, hk.symm⟩
      obtain ⟨rfl, rfl⟩ := hk1
      refine rp_shut (v3 := u3) (v4 := u4) (by rw [q5]; exact m2) (by rw [set_toList, set_toList, k2]; rfl) k3 k4
    · have hk1 : k = 1000 ∧ o = eRd it := by
        simp only [lkO] at hk
        cases hbq : Nat.beq 1000 k
        · rw [hbq] at hk; cases hk
        · rw [hbq] at hk
          simp only [cond_true, Option.some.injEq] at hk
          exact ⟨(Nat.eq_of_beq_eq_true hbq).symm, hk.symm⟩
      obtain ⟨rfl, rfl⟩ := hk1
      exact q7.ownb 1000 (eRu it 1) b rfl hbk
    · have hkk : ∀ k o, lkO [(1000, eRd it)] k = some o → k = 1000 := fun k o hk => by
        simp only [lkO] at hk
        cases hbq : Nat.beq 1000 k
        · rw [hbq] at hk; cases hk
        · exact (Nat.eq_of_beq_eq_true hbq).symm
      exact absurd ((hkk k o hk).trans (hkk k' o' hk').symm) hne
end Go.Sx
