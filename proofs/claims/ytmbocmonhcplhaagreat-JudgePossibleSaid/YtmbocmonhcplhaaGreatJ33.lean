/- Part of the proof that the laws of the judge return true for every input: J33. -/
import Derived.Test.YtmbocmonhcplhaaGreatJ32
set_option linter.all false
namespace Go.Sx
open Go.Proofs Go.RowKit
attribute [local irreducible] Run RunL RunD OpT SLe0 SLe OLe
set_option maxHeartbeats 2000000
set_option maxRecDepth 8000
set_option maxHeartbeats 20000000
theorem asY179 : AsY Tryz.prog 179 179 := fun _ _ _ => by kernel_rfl
theorem asN175 : AsN Tryz.prog 175 179 (.agg #[.slice none 0 0, .int .i64 0]) := fun _ _ _ => by kernel_rfl
theorem asN177 : AsN Tryz.prog 177 179 (.agg #[.slice none 0 0, .int .i64 0]) := fun _ _ _ => by kernel_rfl
def cntW : Nat → Need → Nat
 | 0, n => if n.Kind = 1 ∨ n.Kind = 2 then 1 else 0
 | d + 1, n => if n.Kind = 1 ∨ n.Kind = 2 then 1 else (n.L.map (cntW d)).sum
theorem cntW_le : ∀ (d : Nat) (n : Need), NOk d n → cntW d n ≤ cntB d
 | 0, n, _ => by simp only [cntW, cntB]; split <;> omega
 | d + 1, n, h => by
  have hc := cntB_pos d
  simp only [cntW, cntB]
  split
  ·omega
  ·have key : ∀ l : List Need, (∀ x ∈ l, NOk d x) → (l.map (cntW d)).sum ≤ l.length * cntB d := by
    intro l
    induction l with
    | nil => intro _; simp
    | cons x r ih =>
     intro hx
     have h1 := ih fun y hy => hx y (List.mem_cons_of_mem _ hy)
     have h2 := cntW_le d x (hx x (List.mem_cons_self ..))
     simp only [List.map_cons, List.sum_cons, List.length_cons, Nat.succ_mul]
     omega
   have h5 := key n.L h.2.2.2
   have h6 := Nat.mul_le_mul_right (cntB d) h.2.1
   omega
theorem K46 (d : Nat) (hcn : cntB d ≤ 10000) : FnOK Tryz.prog 46 (fun ds v => ∃ (n : Need) (s : Scale) (l : List Ach), NOk d n ∧ ds = [wantF s l d n] ∧ v = eInt (cntW d n : Nat)) := by
 induction d with
 | zero =>
  refine fn_intro Tryz.call46 Tryz.func46 rfl Tryz.ntmps46 ?_
  rintro ds d ⟨n, s, l, hn, rfl, rfl⟩
  refine ⟨by simp, fun w0 => ?_⟩
  by_cases k1 : n.Kind = 1
  ·have hw : wantF s l 0 n = .iface 175 (.agg (wL s l 0 n)) := by simp only [wantF, wT, if_pos k1]
   have hc : cntW 0 n = 1 := by rw [cntW, if_pos (.inl k1)]
   rw [hw, hc]
   repeat' (first | apply zC | apply zG | apply zD | apply zK | apply zA | apply zB | refine zF qS qR ?_ ?_ | refine steptaN asN175 qS qS ?_ | (refine zE qS ?_ ?_ <;> intro hb <;> have hc := hb <;> (try simp only [bF] at hc) <;> (try (exfalso; simp at hc; done))) | refine zI qR ?_ | exact True.intro | exact rfl | refine SLe0.int ?_ | fail)
   all_goals skip
  by_cases k2 : n.Kind = 2
  ·have hw : wantF s l 0 n = .iface 177 (.agg (wL s l 0 n)) := by simp only [wantF, wT, if_neg k1, if_pos k2]
   have hc : cntW 0 n = 1 := by rw [cntW, if_pos (.inr k2)]
   rw [hw, hc]
   repeat' (first | apply zC | apply zG | apply zD | apply zK | apply zA | apply zB | refine zF qS qR ?_ ?_ | refine steptaN asN177 qS qS ?_ | (refine zE qS ?_ ?_ <;> intro hb <;> have hc := hb <;> (try simp only [bF] at hc) <;> (try (exfalso; simp at hc; done))) | refine zI qR ?_ | exact True.intro | exact rfl | refine SLe0.int ?_ | fail)
   all_goals skip
  ·have hw : wantF s l 0 n = .iface 179 (.agg [.list 1 0 fun _ => .any, .int .i64 (if n.Kind = 3 then 0 else n.N)]) := by simp only [wantF, wT, wL, if_neg k1, if_neg k2]
   have hc : cntW 0 n = 0 := by rw [cntW, if_neg (by omega)]
   rw [hw, hc]
   repeat' (first | apply zC | apply zD | apply zA | apply zB | refine zF qS qR ?_ ?_ | refine steptaY asY179 qS qS ?_ | (refine zE qS ?_ ?_ <;> intro hb <;> have hc := hb <;> (try simp only [bF] at hc) <;> (try (exfalso; simp at hc; done))) | exact True.intro | exact rfl | fail)
   refine zM [0, 12, 13] (fun x : Nat × Unit => [(14, .int .i64 x.1), (3, .int .i64 0)]) (fun x : Nat × Unit => []) (fun x : Nat × Unit => x.1 ≤ 0) (fun x : Nat × Unit => 0 - x.1) (0, ()) (fun x => qS) ?_ qL qL ?_
   ·exact Nat.le_refl _
   rintro ⟨j, _⟩ q1
   simp only at q1
   repeat' (first | apply zC | apply zK | apply zA | apply zB | refine zF qS qR ?_ ?_ | (refine zE qS ?_ ?_ <;> intro hb <;> have hc := hb <;> (try simp only [bF] at hc) <;> (try (exfalso; simp at hc; done))) | refine zI qR ?_ | refine zJ qR ?_ | exact True.intro | exact rfl | refine SLe0.int ?_ | fail)
   all_goals skip
 | succ d ih =>
  refine fn_intro Tryz.call46 Tryz.func46 rfl Tryz.ntmps46 ?_
  rintro ds d ⟨n, s, l, hn, rfl, rfl⟩
  refine ⟨by simp, fun w0 => ?_⟩
  by_cases k1 : n.Kind = 1
  ·have hw : wantF s l (d + 1) n = .iface 175 (.agg (wL s l (d + 1) n)) := by simp only [wantF, wT, if_pos k1]
   have hc : cntW (d + 1) n = 1 := by rw [cntW, if_pos (.inl k1)]
   rw [hw, hc]
   repeat' (first | apply zC | apply zG | apply zD | apply zK | apply zA | apply zB | refine zF qS qR ?_ ?_ | refine steptaN asN175 qS qS ?_ | (refine zE qS ?_ ?_ <;> intro hb <;> have hc := hb <;> (try simp only [bF] at hc) <;> (try (exfalso; simp at hc; done))) | refine zI qR ?_ | exact True.intro | exact rfl | refine SLe0.int ?_ | fail)
   all_goals skip
  by_cases k2 : n.Kind = 2
  ·have hw : wantF s l (d + 1) n = .iface 177 (.agg (wL s l (d + 1) n)) := by simp only [wantF, wT, if_neg k1, if_pos k2]
   have hc : cntW (d + 1) n = 1 := by rw [cntW, if_pos (.inr k2)]
   rw [hw, hc]
   repeat' (first | apply zC | apply zG | apply zD | apply zK | apply zA | apply zB | refine zF qS qR ?_ ?_ | refine steptaN asN177 qS qS ?_ | (refine zE qS ?_ ?_ <;> intro hb <;> have hc := hb <;> (try simp only [bF] at hc) <;> (try (exfalso; simp at hc; done))) | refine zI qR ?_ | exact True.intro | exact rfl | refine SLe0.int ?_ | fail)
   all_goals skip
  ·have hw : wantF s l (d + 1) n = .iface 179 (.agg [.list 1 n.L.length fun i => wantF s l d (n.L.getD i default), .int .i64 (if n.Kind = 3 then (n.L.length : Int) else n.N)]) := by simp only [wantF, wT, wL, if_neg k1, if_neg k2]
   have hc0 : cntW (d + 1) n = (n.L.map (cntW d)).sum := by rw [cntW, if_neg (by omega)]
   have hb1 : cntB d ≤ 10000 := by simp only [cntB] at hcn; omega
   have hsum : ∀ i, i ≤ n.L.length → ((n.L.take i).map (cntW d)).sum ≤ i * cntB d := by
    intro i
    induction i with
    | zero => intro _; simp
    | succ i ihh =>
     intro hi
     have h1 := ihh (by omega)
     have h2 := cntW_le d _ (hn.2.2.2 _ (getD_mem' (show i < n.L.length by omega)))
     rw [List.take_add_one, List.getElem?_eq_getElem (by omega), List.map_append, List.sum_append]
     rw [List.getD_eq_getElem?_getD, List.getElem?_eq_getElem (by omega)] at h2
     simp only [Option.getD_some] at h2
     simp only [Option.toList_some, List.map_cons, List.map_nil, List.sum_cons, List.sum_nil, Nat.succ_mul]
     omega
   rw [hw, hc0]
   repeat' (first | apply zC | apply zD | apply zA | apply zB | refine zF qS qR ?_ ?_ | refine steptaY asY179 qS qS ?_ | (refine zE qS ?_ ?_ <;> intro hb <;> have hc := hb <;> (try simp only [bF] at hc) <;> (try (exfalso; simp at hc; done))) | exact True.intro | exact rfl | fail)
   refine zM [0, 12, 13] (fun x : Nat × Unit => [(14, .int .i64 x.1), (3, .int .i64 (((n.L.take x.1).map (cntW d)).sum : Nat))]) (fun x : Nat × Unit => []) (fun x : Nat × Unit => x.1 ≤ n.L.length) (fun x : Nat × Unit => n.L.length - x.1) (0, ()) (fun x => qS) ?_ qL qL ?_
   ·exact Nat.zero_le _
   rintro ⟨j, _⟩ q1
   simp only at q1
   repeat' (first | apply zC | apply zA | apply zB | refine zF qS qR ?_ ?_ | exact True.intro | exact rfl | fail)
   (refine zE qS ?_ ?_ <;> intro hb <;> have hc := hb <;> (try simp only [bF] at hc) <;> (try (exfalso; simp at hc; done)))
   ·have hj : j < n.L.length := by assumption
    have h3 := hn.2.1
    have h7 := hsum j q1
    have h8 : j * cntB d ≤ 3 * 10000 := Nat.mul_le_mul (by omega) hb1
    have hx := hn.2.2.2 _ (getD_mem' hj)
    have h9 := cntW_le d _ hx
    have hs : ((n.L.take (j + 1)).map (cntW d)).sum = ((n.L.take j).map (cntW d)).sum + cntW d (n.L.getD j default) := by
     rw [List.take_add_one, List.getElem?_eq_getElem hj, List.map_append, List.sum_append, List.getD_eq_getElem?_getD, List.getElem?_eq_getElem hj]
     simp
    have e1 : IntKind.i64.wrap ((((n.L.take j).map (cntW d)).sum : Int) + (cntW d (n.L.getD j default) : Int)) = (((n.L.take (j + 1)).map (cntW d)).sum : Nat) := by rw [w64, hs]; omega
    have ih' := ih hb1
    repeat' (first | apply zC | apply zG | apply zD | apply zK | apply zA | apply zB | refine zF (by simp only [go_sem, e1]; rfl) qR ?_ ?_ | refine zL ih' (by simp only [go_sem, e1]; first | done | rfl) ?_ ⟨n.L.getD j default, s, l, hx, rfl, rfl⟩ (by simp only [go_sem, e1]; rfl) ?_ | refine zR (j+1,()) ?_ ?_ ⟨rfl, qL, qL⟩ | exact True.intro | exact rfl | omega | exact qP | fail)
    all_goals skip
   ·have hje : j = n.L.length := by omega
    repeat' (first | apply zC | apply zK | apply zA | apply zB | refine zF qS qR ?_ ?_ | refine zI qR ?_ | refine zJ qR ?_ | exact True.intro | exact rfl | refine SLe0.int ?_ | fail)
    all_goals (rw [hje, List.take_length])
end Go.Sx
