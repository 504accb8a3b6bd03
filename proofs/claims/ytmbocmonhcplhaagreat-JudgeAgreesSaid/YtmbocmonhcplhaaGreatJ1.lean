/- Part of the proof that the laws of the judge return true for every input: J0, J1. -/
import Derived.Test.YtmbocmonhcplhaaGreatS3
import Derived.Test.YtmbocmonhcplhaaGreatS4
import Derived.ChangeKeysEq
import Derived.Test.YtmbocmonhcplhaaGreatChecked
set_option linter.all false
namespace Go.Sx
open Go.Proofs Go.RowKit
attribute [go_sem] zPn zK6 zUc stepG zFo yCk yBj zXn List.nil_append List.cons_append List.append_nil zTe zWc yDs zQs zC2 zLd zOa zTf qv zR4 ev lkp lkO cellsD Nat.blt Nat.ble St.free St.put yB2 zVv men zGy Nat.beq cond_true cond_false Bool.not_false Bool.not_true Bool.and_true Bool.true_and Bool.or_false Bool.false_and Bool.and_false upd Nat.reduceAdd unG ungd gC gCs atD ldc faD iaD bn2 aeD eqL bnD yDm yE6 yFy yFz shD dvD pkD pC zK4 lnD lenD clD mnD flD ixD slD ptD ofV ofS List.drop_succ_cons List.drop_zero List.take_succ_cons List.take_zero List.length_cons List.length_nil Option.map_some Option.map_none Nat.reduceLeDiff Nat.reduceBEq reduceIte List.toList_toArray gB zC0 List.map_cons List.map_nil zNx unD ncD exD cvD ifD bdD bdF zHt zK1 bsD zS5 zSs zMs zBc zCy zGs apD yA2 zA3 mkD setF elD asD frz zOn zXa zPe yDh zKd zGw zF3 St.purge zVq Nat.reduceMul Nat.reduceSub Int.toNat_natCast leaf gV mkG Bool.and_self zAn zAh zLm zN7 resD List.size_toArray zO5 yFx zAw zG5 zD7 zH2 zBf tmpsOf zKp zDs yEj zP8 zPj List.getD_cons_zero List.getD_cons_succ zNg lkU zCq Bool.or_true Bool.true_or
attribute [go_sem] adS nlD zQ6 nsD zXt yFp zPd zBt zFr zLa nodupB allB zPs yBp zS2 zEa zJa zSe tau sgm zK2 zC3 zCk pbN phN okb okh zF2 zJo yBm zI7 ren zGa zDn zC6 zQk zVn OB.isAcc yC7 zKm zMx zS1 yFt isNil zB6 mapD mlD zTd zYj yDd muD zFl zNn decide_true decide_false apN apS zS0 zEp swp yBl yD6 slA cpA slS cpS zPp zCz del bsS apK zRu zPc zX7 zLn zKe yDg lvN lvE yC1 apT yAe elL yCv zVb yC6 hdS
@[go_sem] theorem beqSelf (n : Nat) : Nat.beq n n = true := Nat.beq_refl n
instance : LawfulBEq ByteArray where
 eq_of_beq {a b} h := by
  obtain ⟨x⟩ := a;obtain ⟨y⟩ := b;have h' : (x == y) = true := h;rw [eq_of_beq h']
 rfl {a} := by
  obtain ⟨x⟩ := a;show (x == x) = true;simp
theorem zHn (a b : ByteArray) : (a.toList = b.toList) = (a = b) := by
 apply propext
 have := beq_toListBytes a b
 constructor
 ·intro h
  have h1 : (a.toList == b.toList) = true := by simp [h]
  rw [← this] at h1;exact eq_of_beq h1
 ·rintro rfl; rfl
section
open Tryz bsD
@[go_sem] theorem fT3 : szT prog 3 = 1 ∧ zBw prog 3 = some false ∧ kdT prog 3 = 6 ∧ byT prog 3 = 8 ∧ zBi prog 3 = true ∧ bdZ prog 3 = true ∧ ikT prog 3 = some .i64 ∧ zcT prog 3 = some (.int .i64 0) := by and_intros <;> kernel_rfl
@[go_sem] theorem fT4 : szT prog 4 = 1 ∧ zBw prog 4 = some false ∧ kdT prog 4 = 7 ∧ byT prog 4 = 1 ∧ zBi prog 4 = true ∧ bdZ prog 4 = true ∧ zcT prog 4 = some (.bool false) := by and_intros <;> kernel_rfl
@[go_sem] theorem fT5 : szT prog 5 = 1 ∧ zBw prog 5 = some false ∧ kdT prog 5 = 6 ∧ byT prog 5 = 1 ∧ zBi prog 5 = true ∧ bdZ prog 5 = true ∧ ikT prog 5 = some .u8 ∧ zcT prog 5 = some (.int .u8 0) := by and_intros <;> kernel_rfl
@[go_sem] theorem fT9 : szT prog 9 = 1 ∧ zBw prog 9 = some false ∧ kdT prog 9 = 2 ∧ byT prog 9 = 16 ∧ zBi prog 9 = true ∧ bdZ prog 9 = true ∧ zcT prog 9 = some (.str ByteArray.empty) := by and_intros <;> kernel_rfl
@[go_sem] theorem fT21 : szT prog 21 = 1 ∧ zBw prog 21 = some false ∧ kdT prog 21 = 6 ∧ byT prog 21 = 4 ∧ zBi prog 21 = true ∧ bdZ prog 21 = true ∧ ikT prog 21 = some .i32 ∧ zcT prog 21 = some (.int .i32 0) := by and_intros <;> kernel_rfl
@[go_sem] theorem fT22 : szT prog 22 = 1 ∧ zBw prog 22 = some false ∧ kdT prog 22 = 1 ∧ byT prog 22 = 24 ∧ zBi prog 22 = true ∧ bdZ prog 22 = true ∧ elT prog 22 = some 3 ∧ zcT prog 22 = some (.nils) := by and_intros <;> kernel_rfl
@[go_sem] theorem fT23 : szT prog 23 = 3 ∧ zBw prog 23 = some true ∧ kdT prog 23 = 4 ∧ byT prog 23 = 24 ∧ zBi prog 23 = true ∧ bdZ prog 23 = true ∧ elT prog 23 = some 3 ∧ lnT prog 23 = some 3 ∧ zcT prog 23 = some (.agg [.int .i64 0, .int .i64 0, .int .i64 0]) ∧ bdT prog 23 = some [.int .i64 0, .int .i64 0, .int .i64 0] ∧ plT prog 23 0 = some (0, 1) ∧ plT prog 23 1 = some (1, 1) ∧ plT prog 23 2 = some (2, 1) ∧ plT prog 23 3 = some (3, 1) ∧ plT prog 23 4 = some (4, 1) ∧ plT prog 23 5 = some (5, 1) ∧ plT prog 23 6 = some (6, 1) ∧ plT prog 23 7 = some (7, 1) ∧ plT prog 23 8 = some (8, 1) ∧ plT prog 23 9 = some (9, 1) ∧ plT prog 23 10 = some (10, 1) ∧ plT prog 23 11 = some (11, 1) := by and_intros <;> kernel_rfl
@[go_sem] theorem fT25 : szT prog 25 = 7 ∧ zBw prog 25 = some true ∧ kdT prog 25 = 5 ∧ byT prog 25 = 120 ∧ zBi prog 25 = true ∧ bdZ prog 25 = true ∧ zcT prog 25 = some (.agg [.nils, .nils, .nils, .nils, .int .i64 0, .int .i64 0, .int .i64 0]) ∧ bdT prog 25 = some [.nils, .nils, .nils, .nils, .int .i64 0, .int .i64 0, .int .i64 0] ∧ plT prog 25 0 = some (0, 1) ∧ ftT prog 25 0 = some 22 ∧ plT prog 25 1 = some (1, 1) ∧ ftT prog 25 1 = some 22 ∧ plT prog 25 2 = some (2, 1) ∧ ftT prog 25 2 = some 22 ∧ plT prog 25 3 = some (3, 1) ∧ ftT prog 25 3 = some 22 ∧ plT prog 25 4 = some (4, 3) ∧ ftT prog 25 4 = some 23 := by and_intros <;> kernel_rfl
@[go_sem] theorem fT27 : szT prog 27 = 1 ∧ zBw prog 27 = some false ∧ kdT prog 27 = 1 ∧ byT prog 27 = 24 ∧ zBi prog 27 = true ∧ bdZ prog 27 = true ∧ elT prog 27 = some 63 ∧ zcT prog 27 = some (.nils) := by and_intros <;> kernel_rfl
@[go_sem] theorem fT28 : szT prog 28 = 1 ∧ zBw prog 28 = some false ∧ kdT prog 28 = 1 ∧ byT prog 28 = 24 ∧ zBi prog 28 = true ∧ bdZ prog 28 = true ∧ elT prog 28 = some 30 ∧ zcT prog 28 = some (.nils) := by and_intros <;> kernel_rfl
@[go_sem] theorem fT30 : szT prog 30 = 5 ∧ zBw prog 30 = some true ∧ kdT prog 30 = 5 ∧ byT prog 30 = 72 ∧ zBi prog 30 = true ∧ bdZ prog 30 = true ∧ zcT prog 30 = some (.agg [.int .i64 0, .int .i64 0, .int .i64 0, .nils, .nils]) ∧ bdT prog 30 = some [.int .i64 0, .int .i64 0, .int .i64 0, .nils, .nils] ∧ plT prog 30 0 = some (0, 1) ∧ ftT prog 30 0 = some 3 ∧ plT prog 30 1 = some (1, 1) ∧ ftT prog 30 1 = some 3 ∧ plT prog 30 2 = some (2, 1) ∧ ftT prog 30 2 = some 3 ∧ plT prog 30 3 = some (3, 1) ∧ ftT prog 30 3 = some 27 ∧ plT prog 30 4 = some (4, 1) ∧ ftT prog 30 4 = some 28 := by and_intros <;> kernel_rfl
@[go_sem] theorem fT31 : szT prog 31 = 1 ∧ zBw prog 31 = some false ∧ kdT prog 31 = 1 ∧ byT prog 31 = 24 ∧ zBi prog 31 = true ∧ bdZ prog 31 = true ∧ elT prog 31 = some 161 ∧ zcT prog 31 = some (.nils) := by and_intros <;> kernel_rfl
@[go_sem] theorem fT33 : szT prog 33 = 14 ∧ zBw prog 33 = some true ∧ kdT prog 33 = 5 ∧ byT prog 33 = 168 ∧ zBi prog 33 = true ∧ bdZ prog 33 = true ∧ zcT prog 33 = some (.agg [.int .i64 0, .int .i64 0, .int .i64 0, .int .i64 0, .str ByteArray.empty, .int .i64 0, .int .i64 0, .int .i64 0, .nils, .nils, .int .i64 0, .int .i64 0, .int .i64 0, .nils]) ∧ bdT prog 33 = some [.int .i64 0, .int .i64 0, .int .i64 0, .int .i64 0, .str ByteArray.empty, .int .i64 0, .int .i64 0, .int .i64 0, .nils, .nils, .int .i64 0, .int .i64 0, .int .i64 0, .nils] ∧ plT prog 33 0 = some (0, 1) ∧ ftT prog 33 0 = some 3 ∧ plT prog 33 1 = some (1, 1) ∧ ftT prog 33 1 = some 3 ∧ plT prog 33 2 = some (2, 1) ∧ ftT prog 33 2 = some 3 ∧ plT prog 33 3 = some (3, 1) ∧ ftT prog 33 3 = some 3 ∧ plT prog 33 4 = some (4, 1) ∧ ftT prog 33 4 = some 9 ∧ plT prog 33 5 = some (5, 5) ∧ ftT prog 33 5 = some 30 ∧ plT prog 33 6 = some (10, 1) ∧ ftT prog 33 6 = some 3 ∧ plT prog 33 7 = some (11, 1) ∧ ftT prog 33 7 = some 3 ∧ plT prog 33 8 = some (12, 1) ∧ ftT prog 33 8 = some 3 ∧ plT prog 33 9 = some (13, 1) ∧ ftT prog 33 9 = some 31 := by and_intros <;> kernel_rfl
@[go_sem] theorem fT35 : szT prog 35 = 3 ∧ zBw prog 35 = some true ∧ kdT prog 35 = 5 ∧ byT prog 35 = 24 ∧ zBi prog 35 = true ∧ bdZ prog 35 = true ∧ zcT prog 35 = some (.agg [.int .i64 0, .int .i64 0, .int .i64 0]) ∧ bdT prog 35 = some [.int .i64 0, .int .i64 0, .int .i64 0] ∧ plT prog 35 0 = some (0, 1) ∧ ftT prog 35 0 = some 3 ∧ plT prog 35 1 = some (1, 1) ∧ ftT prog 35 1 = some 3 ∧ plT prog 35 2 = some (2, 1) ∧ ftT prog 35 2 = some 3 := by and_intros <;> kernel_rfl
@[go_sem] theorem fT36 : szT prog 36 = 1 ∧ zBw prog 36 = some false ∧ kdT prog 36 = 1 ∧ byT prog 36 = 24 ∧ zBi prog 36 = true ∧ bdZ prog 36 = true ∧ elT prog 36 = some 65 ∧ zcT prog 36 = some (.nils) := by and_intros <;> kernel_rfl
@[go_sem] theorem fT37 : szT prog 37 = 1 ∧ zBw prog 37 = some false ∧ kdT prog 37 = 1 ∧ byT prog 37 = 24 ∧ zBi prog 37 = true ∧ bdZ prog 37 = true ∧ elT prog 37 = some 76 ∧ zcT prog 37 = some (.nils) := by and_intros <;> kernel_rfl
@[go_sem] theorem fT38 : szT prog 38 = 1 ∧ zBw prog 38 = some false ∧ kdT prog 38 = 1 ∧ byT prog 38 = 24 ∧ zBi prog 38 = true ∧ bdZ prog 38 = true ∧ elT prog 38 = some 78 ∧ zcT prog 38 = some (.nils) := by and_intros <;> kernel_rfl
@[go_sem] theorem fT40 : szT prog 40 = 24 ∧ zBw prog 40 = some true ∧ kdT prog 40 = 5 ∧ byT prog 40 = 296 ∧ zBi prog 40 = true ∧ bdZ prog 40 = true ∧ zcT prog 40 = some (.agg [.int .i64 0, .int .i64 0, .int .i64 0, .int .i64 0, .str ByteArray.empty, .int .i64 0, .int .i64 0, .int .i64 0, .nils, .nils, .int .i64 0, .int .i64 0, .int .i64 0, .nils, .int .i64 0, .int .i64 0, .int .i64 0, .nils, .int .i64 0, .int .i64 0, .nils, .nils, .int .i64 0, .int .i64 0]) ∧ bdT prog 40 = some [.int .i64 0, .int .i64 0, .int .i64 0, .int .i64 0, .str ByteArray.empty, .int .i64 0, .int .i64 0, .int .i64 0, .nils, .nils, .int .i64 0, .int .i64 0, .int .i64 0, .nils, .int .i64 0, .int .i64 0, .int .i64 0, .nils, .int .i64 0, .int .i64 0, .nils, .nils, .int .i64 0, .int .i64 0] ∧ plT prog 40 0 = some (0, 14) ∧ ftT prog 40 0 = some 33 ∧ plT prog 40 1 = some (14, 3) ∧ ftT prog 40 1 = some 35 ∧ plT prog 40 2 = some (17, 1) ∧ ftT prog 40 2 = some 36 ∧ plT prog 40 3 = some (18, 1) ∧ ftT prog 40 3 = some 3 ∧ plT prog 40 4 = some (19, 1) ∧ ftT prog 40 4 = some 3 ∧ plT prog 40 5 = some (20, 1) ∧ ftT prog 40 5 = some 37 ∧ plT prog 40 6 = some (21, 1) ∧ ftT prog 40 6 = some 38 ∧ plT prog 40 7 = some (22, 1) ∧ ftT prog 40 7 = some 3 ∧ plT prog 40 8 = some (23, 1) ∧ ftT prog 40 8 = some 3 := by and_intros <;> kernel_rfl
@[go_sem] theorem fT45 : szT prog 45 = 1 ∧ zBw prog 45 = some false ∧ kdT prog 45 = 6 ∧ byT prog 45 = 2 ∧ zBi prog 45 = true ∧ bdZ prog 45 = true ∧ ikT prog 45 = some .u16 ∧ zcT prog 45 = some (.int .u16 0) := by and_intros <;> kernel_rfl
@[go_sem] theorem fT47 : szT prog 47 = 9 ∧ zBw prog 47 = some true ∧ kdT prog 47 = 5 ∧ byT prog 47 = 104 ∧ zBi prog 47 = true ∧ bdZ prog 47 = true ∧ zcT prog 47 = some (.agg [.nils, .nils, .int .i64 0, .int .i64 0, .int .i64 0, .int .i64 0, .int .i64 0, .int .i64 0, .int .u16 0]) ∧ bdT prog 47 = some [.nils, .nils, .int .i64 0, .int .i64 0, .int .i64 0, .int .i64 0, .int .i64 0, .int .i64 0, .int .u16 0] ∧ plT prog 47 0 = some (0, 1) ∧ ftT prog 47 0 = some 22 ∧ plT prog 47 1 = some (1, 1) ∧ ftT prog 47 1 = some 22 ∧ plT prog 47 2 = some (2, 3) ∧ ftT prog 47 2 = some 23 ∧ plT prog 47 3 = some (5, 3) ∧ ftT prog 47 3 = some 23 ∧ plT prog 47 4 = some (8, 1) ∧ ftT prog 47 4 = some 45 := by and_intros <;> kernel_rfl
@[go_sem] theorem fT48 : szT prog 48 = 42 ∧ zBw prog 48 = some true ∧ kdT prog 48 = 4 ∧ byT prog 48 = 504 ∧ zBi prog 48 = true ∧ bdZ prog 48 = true ∧ elT prog 48 = some 33 ∧ lnT prog 48 = some 3 ∧ zcT prog 48 = some (.agg [.int .i64 0, .int .i64 0, .int .i64 0, .int .i64 0, .str ByteArray.empty, .int .i64 0, .int .i64 0, .int .i64 0, .nils, .nils, .int .i64 0, .int .i64 0, .int .i64 0, .nils, .int .i64 0, .int .i64 0, .int .i64 0, .int .i64 0, .str ByteArray.empty, .int .i64 0, .int .i64 0, .int .i64 0, .nils, .nils, .int .i64 0, .int .i64 0, .int .i64 0, .nils, .int .i64 0, .int .i64 0, .int .i64 0, .int .i64 0, .str ByteArray.empty, .int .i64 0, .int .i64 0, .int .i64 0, .nils, .nils, .int .i64 0, .int .i64 0, .int .i64 0, .nils]) ∧ bdT prog 48 = some [.int .i64 0, .int .i64 0, .int .i64 0, .int .i64 0, .str ByteArray.empty, .int .i64 0, .int .i64 0, .int .i64 0, .nils, .nils, .int .i64 0, .int .i64 0, .int .i64 0, .nils, .int .i64 0, .int .i64 0, .int .i64 0, .int .i64 0, .str ByteArray.empty, .int .i64 0, .int .i64 0, .int .i64 0, .nils, .nils, .int .i64 0, .int .i64 0, .int .i64 0, .nils, .int .i64 0, .int .i64 0, .int .i64 0, .int .i64 0, .str ByteArray.empty, .int .i64 0, .int .i64 0, .int .i64 0, .nils, .nils, .int .i64 0, .int .i64 0, .int .i64 0, .nils] ∧ plT prog 48 0 = some (0, 14) ∧ plT prog 48 1 = some (14, 14) ∧ plT prog 48 2 = some (28, 14) ∧ plT prog 48 3 = some (42, 14) ∧ plT prog 48 4 = some (56, 14) ∧ plT prog 48 5 = some (70, 14) ∧ plT prog 48 6 = some (84, 14) ∧ plT prog 48 7 = some (98, 14) ∧ plT prog 48 8 = some (112, 14) ∧ plT prog 48 9 = some (126, 14) ∧ plT prog 48 10 = some (140, 14) ∧ plT prog 48 11 = some (154, 14) := by and_intros <;> kernel_rfl
@[go_sem] theorem fT49 : szT prog 49 = 2 ∧ zBw prog 49 = some true ∧ kdT prog 49 = 4 ∧ byT prog 49 = 48 ∧ zBi prog 49 = true ∧ bdZ prog 49 = true ∧ elT prog 49 = some 36 ∧ lnT prog 49 = some 2 ∧ zcT prog 49 = some (.agg [.nils, .nils]) ∧ bdT prog 49 = some [.nils, .nils] ∧ plT prog 49 0 = some (0, 1) ∧ plT prog 49 1 = some (1, 1) ∧ plT prog 49 2 = some (2, 1) ∧ plT prog 49 3 = some (3, 1) ∧ plT prog 49 4 = some (4, 1) ∧ plT prog 49 5 = some (5, 1) ∧ plT prog 49 6 = some (6, 1) ∧ plT prog 49 7 = some (7, 1) ∧ plT prog 49 8 = some (8, 1) ∧ plT prog 49 9 = some (9, 1) ∧ plT prog 49 10 = some (10, 1) ∧ plT prog 49 11 = some (11, 1) := by and_intros <;> kernel_rfl
@[go_sem] theorem fT53 : szT prog 53 = 1 ∧ zBw prog 53 = some false ∧ kdT prog 53 = 1 ∧ byT prog 53 = 24 ∧ zBi prog 53 = true ∧ bdZ prog 53 = true ∧ elT prog 53 = some 35 ∧ zcT prog 53 = some (.nils) := by and_intros <;> kernel_rfl
@[go_sem] theorem fT59 : szT prog 59 = 1 ∧ zBw prog 59 = some false ∧ kdT prog 59 = 6 ∧ byT prog 59 = 8 ∧ zBi prog 59 = true ∧ bdZ prog 59 = true ∧ ikT prog 59 = some .i64 ∧ zcT prog 59 = some (.int .i64 0) := by and_intros <;> kernel_rfl
@[go_sem] theorem fT63 : szT prog 63 = 2 ∧ zBw prog 63 = some true ∧ kdT prog 63 = 5 ∧ byT prog 63 = 24 ∧ zBi prog 63 = true ∧ bdZ prog 63 = true ∧ zcT prog 63 = some (.agg [.int .i64 0, .str ByteArray.empty]) ∧ bdT prog 63 = some [.int .i64 0, .str ByteArray.empty] ∧ plT prog 63 0 = some (0, 1) ∧ ftT prog 63 0 = some 3 ∧ plT prog 63 1 = some (1, 1) ∧ ftT prog 63 1 = some 9 := by and_intros <;> kernel_rfl
@[go_sem] theorem fT65 : szT prog 65 = 8 ∧ zBw prog 65 = some true ∧ kdT prog 65 = 5 ∧ byT prog 65 = 104 ∧ zBi prog 65 = true ∧ bdZ prog 65 = true ∧ zcT prog 65 = some (.agg [.int .i64 0, .str ByteArray.empty, .int .i64 0, .int .i64 0, .int .i64 0, .nils, .int .i64 0, .nils]) ∧ bdT prog 65 = some [.int .i64 0, .str ByteArray.empty, .int .i64 0, .int .i64 0, .int .i64 0, .nils, .int .i64 0, .nils] ∧ plT prog 65 0 = some (0, 2) ∧ ftT prog 65 0 = some 63 ∧ plT prog 65 1 = some (2, 1) ∧ ftT prog 65 1 = some 3 ∧ plT prog 65 2 = some (3, 1) ∧ ftT prog 65 2 = some 3 ∧ plT prog 65 3 = some (4, 1) ∧ ftT prog 65 3 = some 3 ∧ plT prog 65 4 = some (5, 1) ∧ ftT prog 65 4 = some 22 ∧ plT prog 65 5 = some (6, 1) ∧ ftT prog 65 5 = some 3 ∧ plT prog 65 6 = some (7, 1) ∧ ftT prog 65 6 = some 22 := by and_intros <;> kernel_rfl
@[go_sem] theorem fT74 : szT prog 74 = 1 ∧ zBw prog 74 = some false ∧ kdT prog 74 = 1 ∧ byT prog 74 = 24 ∧ zBi prog 74 = true ∧ bdZ prog 74 = true ∧ elT prog 74 = some 9 ∧ zcT prog 74 = some (.nils) := by and_intros <;> kernel_rfl
@[go_sem] theorem fT76 : szT prog 76 = 5 ∧ zBw prog 76 = some true ∧ kdT prog 76 = 5 ∧ byT prog 76 = 80 ∧ zBi prog 76 = true ∧ bdZ prog 76 = true ∧ zcT prog 76 = some (.agg [.str ByteArray.empty, .int .i64 0, .int .i64 0, .nils, .nils]) ∧ bdT prog 76 = some [.str ByteArray.empty, .int .i64 0, .int .i64 0, .nils, .nils] ∧ plT prog 76 0 = some (0, 1) ∧ ftT prog 76 0 = some 9 ∧ plT prog 76 1 = some (1, 1) ∧ ftT prog 76 1 = some 3 ∧ plT prog 76 2 = some (2, 1) ∧ ftT prog 76 2 = some 3 ∧ plT prog 76 3 = some (3, 1) ∧ ftT prog 76 3 = some 22 ∧ plT prog 76 4 = some (4, 1) ∧ ftT prog 76 4 = some 74 := by and_intros <;> kernel_rfl
@[go_sem] theorem fT78 : szT prog 78 = 2 ∧ zBw prog 78 = some true ∧ kdT prog 78 = 5 ∧ byT prog 78 = 24 ∧ zBi prog 78 = true ∧ bdZ prog 78 = true ∧ zcT prog 78 = some (.agg [.int .i64 0, .str ByteArray.empty]) ∧ bdT prog 78 = some [.int .i64 0, .str ByteArray.empty] ∧ plT prog 78 0 = some (0, 1) ∧ ftT prog 78 0 = some 3 ∧ plT prog 78 1 = some (1, 1) ∧ ftT prog 78 1 = some 9 := by and_intros <;> kernel_rfl
@[go_sem] theorem fT93 : szT prog 93 = 2 ∧ zBw prog 93 = some true ∧ kdT prog 93 = 4 ∧ byT prog 93 = 16 ∧ zBi prog 93 = true ∧ bdZ prog 93 = true ∧ elT prog 93 = some 3 ∧ lnT prog 93 = some 2 ∧ zcT prog 93 = some (.agg [.int .i64 0, .int .i64 0]) ∧ bdT prog 93 = some [.int .i64 0, .int .i64 0] ∧ plT prog 93 0 = some (0, 1) ∧ plT prog 93 1 = some (1, 1) ∧ plT prog 93 2 = some (2, 1) ∧ plT prog 93 3 = some (3, 1) ∧ plT prog 93 4 = some (4, 1) ∧ plT prog 93 5 = some (5, 1) ∧ plT prog 93 6 = some (6, 1) ∧ plT prog 93 7 = some (7, 1) ∧ plT prog 93 8 = some (8, 1) ∧ plT prog 93 9 = some (9, 1) ∧ plT prog 93 10 = some (10, 1) ∧ plT prog 93 11 = some (11, 1) := by and_intros <;> kernel_rfl
@[go_sem] theorem fT97 : szT prog 97 = 1 ∧ zBw prog 97 = some false ∧ kdT prog 97 = 9 ∧ byT prog 97 = 8 ∧ zBi prog 97 = true ∧ bdZ prog 97 = true ∧ zcT prog 97 = some (.nilfn) := by and_intros <;> kernel_rfl
@[go_sem] theorem fT99 : szT prog 99 = 1 ∧ zBw prog 99 = some false ∧ kdT prog 99 = 8 ∧ byT prog 99 = 16 ∧ zBi prog 99 = true ∧ bdZ prog 99 = true ∧ zcT prog 99 = some (.nilif) := by and_intros <;> kernel_rfl
@[go_sem] theorem fT103 : szT prog 103 = 1 ∧ zBw prog 103 = some false ∧ kdT prog 103 = 3 ∧ byT prog 103 = 8 ∧ zBi prog 103 = true ∧ bdZ prog 103 = true ∧ zcT prog 103 = some (.nilmap) := by and_intros <;> kernel_rfl
@[go_sem] theorem fT106 : szT prog 106 = 1 ∧ zBw prog 106 = some false ∧ kdT prog 106 = 1 ∧ byT prog 106 = 24 ∧ zBi prog 106 = true ∧ bdZ prog 106 = true ∧ elT prog 106 = some 4 ∧ zcT prog 106 = some (.nils) := by and_intros <;> kernel_rfl
@[go_sem] theorem fT134 : szT prog 134 = 1 ∧ zBw prog 134 = some false ∧ kdT prog 134 = 9 ∧ byT prog 134 = 8 ∧ zBi prog 134 = true ∧ bdZ prog 134 = true ∧ zcT prog 134 = some (.nilfn) := by and_intros <;> kernel_rfl
@[go_sem] theorem fT140 : szT prog 140 = 1 ∧ zBw prog 140 = some false ∧ kdT prog 140 = 1 ∧ byT prog 140 = 24 ∧ zBi prog 140 = true ∧ bdZ prog 140 = true ∧ elT prog 140 = some 5 ∧ zcT prog 140 = some (.nils) := by and_intros <;> kernel_rfl
@[go_sem] theorem fT141 : szT prog 141 = 1 ∧ zBw prog 141 = some false ∧ kdT prog 141 = 9 ∧ byT prog 141 = 8 ∧ zBi prog 141 = true ∧ bdZ prog 141 = true ∧ zcT prog 141 = some (.nilp) := by and_intros <;> kernel_rfl
@[go_sem] theorem fT143 : szT prog 143 = 2 ∧ zBw prog 143 = some true ∧ kdT prog 143 = 5 ∧ byT prog 143 = 32 ∧ zBi prog 143 = true ∧ bdZ prog 143 = true ∧ zcT prog 143 = some (.agg [.nils, .int .i64 0]) ∧ bdT prog 143 = some [.nils, .int .i64 0] ∧ plT prog 143 0 = some (0, 1) ∧ ftT prog 143 0 = some 22 ∧ plT prog 143 1 = some (1, 1) ∧ ftT prog 143 1 = some 3 := by and_intros <;> kernel_rfl
@[go_sem] theorem fT147 : szT prog 147 = 1 ∧ zBw prog 147 = some false ∧ kdT prog 147 = 9 ∧ byT prog 147 = 8 ∧ zBi prog 147 = true ∧ bdZ prog 147 = true ∧ zcT prog 147 = some (.nilfn) := by and_intros <;> kernel_rfl
@[go_sem] theorem fT148 : szT prog 148 = 1 ∧ zBw prog 148 = some false ∧ kdT prog 148 = 3 ∧ byT prog 148 = 8 ∧ zBi prog 148 = true ∧ bdZ prog 148 = true ∧ zcT prog 148 = some (.nilmap) := by and_intros <;> kernel_rfl
@[go_sem] theorem fT149 : szT prog 149 = 1 ∧ zBw prog 149 = some false ∧ kdT prog 149 = 3 ∧ byT prog 149 = 8 ∧ zBi prog 149 = true ∧ bdZ prog 149 = true ∧ zcT prog 149 = some (.nilmap) := by and_intros <;> kernel_rfl
@[go_sem] theorem fT151 : szT prog 151 = 1 ∧ zBw prog 151 = some false ∧ kdT prog 151 = 9 ∧ byT prog 151 = 8 ∧ zBi prog 151 = true ∧ bdZ prog 151 = true ∧ zcT prog 151 = some (.nilfn) := by and_intros <;> kernel_rfl
@[go_sem] theorem fT157 : szT prog 157 = 1 ∧ zBw prog 157 = some false ∧ kdT prog 157 = 9 ∧ byT prog 157 = 8 ∧ zBi prog 157 = true ∧ bdZ prog 157 = true ∧ zcT prog 157 = some (.nilp) := by and_intros <;> kernel_rfl
@[go_sem] theorem fT158 : szT prog 158 = 2 ∧ zBw prog 158 = some true ∧ kdT prog 158 = 5 ∧ byT prog 158 = 32 ∧ zBi prog 158 = true ∧ bdZ prog 158 = true ∧ zcT prog 158 = some (.agg [.nils, .int .i64 0]) ∧ bdT prog 158 = some [.nils, .int .i64 0] ∧ plT prog 158 0 = some (0, 1) ∧ ftT prog 158 0 = some 22 ∧ plT prog 158 1 = some (1, 1) ∧ ftT prog 158 1 = some 3 := by and_intros <;> kernel_rfl
@[go_sem] theorem fT161 : szT prog 161 = 4 ∧ zBw prog 161 = some true ∧ kdT prog 161 = 4 ∧ byT prog 161 = 48 ∧ zBi prog 161 = true ∧ bdZ prog 161 = true ∧ elT prog 161 = some 63 ∧ lnT prog 161 = some 2 ∧ zcT prog 161 = some (.agg [.int .i64 0, .str ByteArray.empty, .int .i64 0, .str ByteArray.empty]) ∧ bdT prog 161 = some [.int .i64 0, .str ByteArray.empty, .int .i64 0, .str ByteArray.empty] ∧ plT prog 161 0 = some (0, 2) ∧ plT prog 161 1 = some (2, 2) ∧ plT prog 161 2 = some (4, 2) ∧ plT prog 161 3 = some (6, 2) ∧ plT prog 161 4 = some (8, 2) ∧ plT prog 161 5 = some (10, 2) ∧ plT prog 161 6 = some (12, 2) ∧ plT prog 161 7 = some (14, 2) ∧ plT prog 161 8 = some (16, 2) ∧ plT prog 161 9 = some (18, 2) ∧ plT prog 161 10 = some (20, 2) ∧ plT prog 161 11 = some (22, 2) := by and_intros <;> kernel_rfl
@[go_sem] theorem fT165 : szT prog 165 = 1 ∧ zBw prog 165 = some false ∧ kdT prog 165 = 9 ∧ byT prog 165 = 8 ∧ zBi prog 165 = true ∧ bdZ prog 165 = true ∧ zcT prog 165 = some (.nilfn) := by and_intros <;> kernel_rfl
@[go_sem] theorem fT166 : szT prog 166 = 1 ∧ zBw prog 166 = some false ∧ kdT prog 166 = 9 ∧ byT prog 166 = 8 ∧ zBi prog 166 = true ∧ bdZ prog 166 = true ∧ zcT prog 166 = some (.nilfn) := by and_intros <;> kernel_rfl
@[go_sem] theorem fT173 : szT prog 173 = 1 ∧ zBw prog 173 = some false ∧ kdT prog 173 = 1 ∧ byT prog 173 = 24 ∧ zBi prog 173 = true ∧ bdZ prog 173 = true ∧ elT prog 173 = some 99 ∧ zcT prog 173 = some (.nils) := by and_intros <;> kernel_rfl
@[go_sem] theorem fT175 : szT prog 175 = 1 ∧ zBw prog 175 = some true ∧ kdT prog 175 = 5 ∧ byT prog 175 = 24 ∧ zBi prog 175 = true ∧ bdZ prog 175 = true ∧ zcT prog 175 = some (.agg [.nils]) ∧ bdT prog 175 = some [.nils] ∧ plT prog 175 0 = some (0, 1) ∧ ftT prog 175 0 = some 22 := by and_intros <;> kernel_rfl
@[go_sem] theorem fT177 : szT prog 177 = 3 ∧ zBw prog 177 = some true ∧ kdT prog 177 = 5 ∧ byT prog 177 = 56 ∧ zBi prog 177 = true ∧ bdZ prog 177 = true ∧ zcT prog 177 = some (.agg [.nils, .nils, .int .i64 0]) ∧ bdT prog 177 = some [.nils, .nils, .int .i64 0] ∧ plT prog 177 0 = some (0, 1) ∧ ftT prog 177 0 = some 22 ∧ plT prog 177 1 = some (1, 1) ∧ ftT prog 177 1 = some 22 ∧ plT prog 177 2 = some (2, 1) ∧ ftT prog 177 2 = some 3 := by and_intros <;> kernel_rfl
@[go_sem] theorem fT179 : szT prog 179 = 2 ∧ zBw prog 179 = some true ∧ kdT prog 179 = 5 ∧ byT prog 179 = 32 ∧ zBi prog 179 = true ∧ bdZ prog 179 = true ∧ zcT prog 179 = some (.agg [.nils, .int .i64 0]) ∧ bdT prog 179 = some [.nils, .int .i64 0] ∧ plT prog 179 0 = some (0, 1) ∧ ftT prog 179 0 = some 173 ∧ plT prog 179 1 = some (1, 1) ∧ ftT prog 179 1 = some 3 := by and_intros <;> kernel_rfl
@[go_sem] theorem fT182 : szT prog 182 = 1 ∧ zBw prog 182 = some false ∧ kdT prog 182 = 1 ∧ byT prog 182 = 24 ∧ zBi prog 182 = true ∧ bdZ prog 182 = true ∧ elT prog 182 = some 106 ∧ zcT prog 182 = some (.nils) := by and_intros <;> kernel_rfl
@[go_sem] theorem fT208 : szT prog 208 = 1 ∧ zBw prog 208 = some false ∧ kdT prog 208 = 3 ∧ byT prog 208 = 8 ∧ zBi prog 208 = true ∧ bdZ prog 208 = true ∧ zcT prog 208 = some (.nilmap) := by and_intros <;> kernel_rfl
@[go_sem] theorem fT211 : szT prog 211 = 1 ∧ zBw prog 211 = some true ∧ kdT prog 211 = 5 ∧ byT prog 211 = 8 ∧ zBi prog 211 = true ∧ bdZ prog 211 = true ∧ zcT prog 211 = some (.agg [.nilfn]) ∧ bdT prog 211 = some [.nilfn] ∧ plT prog 211 0 = some (0, 1) ∧ ftT prog 211 0 = some 165 := by and_intros <;> kernel_rfl
@[go_sem] theorem fT217 : szT prog 217 = 1 ∧ zBw prog 217 = some false ∧ kdT prog 217 = 1 ∧ byT prog 217 = 24 ∧ zBi prog 217 = true ∧ bdZ prog 217 = true ∧ elT prog 217 = some 221 ∧ zcT prog 217 = some (.nils) := by and_intros <;> kernel_rfl
@[go_sem] theorem fT221 : szT prog 221 = 6 ∧ zBw prog 221 = some true ∧ kdT prog 221 = 5 ∧ byT prog 221 = 80 ∧ zBi prog 221 = true ∧ bdZ prog 221 = true ∧ zcT prog 221 = some (.agg [.int .i64 0, .int .i64 0, .int .i64 0, .nils, .nils, .int .i64 0]) ∧ bdT prog 221 = some [.int .i64 0, .int .i64 0, .int .i64 0, .nils, .nils, .int .i64 0] ∧ plT prog 221 0 = some (0, 5) ∧ ftT prog 221 0 = some 30 ∧ plT prog 221 1 = some (5, 1) ∧ ftT prog 221 1 = some 3 := by and_intros <;> kernel_rfl
@[go_sem] theorem fT222 : szT prog 222 = 1 ∧ zBw prog 222 = some false ∧ kdT prog 222 = 9 ∧ byT prog 222 = 8 ∧ zBi prog 222 = true ∧ bdZ prog 222 = true ∧ zcT prog 222 = some (.nilfn) := by and_intros <;> kernel_rfl
@[go_sem] theorem fT253 : szT prog 253 = 1 ∧ zBw prog 253 = some false ∧ kdT prog 253 = 9 ∧ byT prog 253 = 8 ∧ zBi prog 253 = true ∧ bdZ prog 253 = true ∧ zcT prog 253 = some (.nilfn) := by and_intros <;> kernel_rfl
@[go_sem] theorem fT273 : szT prog 273 = 1 ∧ zBw prog 273 = some false ∧ kdT prog 273 = 9 ∧ byT prog 273 = 8 ∧ zBi prog 273 = true ∧ bdZ prog 273 = true ∧ zcT prog 273 = some (.nilfn) := by and_intros <;> kernel_rfl
@[go_sem] theorem fT316 : szT prog 316 = 1 ∧ zBw prog 316 = some false ∧ kdT prog 316 = 9 ∧ byT prog 316 = 8 ∧ zBi prog 316 = true ∧ bdZ prog 316 = true ∧ zcT prog 316 = some (.nilfn) := by and_intros <;> kernel_rfl
@[go_sem] theorem fT317 : szT prog 317 = 1 ∧ zBw prog 317 = some false ∧ kdT prog 317 = 1 ∧ byT prog 317 = 24 ∧ zBi prog 317 = true ∧ bdZ prog 317 = true ∧ elT prog 317 = some 103 ∧ zcT prog 317 = some (.nils) := by and_intros <;> kernel_rfl
end
theorem eq63 (n : Nat) (a c : Int) (b d : ByteArray) (w : World) : (Op.equalIn (n + 2) 63 (.agg #[.int .i64 a, .string b]) (.agg #[.int .i64 c, .string d])).run Tryz.prog w = .ok (a == c && b == d) w := by
 simp [go_sem, zHn]
 by_cases h1 : a = c <;> by_cases h2 : b = d <;> simp [h1, h2]
theorem yFa (a c : Int) (b d : ByteArray) (t : Bool) (ht : t = ((a == c) && (b == d))) : zPa Tryz.prog 63 [.int .i64 a, .str b] [.int .i64 c, .str d] t := by
 refine ⟨by kernel_rfl, fun h e xs ys h1 h2 w => ?_⟩
 simp only [repC, rep] at h1 h2
 obtain ⟨_, _, rfl, _, rfl, _, _, rfl, _, rfl, rfl⟩ := h1
 obtain ⟨_, _, rfl, _, rfl, _, _, rfl, _, rfl, rfl⟩ := h2
 subst ht
 exact eq63 9998 a c b d w
theorem yE9 (a c : Int) (b d : ByteArray) (t : Bool) (ht : t = ((a == c) && (b == d))) : zPa Tryz.prog 78 [.int .i64 a, .str b] [.int .i64 c, .str d] t := by
 refine ⟨by kernel_rfl, fun h e xs ys h1 h2 w => ?_⟩
 simp only [repC, rep] at h1 h2
 obtain ⟨_, _, rfl, _, rfl, _, _, rfl, _, rfl, rfl⟩ := h1
 obtain ⟨_, _, rfl, _, rfl, _, _, rfl, _, rfl, rfl⟩ := h2
 subst ht
 show (Op.equalIn 10000 78 _ _).run Tryz.prog w = _
 simp [go_sem, zHn]
 by_cases h1 : a = c <;> by_cases h2 : b = d <;> simp [h1, h2]
theorem yC3 (a c a' c' : Int) (b d b' d' : ByteArray) (t : Bool) (ht : t = ((a == c) && ((b == d) && ((a' == c') && (b' == d'))))) : zPa Tryz.prog 161 [.int .i64 a, .str b, .int .i64 a', .str b'] [.int .i64 c, .str d, .int .i64 c', .str d'] t := by
 refine ⟨by kernel_rfl, fun h e xs ys h1 h2 w => ?_⟩
 simp only [repC, rep] at h1 h2
 obtain ⟨_, _, rfl, _, rfl, _, _, rfl, _, rfl, _, _, rfl, _, rfl, _, _, rfl, _, rfl, rfl⟩ := h1
 obtain ⟨_, _, rfl, _, rfl, _, _, rfl, _, rfl, _, _, rfl, _, rfl, _, _, rfl, _, rfl, rfl⟩ := h2
 subst ht
 show (Op.equalIn (9999 + 1) 161 _ _).run Tryz.prog w = _
 obtain ⟨i, hi, _⟩ := zAl (show szT Tryz.prog 63 = 1 + 1 by kernel_rfl)
 have hc : Tryz.prog.cellsOf 63 = 2 := by kernel_rfl
 have e1 : ∀ a b c d, (part 63 #[a,b,c,d] 0).run Tryz.prog w = .ok (.agg #[a, b]) w := fun a b c d => by simp [go_sem]
 have e2 : ∀ a b c d, (part 63 #[a,b,c,d] 2).run Tryz.prog w = .ok (.agg #[c, d]) w := fun a b c d => by simp [go_sem]
 rw [run_equalIn_array w 9999 (t := 161) (e := 63) (n := 2) _ _ (by kernel_rfl) hi, hc]
 simp [Op.eqItems, List.range_succ, e1, e2, eq63 9997]
 by_cases h1 : a = c <;> by_cases h2 : b = d <;> by_cases h3 : a' = c' <;> by_cases h4 : b' = d' <;> simp [h1, h2, h3, h4]
@[go_sem] theorem ageq63_iff (a c : Int) (b d : ByteArray) : zPa Tryz.prog 63 [.int .i64 a, .str b] [.int .i64 c, .str d] ((a == c) && (b == d)) = True := eq_true (yFa a c b d _ rfl)
@[go_sem] theorem ageq78_iff (a c : Int) (b d : ByteArray) : zPa Tryz.prog 78 [.int .i64 a, .str b] [.int .i64 c, .str d] ((a == c) && (b == d)) = True := eq_true (yE9 a c b d _ rfl)
@[go_sem] theorem ageq161_iff (a c a' c' : Int) (b d b' d' : ByteArray) : zPa Tryz.prog 161 [.int .i64 a, .str b, .int .i64 a', .str b'] [.int .i64 c, .str d, .int .i64 c', .str d'] ((a == c) && ((b == d) && ((a' == c') && (b' == d')))) = True := eq_true (yC3 a c a' c' b d b' d' _ rfl)
instance : Inhabited ByteArray := ⟨ByteArray.empty⟩
structure Course where (School : Int) (Code : ByteArray)
 deriving Inhabited, DecidableEq
structure Ach where (Course : Course) (Credits Grade Day : Int) (Sources : List Int) (Bundle : Int) (Path : List Int)
 deriving Inhabited
structure Offer where (Code : ByteArray) (Credits Places : Int) (Slots : List Int) (Needs : List ByteArray)
 deriving Inhabited
structure Item where (Term : Int) (Code : ByteArray)
 deriving Inhabited, DecidableEq
inductive Need where
 | mk (Kind N Min : Int) (Set : List Course) (L : List Need)
instance : Inhabited Need := ⟨.mk 0 0 0 [] []⟩
structure Scale where (Worst Best Pass : Int)
 deriving Inhabited, DecidableEq
structure Programme where (School Id Version From : Int) (Name : ByteArray) (Need : Need) (Total Own Age : Int) (Exclude : List (Course × Course))
 deriving Inhabited
structure Case where (Programme : Programme) (Scale : Scale) (Has : List Ach) (First Terms : Int) (Offers : List Offer) (Items : List Item) (Most Day : Int)
 deriving Inhabited
@[go_sem] def zAo {α : Type} [Inhabited α] (es : Nat) (f : α → SD) (l : List α) : SD := .list es l.length fun i => f (l.getD i default)
@[go_sem] def eInt (x : Int) : SD := .int .i64 x
@[go_sem] def eStr (x : ByteArray) : SD := .str x
@[go_sem] def ints (l : List Int) : SD := zAo 1 eInt l
@[go_sem] def lngs (l : List Int) : SD := .lng l.length (fun i => l.getD i default)
@[go_sem] def strs (l : List ByteArray) : SD := zAo 1 eStr l
@[go_sem] def zAe (a : Course) : SD := .agg [.int .i64 a.School, .str a.Code]
@[go_sem] def zBp (a : Ach) : SD := .agg [.int .i64 a.Course.School, .str a.Course.Code, .int .i64 a.Credits, .int .i64 a.Grade, .int .i64 a.Day, ints a.Sources, .int .i64 a.Bundle, ints a.Path]
@[go_sem] def zC7 (a : Offer) : SD := .agg [.str a.Code, .int .i64 a.Credits, .int .i64 a.Places, ints a.Slots, strs a.Needs]
@[go_sem] def zIh (a : Item) : SD := .agg [.int .i64 a.Term, .str a.Code]
@[go_sem] def zDm (a : Scale) : SD := .agg [.int .i64 a.Worst, .int .i64 a.Best, .int .i64 a.Pass]
@[go_sem] def zM8 (a : Course × Course) : SD := .agg [.int .i64 a.1.School, .str a.1.Code, .int .i64 a.2.School, .str a.2.Code]
def Need.Kind : Need → Int | .mk k _ _ _ _ => k
def Need.N : Need → Int | .mk _ n _ _ _ => n
def Need.Min : Need → Int | .mk _ _ m _ _ => m
def Need.Set : Need → List Course | .mk _ _ _ s _ => s
def Need.L : Need → List Need | .mk _ _ _ _ l => l
mutual
def zRg : Need → List SD
 | .mk k n m s l => [.int .i64 k, .int .i64 n, .int .i64 m, zAo 2 zAe s, .list 5 l.length fun i => zBc (zB9 l) i]
def zB9 : List Need → List SD
 | [] => []
 | x :: r => .agg (zRg x) :: zB9 r
end
@[go_sem] theorem zB5 (n : Need) : zRg n = [.int .i64 n.Kind, .int .i64 n.N, .int .i64 n.Min, zAo 2 zAe n.Set, .list 5 n.L.length fun i => zBc (zB9 n.L) i] := by
 cases n; rw [zRg]; rfl
@[go_sem] def zDz (n : Need) : SD := .agg (zRg n)
theorem zBs : ∀ (l : List Need) (i : Nat), i < l.length → zBc (zB9 l) i = zDz (l.getD i default)
 | [], i, h => absurd h (Nat.not_lt_zero i)
 | x :: r, 0, _ => by rw [zB9]; rfl
 | x :: r, i + 1, h => by
  rw [zB9];simp only [zBc, List.getD_cons_succ];exact zBs r i (by simpa using h)
@[go_sem] def zEy (p : Programme) : List SD := [.int .i64 p.School, .int .i64 p.Id, .int .i64 p.Version, .int .i64 p.From, .str p.Name, .int .i64 p.Need.Kind, .int .i64 p.Need.N, .int .i64 p.Need.Min, zAo 2 zAe p.Need.Set,
 .list 5 p.Need.L.length (fun i => zBc (zB9 p.Need.L) i), .int .i64 p.Total, .int .i64 p.Own, .int .i64 p.Age, zAo 4 zM8 p.Exclude]
@[go_sem] def zEs (p : Programme) : SD := .agg (zEy p)
@[go_sem] def zY1 (c : Case) : SD := .agg (zEy c.Programme ++ [.int .i64 c.Scale.Worst, .int .i64 c.Scale.Best, .int .i64 c.Scale.Pass, zAo 8 zBp c.Has, .int .i64 c.First, .int .i64 c.Terms, zAo 5 zC7 c.Offers, zAo 2 zIh c.Items, .int .i64 c.Most, .int .i64 c.Day])
end Go.Sx
namespace Go.Sx
open Go.Proofs Go.RowKit
attribute [local irreducible] Run zAi zAy zAc SLe OLe
set_option maxHeartbeats 2000000
set_option maxRecDepth 8000
abbrev wr (x : Int) : Int := IntKind.i64.wrap x
def yEx (n by' : Int) : Int := wr ((wr (n - (wr (n.tmod by' + by')).tmod by')).tdiv by')
def yDj (n by' : Int) : Int := if n.tmod by' < 0 then wr (wr (n.tdiv by') - 1) else wr (n.tdiv by')
def zNv (x : Int) : Int := if x < -4611686018427387904 then wr (yEx (wr (x + 100)) 100 - 1) else yEx x 100
theorem K102 : FnOK Tryz.prog 102 (fun ds d => ∃ n b, b ≠ 0 ∧ ds = [eInt n, eInt b] ∧ d = eInt (yEx n b)) := by
 refine zAa Tryz.call102 Tryz.func102 rfl Tryz.ntmps102 ?_
 rintro ds d ⟨n, b, hb, rfl, rfl⟩
 refine ⟨by simp, fun w0 => ?_⟩
 repeat' (first | apply zC | apply zA | apply zB | refine zF qS qR ?_ ?_ | refine zI qR ?_ | exact zz0 | exact rfl | refine zAc.int ?_ | exact qP | fail)
theorem K44 : FnOK Tryz.prog 44 (fun ds d => ∃ n, ds = [eInt n] ∧ d = eInt (zNv n)) := by
 refine zAa Tryz.call44 Tryz.func44 rfl Tryz.ntmps44 ?_
 rintro ds d ⟨n, rfl, rfl⟩
 refine ⟨by simp, fun w0 => ?_⟩
 repeat' (first | apply zC | apply zG | apply zA | apply zB | refine zF qS qR ?_ ?_ | refine zM K102 qD ?_ ⟨_, _, by decide, rfl, rfl⟩ qS ?_ | (refine zE qS ?_ ?_ <;> intro hb <;> have hc := hb <;> (try simp only [bF] at hc) <;> (try (exfalso; simp at hc; done))) | refine zI qR ?_ | exact zz0 | exact rfl | refine zAc.int ?_ | fail)
 ·simp [zNv, hc, wr]
 ·rw [zNv, if_neg (by omega)]
theorem K82 : FnOK Tryz.prog 82 (fun ds d => ∃ n, ds = [eInt n] ∧ d = eInt (wr (100 * n))) := by
 refine zAa Tryz.call82 Tryz.func82 rfl Tryz.ntmps82 ?_
 rintro ds d ⟨n, rfl, rfl⟩
 refine ⟨by simp, fun w0 => ?_⟩
 repeat' (first | apply zC | apply zA | apply zB | refine zF qS qR ?_ ?_ | refine zI qR ?_ | exact zz0 | exact rfl | refine zAc.int ?_ | fail)
theorem K29 : FnOK Tryz.prog 29 (fun ds d => ∃ n, ds = [eInt n] ∧ d = eInt (wr (wr (wr (100 * n) + 100) - 1))) := by
 refine zAa Tryz.call29 Tryz.func29 rfl Tryz.ntmps29 ?_
 rintro ds d ⟨n, rfl, rfl⟩
 refine ⟨by simp, fun w0 => ?_⟩
 repeat' (first | apply zC | apply zA | apply zB | refine zF qS qR ?_ ?_ | refine zM K82 qD ?_ ⟨_, rfl, rfl⟩ qS ?_ | refine zI qR ?_ | exact zz0 | exact rfl | refine zAc.int ?_ | fail)
end Go.Sx
