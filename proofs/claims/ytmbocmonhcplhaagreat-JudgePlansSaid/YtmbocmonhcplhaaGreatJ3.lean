/- Lemmas on the judge: J0, J1, J2, J3. -/
import Derived.Test.YtmbocmonhcplhaaGreatS3
import Derived.Test.YtmbocmonhcplhaaGreatS4
import Derived.ChangeKeysEq
import Derived.Test.YtmbocmonhcplhaaGreatChecked
set_option linter.all false
set_option maxHeartbeats 2000000
set_option maxRecDepth 8000
namespace Go.Sx
open Go.Proofs Tryz Go.RowKit
attribute [go_sem] zQw zL5 zWd stepG zGf yF2 yEu yAf List.nil_append List.cons_append List.append_nil zU8 yFv yG7 zVk zEu zMe zPi zVa qv zRp ev lkp lkO cellsD Nat.blt Nat.ble St.free St.put yFi zX0 men zHc Nat.beq cond_true cond_false Bool.not_false Bool.not_true Bool.and_true zyg Bool.or_false Bool.false_and Bool.and_false upd Nat.reduceAdd unG ungd gC gCs atD ldc faD iaD bn2 aeD eqL bnD yGz yIt yJj yJk shD dvD pkD pC zL3 lnD lenD clD mnD flD ixD slD ptD ofV ofS List.drop_succ_cons List.drop_zero List.take_succ_cons List.take_zero List.length_cons List.length_nil Option.map_some Option.map_none Nat.reduceLeDiff Nat.reduceBEq reduceIte List.toList_toArray gB zCp List.map_cons List.map_nil zO4 unD ncD exD cvD ifD bdD bdF zIm zL2 bsD zUx zUn zN3 zBe zC6 zGh apD yGq zBm mkD setF elD asD frz zPu zZz zQj yGu zLf zHo zGr St.purge zXs Nat.reduceMul Nat.reduceSub zya leaf gV mkG Bool.and_self zAl zCr zKf zLb resD List.size_toArray zQd yJi zBx zVo zJd zZx zDe tmpsOf zLp zD4 yH0 zRj zQq List.getD_cons_zero List.getD_cons_succ zOz lkU zB8 Bool.or_true Bool.true_or
attribute [go_sem] adS nlD zSp nsD yAm yJa zMa zBn zGg zLm nodupB allB zQ1 yE0 zUv zEq zHu zLw tau sgm zI6 zCw zB9 pbN phN okb okh zFi zJ2 yEx zHn ren zGi zDs zCq zR1 zVq OB.isAcc yGo zJ5 zN8 zJ3 yJe isNil zAy mapD mlD zRg yBi yGr muD zC9 zJ0 decide_true decide_false apN apS yHr zE7 swp yEw yJc slA cpA slS cpS zQz zMc del bsN bsS yA5 apK zTf zQh yA1 zMq zLg yGt lvN lvE yGn hdS
@[go_sem] theorem beqSelf (n : Nat) : Nat.beq n n = true := Nat.beq_refl n
instance : LawfulBEq ByteArray where
 eq_of_beq {a b} h := by
  obtain ⟨x⟩ := a;obtain ⟨y⟩ := b;have h' : (x == y) = true := h;rw [eq_of_beq h']
 rfl {a} := by
  obtain ⟨x⟩ := a;show (x == x) = true;simp
theorem zFz (a b : ByteArray) : (a.toList = b.toList) = (a = b) := by
 apply propext;have := beq_toListBytes a b
 constructor
 ·intro h
  have h1 : (a.toList == b.toList) = true := by simp [h]
  rw [<- this] at h1;exact eq_of_beq h1
 ·rintro rfl; rfl
section
open Tryz bsD
abbrev yF (t n : Nat) (a : Bool) (k b : Nat) (R : Prop) : Prop := szT prog t = n /\ yJm prog t = some a /\ kdT prog t = k /\ byT prog t = b /\ zPt prog t = true /\ bdZ prog t = true /\ R
abbrev yG (t : Nat) (X : List SD) (R : Prop) : Prop := zcT prog t = some (.agg X) /\ bdT prog t = some X /\ R
abbrev yH (t i o n k : Nat) (R : Prop) : Prop := plT prog t i = some (o, n) /\ ftT prog t i = some k /\ R
abbrev yI (t i o n : Nat) (R : Prop) : Prop := plT prog t i = some (o, n) /\ R
@[go_sem] theorem fT3 : yF 3 1 false 6 8 (ikT prog 3 = some .i64 /\ zcT prog 3 = some (.int .i64 0)) := by and_intros <;> kernel_rfl
@[go_sem] theorem fT4 : yF 4 1 false 7 1 (zcT prog 4 = some (.bool false)) := by and_intros <;> kernel_rfl
@[go_sem] theorem fT5 : yF 5 1 false 6 1 (ikT prog 5 = some .u8 /\ zcT prog 5 = some (.int .u8 0)) := by and_intros <;> kernel_rfl
@[go_sem] theorem fT9 : yF 9 1 false 2 16 (zcT prog 9 = some (.str ByteArray.empty)) := by and_intros <;> kernel_rfl
@[go_sem] theorem fT21 : yF 21 1 false 6 4 (ikT prog 21 = some .i32 /\ zcT prog 21 = some (.int .i32 0)) := by and_intros <;> kernel_rfl
@[go_sem] theorem fT22 : yF 22 1 false 1 24 (elT prog 22 = some 3 /\ zcT prog 22 = some (.nils)) := by and_intros <;> kernel_rfl
@[go_sem] theorem fT23 : yF 23 3 true 4 24 (elT prog 23 = some 3 /\ lnT prog 23 = some 3 /\ yG 23 [.int .i64 0, .int .i64 0, .int .i64 0] (yI 23 0 0 1 (yI 23 1 1 1 (yI 23 2 2 1 (yI 23 3 3 1 (yI 23 4 4 1 (yI 23 5 5 1 (yI 23 6 6 1 (yI 23 7 7 1 (yI 23 8 8 1 (yI 23 9 9 1 (yI 23 10 10 1 (plT prog 23 11 = some (11, 1)))))))))))))) := by and_intros <;> kernel_rfl
@[go_sem] theorem fT25 : yF 25 7 true 5 120 (yG 25 [.nils, .nils, .nils, .nils, .int .i64 0, .int .i64 0, .int .i64 0] (yH 25 0 0 1 22 (yH 25 1 1 1 22 (yH 25 2 2 1 22 (yH 25 3 3 1 22 (yI 25 4 4 3 (ftT prog 25 4 = some 23))))))) := by and_intros <;> kernel_rfl
@[go_sem] theorem fT27 : yF 27 1 false 1 24 (elT prog 27 = some 63 /\ zcT prog 27 = some (.nils)) := by and_intros <;> kernel_rfl
@[go_sem] theorem fT28 : yF 28 1 false 1 24 (elT prog 28 = some 30 /\ zcT prog 28 = some (.nils)) := by and_intros <;> kernel_rfl
@[go_sem] theorem fT30 : yF 30 5 true 5 72 (yG 30 [.int .i64 0, .int .i64 0, .int .i64 0, .nils, .nils] (yH 30 0 0 1 3 (yH 30 1 1 1 3 (yH 30 2 2 1 3 (yH 30 3 3 1 27 (yI 30 4 4 1 (ftT prog 30 4 = some 28))))))) := by and_intros <;> kernel_rfl
@[go_sem] theorem fT31 : yF 31 1 false 1 24 (elT prog 31 = some 161 /\ zcT prog 31 = some (.nils)) := by and_intros <;> kernel_rfl
@[go_sem] theorem fT33 : yF 33 14 true 5 168 (yG 33 [.int .i64 0, .int .i64 0, .int .i64 0, .int .i64 0, .str ByteArray.empty, .int .i64 0, .int .i64 0, .int .i64 0, .nils, .nils, .int .i64 0, .int .i64 0, .int .i64 0, .nils] (yH 33 0 0 1 3 (yH 33 1 1 1 3 (yH 33 2 2 1 3 (yH 33 3 3 1 3 (yH 33 4 4 1 9 (yH 33 5 5 5 30 (yH 33 6 10 1 3 (yH 33 7 11 1 3 (yH 33 8 12 1 3 (yI 33 9 13 1 (ftT prog 33 9 = some 31)))))))))))) := by and_intros <;> kernel_rfl
@[go_sem] theorem fT35 : yF 35 3 true 5 24 (yG 35 [.int .i64 0, .int .i64 0, .int .i64 0] (yH 35 0 0 1 3 (yH 35 1 1 1 3 (yI 35 2 2 1 (ftT prog 35 2 = some 3))))) := by and_intros <;> kernel_rfl
@[go_sem] theorem fT36 : yF 36 1 false 1 24 (elT prog 36 = some 65 /\ zcT prog 36 = some (.nils)) := by and_intros <;> kernel_rfl
@[go_sem] theorem fT37 : yF 37 1 false 1 24 (elT prog 37 = some 76 /\ zcT prog 37 = some (.nils)) := by and_intros <;> kernel_rfl
@[go_sem] theorem fT38 : yF 38 1 false 1 24 (elT prog 38 = some 78 /\ zcT prog 38 = some (.nils)) := by and_intros <;> kernel_rfl
@[go_sem] theorem fT40 : yF 40 24 true 5 296 (yG 40 [.int .i64 0, .int .i64 0, .int .i64 0, .int .i64 0, .str ByteArray.empty, .int .i64 0, .int .i64 0, .int .i64 0, .nils, .nils, .int .i64 0, .int .i64 0, .int .i64 0, .nils, .int .i64 0, .int .i64 0, .int .i64 0, .nils, .int .i64 0, .int .i64 0, .nils, .nils, .int .i64 0, .int .i64 0] (yH 40 0 0 14 33 (yH 40 1 14 3 35 (yH 40 2 17 1 36 (yH 40 3 18 1 3 (yH 40 4 19 1 3 (yH 40 5 20 1 37 (yH 40 6 21 1 38 (yH 40 7 22 1 3 (yI 40 8 23 1 (ftT prog 40 8 = some 3))))))))))) := by and_intros <;> kernel_rfl
@[go_sem] theorem fT45 : yF 45 1 false 6 2 (ikT prog 45 = some .u16 /\ zcT prog 45 = some (.int .u16 0)) := by and_intros <;> kernel_rfl
@[go_sem] theorem fT47 : yF 47 9 true 5 104 (yG 47 [.nils, .nils, .int .i64 0, .int .i64 0, .int .i64 0, .int .i64 0, .int .i64 0, .int .i64 0, .int .u16 0] (yH 47 0 0 1 22 (yH 47 1 1 1 22 (yH 47 2 2 3 23 (yH 47 3 5 3 23 (yI 47 4 8 1 (ftT prog 47 4 = some 45))))))) := by and_intros <;> kernel_rfl
@[go_sem] theorem fT48 : yF 48 42 true 4 504 (elT prog 48 = some 33 /\ lnT prog 48 = some 3 /\ yG 48 [.int .i64 0, .int .i64 0, .int .i64 0, .int .i64 0, .str ByteArray.empty, .int .i64 0, .int .i64 0, .int .i64 0, .nils, .nils, .int .i64 0, .int .i64 0, .int .i64 0, .nils, .int .i64 0, .int .i64 0, .int .i64 0, .int .i64 0, .str ByteArray.empty, .int .i64 0, .int .i64 0, .int .i64 0, .nils, .nils, .int .i64 0, .int .i64 0, .int .i64 0, .nils, .int .i64 0, .int .i64 0, .int .i64 0, .int .i64 0, .str ByteArray.empty, .int .i64 0, .int .i64 0, .int .i64 0, .nils, .nils, .int .i64 0, .int .i64 0, .int .i64 0, .nils] (yI 48 0 0 14 (yI 48 1 14 14 (yI 48 2 28 14 (yI 48 3 42 14 (yI 48 4 56 14 (yI 48 5 70 14 (yI 48 6 84 14 (yI 48 7 98 14 (yI 48 8 112 14 (yI 48 9 126 14 (yI 48 10 140 14 (plT prog 48 11 = some (154, 14)))))))))))))) := by and_intros <;> kernel_rfl
@[go_sem] theorem fT49 : yF 49 2 true 4 48 (elT prog 49 = some 36 /\ lnT prog 49 = some 2 /\ yG 49 [.nils, .nils] (yI 49 0 0 1 (yI 49 1 1 1 (yI 49 2 2 1 (yI 49 3 3 1 (yI 49 4 4 1 (yI 49 5 5 1 (yI 49 6 6 1 (yI 49 7 7 1 (yI 49 8 8 1 (yI 49 9 9 1 (yI 49 10 10 1 (plT prog 49 11 = some (11, 1)))))))))))))) := by and_intros <;> kernel_rfl
@[go_sem] theorem fT53 : yF 53 1 false 1 24 (elT prog 53 = some 35 /\ zcT prog 53 = some (.nils)) := by and_intros <;> kernel_rfl
@[go_sem] theorem fT59 : yF 59 1 false 6 8 (ikT prog 59 = some .i64 /\ zcT prog 59 = some (.int .i64 0)) := by and_intros <;> kernel_rfl
@[go_sem] theorem fT63 : yF 63 2 true 5 24 (yG 63 [.int .i64 0, .str ByteArray.empty] (yH 63 0 0 1 3 (yI 63 1 1 1 (ftT prog 63 1 = some 9)))) := by and_intros <;> kernel_rfl
@[go_sem] theorem fT65 : yF 65 8 true 5 104 (yG 65 [.int .i64 0, .str ByteArray.empty, .int .i64 0, .int .i64 0, .int .i64 0, .nils, .int .i64 0, .nils] (yH 65 0 0 2 63 (yH 65 1 2 1 3 (yH 65 2 3 1 3 (yH 65 3 4 1 3 (yH 65 4 5 1 22 (yH 65 5 6 1 3 (yI 65 6 7 1 (ftT prog 65 6 = some 22))))))))) := by and_intros <;> kernel_rfl
@[go_sem] theorem fT74 : yF 74 1 false 1 24 (elT prog 74 = some 9 /\ zcT prog 74 = some (.nils)) := by and_intros <;> kernel_rfl
@[go_sem] theorem fT76 : yF 76 5 true 5 80 (yG 76 [.str ByteArray.empty, .int .i64 0, .int .i64 0, .nils, .nils] (yH 76 0 0 1 9 (yH 76 1 1 1 3 (yH 76 2 2 1 3 (yH 76 3 3 1 22 (yI 76 4 4 1 (ftT prog 76 4 = some 74))))))) := by and_intros <;> kernel_rfl
@[go_sem] theorem fT78 : yF 78 2 true 5 24 (yG 78 [.int .i64 0, .str ByteArray.empty] (yH 78 0 0 1 3 (yI 78 1 1 1 (ftT prog 78 1 = some 9)))) := by and_intros <;> kernel_rfl
@[go_sem] theorem fT93 : yF 93 2 true 4 16 (elT prog 93 = some 3 /\ lnT prog 93 = some 2 /\ yG 93 [.int .i64 0, .int .i64 0] (yI 93 0 0 1 (yI 93 1 1 1 (yI 93 2 2 1 (yI 93 3 3 1 (yI 93 4 4 1 (yI 93 5 5 1 (yI 93 6 6 1 (yI 93 7 7 1 (yI 93 8 8 1 (yI 93 9 9 1 (yI 93 10 10 1 (plT prog 93 11 = some (11, 1)))))))))))))) := by and_intros <;> kernel_rfl
@[go_sem] theorem fT97 : yF 97 1 false 9 8 (zcT prog 97 = some (.nilfn)) := by and_intros <;> kernel_rfl
@[go_sem] theorem fT99 : yF 99 1 false 8 16 (zcT prog 99 = some (.nilif)) := by and_intros <;> kernel_rfl
@[go_sem] theorem fT103 : yF 103 1 false 3 8 (zcT prog 103 = some (.nilmap)) := by and_intros <;> kernel_rfl
@[go_sem] theorem fT106 : yF 106 1 false 1 24 (elT prog 106 = some 4 /\ zcT prog 106 = some (.nils)) := by and_intros <;> kernel_rfl
@[go_sem] theorem fT134 : yF 134 1 false 9 8 (zcT prog 134 = some (.nilfn)) := by and_intros <;> kernel_rfl
@[go_sem] theorem fT140 : yF 140 1 false 1 24 (elT prog 140 = some 5 /\ zcT prog 140 = some (.nils)) := by and_intros <;> kernel_rfl
@[go_sem] theorem fT141 : yF 141 1 false 9 8 (zcT prog 141 = some (.nilp)) := by and_intros <;> kernel_rfl
@[go_sem] theorem fT143 : yF 143 2 true 5 32 (yG 143 [.nils, .int .i64 0] (yH 143 0 0 1 22 (yI 143 1 1 1 (ftT prog 143 1 = some 3)))) := by and_intros <;> kernel_rfl
@[go_sem] theorem fT147 : yF 147 1 false 9 8 (zcT prog 147 = some (.nilfn)) := by and_intros <;> kernel_rfl
@[go_sem] theorem fT148 : yF 148 1 false 3 8 (zcT prog 148 = some (.nilmap)) := by and_intros <;> kernel_rfl
@[go_sem] theorem fT149 : yF 149 1 false 3 8 (zcT prog 149 = some (.nilmap)) := by and_intros <;> kernel_rfl
@[go_sem] theorem fT151 : yF 151 1 false 9 8 (zcT prog 151 = some (.nilfn)) := by and_intros <;> kernel_rfl
@[go_sem] theorem fT157 : yF 157 1 false 9 8 (zcT prog 157 = some (.nilp)) := by and_intros <;> kernel_rfl
@[go_sem] theorem fT158 : yF 158 2 true 5 32 (yG 158 [.nils, .int .i64 0] (yH 158 0 0 1 22 (yI 158 1 1 1 (ftT prog 158 1 = some 3)))) := by and_intros <;> kernel_rfl
@[go_sem] theorem fT161 : yF 161 4 true 4 48 (elT prog 161 = some 63 /\ lnT prog 161 = some 2 /\ yG 161 [.int .i64 0, .str ByteArray.empty, .int .i64 0, .str ByteArray.empty] (yI 161 0 0 2 (yI 161 1 2 2 (yI 161 2 4 2 (yI 161 3 6 2 (yI 161 4 8 2 (yI 161 5 10 2 (yI 161 6 12 2 (yI 161 7 14 2 (yI 161 8 16 2 (yI 161 9 18 2 (yI 161 10 20 2 (plT prog 161 11 = some (22, 2)))))))))))))) := by and_intros <;> kernel_rfl
@[go_sem] theorem fT165 : yF 165 1 false 9 8 (zcT prog 165 = some (.nilfn)) := by and_intros <;> kernel_rfl
@[go_sem] theorem fT166 : yF 166 1 false 9 8 (zcT prog 166 = some (.nilfn)) := by and_intros <;> kernel_rfl
@[go_sem] theorem fT173 : yF 173 1 false 1 24 (elT prog 173 = some 99 /\ zcT prog 173 = some (.nils)) := by and_intros <;> kernel_rfl
@[go_sem] theorem fT175 : yF 175 1 true 5 24 (yG 175 [.nils] (yI 175 0 0 1 (ftT prog 175 0 = some 22))) := by and_intros <;> kernel_rfl
@[go_sem] theorem fT177 : yF 177 3 true 5 56 (yG 177 [.nils, .nils, .int .i64 0] (yH 177 0 0 1 22 (yH 177 1 1 1 22 (yI 177 2 2 1 (ftT prog 177 2 = some 3))))) := by and_intros <;> kernel_rfl
@[go_sem] theorem fT179 : yF 179 2 true 5 32 (yG 179 [.nils, .int .i64 0] (yH 179 0 0 1 173 (yI 179 1 1 1 (ftT prog 179 1 = some 3)))) := by and_intros <;> kernel_rfl
@[go_sem] theorem fT182 : yF 182 1 false 1 24 (elT prog 182 = some 106 /\ zcT prog 182 = some (.nils)) := by and_intros <;> kernel_rfl
@[go_sem] theorem fT208 : yF 208 1 false 3 8 (zcT prog 208 = some (.nilmap)) := by and_intros <;> kernel_rfl
@[go_sem] theorem fT211 : yF 211 1 true 5 8 (yG 211 [.nilfn] (yI 211 0 0 1 (ftT prog 211 0 = some 165))) := by and_intros <;> kernel_rfl
@[go_sem] theorem fT217 : yF 217 1 false 1 24 (elT prog 217 = some 221 /\ zcT prog 217 = some (.nils)) := by and_intros <;> kernel_rfl
@[go_sem] theorem fT221 : yF 221 6 true 5 80 (yG 221 [.int .i64 0, .int .i64 0, .int .i64 0, .nils, .nils, .int .i64 0] (yH 221 0 0 5 30 (yI 221 1 5 1 (ftT prog 221 1 = some 3)))) := by and_intros <;> kernel_rfl
@[go_sem] theorem fT222 : yF 222 1 false 9 8 (zcT prog 222 = some (.nilfn)) := by and_intros <;> kernel_rfl
@[go_sem] theorem fT253 : yF 253 1 false 9 8 (zcT prog 253 = some (.nilfn)) := by and_intros <;> kernel_rfl
@[go_sem] theorem fT273 : yF 273 1 false 9 8 (zcT prog 273 = some (.nilfn)) := by and_intros <;> kernel_rfl
@[go_sem] theorem fT316 : yF 316 1 false 9 8 (zcT prog 316 = some (.nilfn)) := by and_intros <;> kernel_rfl
@[go_sem] theorem fT317 : yF 317 1 false 1 24 (elT prog 317 = some 103 /\ zcT prog 317 = some (.nils)) := by and_intros <;> kernel_rfl
end
theorem eq63 (n : Nat) (a c : Int) (b d : ByteArray) (w : World) : (Op.equalIn (n + 2) 63 (.agg #[.int .i64 a, .string b]) (.agg #[.int .i64 c, .string d])).run prog w = .ok (a == c && b == d) w := by
 simp [go_sem, zFz];by_cases h1 : a = c <;> by_cases h2 : b = d <;> simp [h1, h2]
theorem yIy (a c : Int) (b d : ByteArray) (t : Bool) (ht : t = ((a == c) && (b == d))) : zQg prog 63 [.int .i64 a, .str b] [.int .i64 c, .str d] t := by
 refine ⟨by kernel_rfl, fun h e xs ys h1 h2 w => ?_⟩;simp only [repC, rep] at h1 h2;obtain ⟨_, _, rfl, _, rfl, _, _, rfl, _, rfl, rfl⟩ := h1;obtain ⟨_, _, rfl, _, rfl, _, _, rfl, _, rfl, rfl⟩ := h2;subst ht;exact eq63 9998 a c b d w
theorem yIx (a c : Int) (b d : ByteArray) (t : Bool) (ht : t = ((a == c) && (b == d))) : zQg prog 78 [.int .i64 a, .str b] [.int .i64 c, .str d] t := by
 refine ⟨by kernel_rfl, fun h e xs ys h1 h2 w => ?_⟩;simp only [repC, rep] at h1 h2;obtain ⟨_, _, rfl, _, rfl, _, _, rfl, _, rfl, rfl⟩ := h1;obtain ⟨_, _, rfl, _, rfl, _, _, rfl, _, rfl, rfl⟩ := h2;subst ht;show (Op.equalIn 10000 78 _ _).run prog w = _;simp [go_sem, zFz];by_cases h1 : a = c <;> by_cases h2 : b = d <;> simp [h1, h2]
theorem yGj (a c a' c' : Int) (b d b' d' : ByteArray) (t : Bool) (ht : t = ((a == c) && ((b == d) && ((a' == c') && (b' == d'))))) : zQg prog 161 [.int .i64 a, .str b, .int .i64 a', .str b'] [.int .i64 c, .str d, .int .i64 c', .str d'] t := by
 refine ⟨by kernel_rfl, fun h e xs ys h1 h2 w => ?_⟩;simp only [repC, rep] at h1 h2;obtain ⟨_, _, rfl, _, rfl, _, _, rfl, _, rfl, _, _, rfl, _, rfl, _, _, rfl, _, rfl, rfl⟩ := h1;obtain ⟨_, _, rfl, _, rfl, _, _, rfl, _, rfl, _, _, rfl, _, rfl, _, _, rfl, _, rfl, rfl⟩ := h2;subst ht;show (Op.equalIn (9999 + 1) 161 _ _).run prog w = _;obtain ⟨i, hi, _⟩ := zAo (show szT prog 63 = 1 + 1 by kernel_rfl);have hc : prog.cellsOf 63 = 2 := by kernel_rfl
 have e1 : ∀ a b c d, (part 63 #[a,b,c,d] 0).run prog w = .ok (.agg #[a, b]) w := fun a b c d => by simp [go_sem]
 have e2 : ∀ a b c d, (part 63 #[a,b,c,d] 2).run prog w = .ok (.agg #[c, d]) w := fun a b c d => by simp [go_sem]
 rw [run_equalIn_array w 9999 (t := 161) (e := 63) (n := 2) _ _ (by kernel_rfl) hi, hc];simp [Op.eqItems, List.range_succ, e1, e2, eq63 9997];by_cases h1 : a = c <;> by_cases h2 : b = d <;> by_cases h3 : a' = c' <;> by_cases h4 : b' = d' <;> simp [h1, h2, h3, h4]
@[go_sem] theorem ageq63_iff (a c : Int) (b d : ByteArray) : zQg prog 63 [.int .i64 a, .str b] [.int .i64 c, .str d] ((a == c) && (b == d)) = True := eq_true (yIy a c b d _ rfl)
@[go_sem] theorem ageq78_iff (a c : Int) (b d : ByteArray) : zQg prog 78 [.int .i64 a, .str b] [.int .i64 c, .str d] ((a == c) && (b == d)) = True := eq_true (yIx a c b d _ rfl)
@[go_sem] theorem ageq161_iff (a c a' c' : Int) (b d b' d' : ByteArray) : zQg prog 161 [.int .i64 a, .str b, .int .i64 a', .str b'] [.int .i64 c, .str d, .int .i64 c', .str d'] ((a == c) && ((b == d) && ((a' == c') && (b' == d')))) = True := eq_true (yGj a c a' c' b d b' d' _ rfl)
instance : Inhabited ByteArray := ⟨ByteArray.empty⟩
structure Course where (School : Int) (Code : ByteArray)
 deriving Inhabited, DecidableEq
structure Ach where (Course : Course) (Credits Grade Day : Int) (Sources : List Int) (Bundle : Int) (Path : List Int)
 deriving Inhabited
structure Offer where (Code : ByteArray) (Credits Places : Int) (Slots : List Int) (Needs : List ByteArray)
 deriving Inhabited
structure Item where (Term : Int) (Code : ByteArray)
 deriving Inhabited, DecidableEq
inductive Need where
 | mk (Kind N Min : Int) (Set : List Course) (L : List Need)
instance : Inhabited Need := ⟨.mk 0 0 0 [] []⟩
structure Scale where (Worst Best Pass : Int)
 deriving Inhabited, DecidableEq
structure Programme where (School Id Version From : Int) (Name : ByteArray) (Need : Need) (Total Own Age : Int) (Exclude : List (Course × Course))
 deriving Inhabited
structure Case where (Programme : Programme) (Scale : Scale) (Has : List Ach) (First Terms : Int) (Offers : List Offer) (Items : List Item) (Most Day : Int)
 deriving Inhabited
@[go_sem] def zAj {α : Type} [Inhabited α] (es : Nat) (f : α -> SD) (l : List α) : SD := .list es l.length fun i => f (l.getD i default)
@[go_sem] def eInt (x : Int) : SD := .int .i64 x
@[go_sem] def eStr (x : ByteArray) : SD := .str x
@[go_sem] def ints (l : List Int) : SD := zAj 1 eInt l
@[go_sem] def lngs (l : List Int) : SD := .lng l.length (fun i => l.getD i default)
@[go_sem] def strs (l : List ByteArray) : SD := zAj 1 eStr l
@[go_sem] def zAv (a : Course) : SD := .agg [.int .i64 a.School, .str a.Code]
@[go_sem] def zCk (a : Ach) : SD := .agg [.int .i64 a.Course.School, .str a.Course.Code, .int .i64 a.Credits, .int .i64 a.Grade, .int .i64 a.Day, ints a.Sources, .int .i64 a.Bundle, ints a.Path]
@[go_sem] def zAt (a : Offer) : SD := .agg [.str a.Code, .int .i64 a.Credits, .int .i64 a.Places, ints a.Slots, strs a.Needs]
@[go_sem] def zCv (a : Item) : SD := .agg [.int .i64 a.Term, .str a.Code]
@[go_sem] def zDz (a : Scale) : SD := .agg [.int .i64 a.Worst, .int .i64 a.Best, .int .i64 a.Pass]
@[go_sem] def zOi (a : Course × Course) : SD := .agg [.int .i64 a.1.School, .str a.1.Code, .int .i64 a.2.School, .str a.2.Code]
def Need.Kind : Need -> Int | .mk k _ _ _ _ => k
def Need.N : Need -> Int | .mk _ n _ _ _ => n
def Need.Min : Need -> Int | .mk _ _ m _ _ => m
def Need.Set : Need -> List Course | .mk _ _ _ s _ => s
def Need.L : Need -> List Need | .mk _ _ _ _ l => l
mutual
def zS2 : Need -> List SD
 | .mk k n m s l => [.int .i64 k, .int .i64 n, .int .i64 m, zAj 2 zAv s, .list 5 l.length fun i => zBe (zDh l) i]
def zDh : List Need -> List SD
 | [] => []
 | x :: r => .agg (zS2 x) :: zDh r
end
@[go_sem] theorem zEp (n : Need) : zS2 n = [.int .i64 n.Kind, .int .i64 n.N, .int .i64 n.Min, zAj 2 zAv n.Set, .list 5 n.L.length fun i => zBe (zDh n.L) i] := by
 cases n; rw [zS2]; rfl
@[go_sem] def zFt (n : Need) : SD := .agg (zS2 n)
theorem zDl : ∀ (l : List Need) (i : Nat), i < l.length -> zBe (zDh l) i = zFt (l.getD i default)
 | [], i, h => absurd h (zyi i)
 | x :: r, 0, _ => by rw [zDh]; rfl
 | x :: r, i + 1, h => by
  rw [zDh];simp only [zBe, List.getD_cons_succ];exact zDl r i (by simpa using h)
@[go_sem] def zJu (p : Programme) : List SD := [.int .i64 p.School, .int .i64 p.Id, .int .i64 p.Version, .int .i64 p.From, .str p.Name, .int .i64 p.Need.Kind, .int .i64 p.Need.N, .int .i64 p.Need.Min, zAj 2 zAv p.Need.Set,
 .list 5 p.Need.L.length (fun i => zBe (zDh p.Need.L) i), .int .i64 p.Total, .int .i64 p.Own, .int .i64 p.Age, zAj 4 zOi p.Exclude]
@[go_sem] def zGx (p : Programme) : SD := .agg (zJu p)
@[go_sem] def zJ6 (c : Case) : SD := .agg (zJu c.Programme ++ [.int .i64 c.Scale.Worst, .int .i64 c.Scale.Best, .int .i64 c.Scale.Pass, zAj 8 zCk c.Has, .int .i64 c.First, .int .i64 c.Terms, zAj 5 zAt c.Offers, zAj 2 zCv c.Items, .int .i64 c.Most, .int .i64 c.Day])
end Go.Sx
namespace Go.Sx
open Go.Proofs Tryz Go.RowKit
attribute [local irreducible] Run zAg zAs zAc SLe OLe
abbrev wr (x : Int) : Int := IntKind.i64.wrap x
def yIg (n by' : Int) : Int := wr ((wr (n - (wr (n.tmod by' + by')).tmod by')).tdiv by')
def yGv (n by' : Int) : Int := if n.tmod by' < 0 then wr (wr (n.tdiv by') - 1) else wr (n.tdiv by')
def zK3 (x : Int) : Int := if x < -4611686018427387904 then wr (yIg (wr (x + 100)) 100 - 1) else yIg x 100
theorem K102 : FnOK prog 102 (fun ds d => ∃ n b, b ≠ 0 /\ ds = [eInt n, eInt b] /\ d = eInt (yIg n b)) := by
 refine zAb call102 func102 rfl ntmps102 ?_;rintro ds d ⟨n, b, hb, rfl, rfl⟩;refine ⟨by simp, fun w0 => ?_⟩
 repeat' (first | refine wA ?_ | refine zC qS qR ?_ ?_ | refine zE qR ?_ | exact qT | refine zAc.int ?_ | exact qP | fail)
theorem K44 : FnOK prog 44 (fun ds d => ∃ n, ds = [eInt n] /\ d = eInt (zK3 n)) := by
 refine zAb call44 func44 rfl ntmps44 ?_;rintro ds d ⟨n, rfl, rfl⟩;refine ⟨by simp, fun w0 => ?_⟩
 repeat' (first | refine wA ?_ | refine zG K102 qD ?_ ⟨_, _, by decide, rfl, rfl⟩ qS ?_ | (refine zAa qS qC qC ?_ ?_ <;> intro hb hc <;> try (simp at hc; done)) | refine zE qR ?_ | exact qT | refine zAc.int ?_ | fail)
 ·simp [zK3, hc, wr]
 ·rw [zK3, if_neg (by omega)]
theorem K82 : FnOK prog 82 (fun ds d => ∃ n, ds = [eInt n] /\ d = eInt (wr (100 * n))) := by
 refine zAb call82 func82 rfl ntmps82 ?_;rintro ds d ⟨n, rfl, rfl⟩;refine ⟨by simp, fun w0 => ?_⟩
 repeat' (first | refine wA ?_ | refine zE qR ?_ | exact qT | refine zAc.int ?_ | fail)
theorem K29 : FnOK prog 29 (fun ds d => ∃ n, ds = [eInt n] /\ d = eInt (wr (wr (wr (100 * n) + 100) - 1))) := by
 refine zAb call29 func29 rfl ntmps29 ?_;rintro ds d ⟨n, rfl, rfl⟩;refine ⟨by simp, fun w0 => ?_⟩
 repeat' (first | refine wA ?_ | refine zG K82 qD ?_ ⟨_, rfl, rfl⟩ qS ?_ | refine zE qR ?_ | exact qT | refine zAc.int ?_ | fail)
def zEf {α : Type} (p : α -> Bool) : List α -> Nat -> Int
 | [], _ => -1
 | x :: r, k => if p x then k else zEf p r (k + 1)
theorem zAx {α : Type} [Inhabited α] (p : α -> Bool) (l : List α) (k : Nat) (h : k < l.length) : zEf p (l.drop k) k = if p (l.getD k default) then (k : Int) else zEf p (l.drop (k + 1)) (k + 1) := by
 rw [zAr l k h]; rfl
theorem zDp {α : Type} (p : α -> Bool) (l : List α) (k : Nat) (h : l.length <= k) : zEf p (l.drop k) k = -1 := by
 rw [List.drop_of_length_le h]; rfl
theorem zDq {α : Type} (p : α -> Bool) : ∀ (l : List α) (k : Nat), decide (0 <= zEf p l k) = l.any p
 | [], k => by simp [zEf]
 | x :: r, k => by
  simp only [zEf, List.any_cons];by_cases hp : p x = true
  ·simp [hp]
  ·simp only [hp, if_false, Bool.false_or, Bool.false_eq_true]; exact zDq p r (k + 1)
def zD2 (a b : Course) : Bool := (a.School == b.School) && (a.Code == b.Code)
def zF1 (a b : Course × Course) : Bool := (a.1.School == b.1.School) && ((a.1.Code == b.1.Code) && ((a.2.School == b.2.School) && (a.2.Code == b.2.Code)))
theorem zPa (a b : Course) : zD2 a b = decide (a = b) := by
 obtain ⟨a, b⟩ := a;rename_i c;obtain ⟨c, d⟩ := c;simp only [zD2, Course.mk.injEq, Bool.decide_and];by_cases h : b = d <;> by_cases g : a = c <;> simp [h, g]
theorem K157 : FnOK prog 157 (fun ds d => ∃ a x, ds = [ints a, eInt x] /\ d = eInt (zEf (fun y => x == y) a 0)) := by
 refine zAb call157 func157 rfl ntmps157 ?_;rintro ds d ⟨a, x, rfl, rfl⟩;refine ⟨by simp, fun w0 => ?_⟩
 repeat' (first | refine wA ?_ | exact qT | fail)
 refine zBf 6 rfl fun hlen => ?_;refine zH [0, 1, 6, 7] (fun k : Nat => [(8, .int .i64 k)]) (fun k => []) (fun k => k <= a.length /\ zEf (fun y => x == y) a 0 = zEf (fun y => x == y) (a.drop k) k) (fun k => a.length - k) 0 (fun x => qS) ?_ qL qL ?_
 ·exact ⟨zz7 _, rfl⟩
 rintro k ⟨h1, h2⟩
 repeat' (first | refine wA ?_ | refine zC qS qR ?_ ?_ | (refine zAa qS qC qC ?_ ?_ <;> intro hb hc <;> try (simp at hc; done)) | refine zE qR ?_ | refine zF qR ?_ | refine zL (k+1) ?_ ?_ ⟨rfl, qL, qL⟩ | exact qT | omega | refine zAc.int ?_ | exact qP | fail)
 ·rw [h2, zAx _ _ _ ‹k < _›, if_pos (by exact hb)]
 ·exact ⟨by omega, by rw [h2, zAx _ _ _ ‹k < _›, if_neg (by rw [Bool.not_eq_true]; exact hb)]⟩
 ·rw [h2, zDp _ _ _ (by omega)]
theorem yKy : FnOK prog 115 (fun ds d => ∃ a x, ds = [ints a, eInt x] /\ d = .bool (a.any fun y => x == y)) := by
 refine zAb call115 func115 rfl ntmps115 ?_;rintro ds d ⟨a, x, rfl, rfl⟩;refine ⟨by simp, fun w0 => ?_⟩
 repeat' (first | refine wA ?_ | refine zG K157 qD ?_ ⟨_, _, rfl, rfl⟩ qS ?_ | refine zE qR ?_ | exact qT | refine zAc.bool ?_ | fail)
 exact zDq _ _ _
theorem K149 : FnOK prog 149 (fun ds d => ∃ a x, ds = [zAj 2 zAv a, zAv x] /\ d = eInt (zEf (fun y => zD2 x y) a 0)) := by
 refine zAb call149 func149 rfl ntmps149 ?_;rintro ds d ⟨a, x, rfl, rfl⟩;refine ⟨by simp, fun w0 => ?_⟩
 repeat' (first | refine wA ?_ | exact qT | fail)
 refine zBf 6 rfl fun hlen => ?_;refine zH [0, 3, 6, 7] (fun k : Nat => [(8, .int .i64 k)]) (fun k => []) (fun k => k <= a.length /\ zEf (fun y => zD2 x y) a 0 = zEf (fun y => zD2 x y) (a.drop k) k) (fun k => a.length - k) 0 (fun x => qS) ?_ qL qL ?_
 ·exact ⟨zz7 _, rfl⟩
 rintro k ⟨h1, h2⟩
 repeat' (first | refine wA ?_ | refine zC qS qR ?_ ?_ | refine zM qS qR ?_ ?_ | refine zJ qK qK ?_ | (refine zAa qS qC qC ?_ ?_ <;> intro hb hc <;> try (simp at hc; done)) | refine zE qR ?_ | refine zF qR ?_ | refine zL (k+1) ?_ ?_ ⟨rfl, qL, qL⟩ | exact qT | omega | refine zAc.int ?_ | exact qP | fail)
 ·rw [h2, zAx _ _ _ ‹k < _›, if_pos (by exact hb)]
 ·exact ⟨by omega, by rw [h2, zAx _ _ _ ‹k < _›, if_neg (by rw [Bool.not_eq_true]; exact hb)]⟩
 ·rw [h2, zDp _ _ _ (by omega)]
theorem yI8 : FnOK prog 103 (fun ds d => ∃ a x, ds = [zAj 2 zAv a, zAv x] /\ d = .bool (a.any fun y => zD2 x y)) := by
 refine zAb call103 func103 rfl ntmps103 ?_;rintro ds d ⟨a, x, rfl, rfl⟩;refine ⟨by simp, fun w0 => ?_⟩
 repeat' (first | refine wA ?_ | refine zG K149 qD ?_ ⟨_, _, rfl, rfl⟩ qS ?_ | refine zE qR ?_ | exact qT | refine zAc.bool ?_ | fail)
 exact zDq _ _ _
theorem K148 : FnOK prog 148 (fun ds d => ∃ a x, ds = [zAj 4 zOi a, zOi x] /\ d = eInt (zEf (fun y => zF1 x y) a 0)) := by
 refine zAb call148 func148 rfl ntmps148 ?_;rintro ds d ⟨a, x, rfl, rfl⟩;refine ⟨by simp, fun w0 => ?_⟩
 repeat' (first | refine wA ?_ | exact qT | fail)
 refine zBf 6 rfl fun hlen => ?_;refine zH [0, 3, 6, 7] (fun k : Nat => [(8, .int .i64 k)]) (fun k => []) (fun k => k <= a.length /\ zEf (fun y => zF1 x y) a 0 = zEf (fun y => zF1 x y) (a.drop k) k) (fun k => a.length - k) 0 (fun x => qS) ?_ qL qL ?_
 ·exact ⟨zz7 _, rfl⟩
 rintro k ⟨h1, h2⟩
 repeat' (first | refine wA ?_ | refine zC qS qR ?_ ?_ | refine zM qS qR ?_ ?_ | refine zJ qK qK ?_ | (refine zAa qS qC qC ?_ ?_ <;> intro hb hc <;> try (simp at hc; done)) | refine zE qR ?_ | refine zF qR ?_ | refine zL (k+1) ?_ ?_ ⟨rfl, qL, qL⟩ | exact qT | omega | refine zAc.int ?_ | exact qP | fail)
 ·rw [h2, zAx _ _ _ ‹k < _›, if_pos (by exact hb)]
 ·exact ⟨by omega, by rw [h2, zAx _ _ _ ‹k < _›, if_neg (by rw [Bool.not_eq_true]; exact hb)]⟩
 ·rw [h2, zDp _ _ _ (by omega)]
theorem K99 : FnOK prog 99 (fun ds d => ∃ a x, ds = [zAj 4 zOi a, zOi x] /\ d = .bool (a.any fun y => zF1 x y)) := by
 refine zAb call99 func99 rfl ntmps99 ?_;rintro ds d ⟨a, x, rfl, rfl⟩;refine ⟨by simp, fun w0 => ?_⟩
 repeat' (first | refine wA ?_ | refine zG K148 qD ?_ ⟨_, _, rfl, rfl⟩ qS ?_ | refine zE qR ?_ | exact qT | refine zAc.bool ?_ | fail)
 exact zDq _ _ _
theorem yBq {α : Type} [Inhabited α] (a b : List α) (h : a.length = b.length) (g : ∀ i, i < a.length -> a.getD i default = b.getD i default) : a = b := by
 apply List.ext_getElem h;intro i h1 h2;have := g i h1;simpa [zz2, h1, h2] using this
theorem K114 : FnOK prog 114 (fun ds d => ∃ a b, ds = [ints a, ints b] /\ d = .bool (a == b)) := by
 refine zAb call114 func114 rfl ntmps114 ?_;rintro ds d ⟨a, b, rfl, rfl⟩;refine ⟨by simp, fun w0 => ?_⟩
 repeat' (first | refine wA ?_ | (refine zAa qS qC qC ?_ ?_ <;> intro hb hc <;> try (simp at hc; done)) | refine zE qR ?_ | exact qT | refine zAc.bool ?_ | fail)
 ·have : ¬ a = b := by rintro rfl; exact hc rfl
  simp [this]
 ·refine zBf 0 rfl fun hlen => ?_
  refine zH [0, 1, 11, 12] (fun k : Nat => [(13, .int .i64 k)]) (fun k => []) (fun k => k <= a.length /\ ∀ i, i < k -> a.getD i default = b.getD i default) (fun k => a.length - k) 0 (fun x => qS) ?_ qL qL ?_
  ·exact ⟨zz7 _, fun i h => absurd h (zyi i)⟩
  rintro k ⟨h1, h2⟩
  repeat' (first | refine wA ?_ | refine zC qS qR ?_ ?_ | refine zM qS qR ?_ ?_ | refine zJ qK qK ?_ | (refine zAa qS qC qC ?_ ?_ <;> intro hb hc <;> try (simp at hc; done)) | refine zE qR ?_ | refine zF qR ?_ | refine zL (k+1) ?_ ?_ ⟨rfl, qL, qL⟩ | exact qT | omega | refine zAc.bool ?_ | exact qP | fail)
  ·have : ¬ a = b := by rintro rfl; exact hc rfl
   simp [this]
  ·refine ⟨by omega, fun i hi => ?_⟩
   rcases Nat.lt_succ_iff_lt_or_eq.1 hi with h | rfl
   ·exact h2 i h
   ·exact hc
  ·have := yBq a b (by omega) fun i hi => h2 i (by omega)
   simp [this]
def shared (a b : Ach) : Bool := if a.Bundle > 0 /\ a.Bundle = b.Bundle /\ a.Path = b.Path then false else a.Sources.any fun n => b.Sources.any fun y => n == y
theorem K53 : FnOK prog 53 (fun ds d => ∃ a b, ds = [zCk a, zCk b] /\ d = .bool (shared a b)) := by
 refine zAb call53 func53 rfl ntmps53 ?_;rintro ds d ⟨a, b, rfl, rfl⟩;refine ⟨by simp, fun w0 => ?_⟩
 repeat' (first | refine wA ?_ | refine zC qS qR ?_ ?_ | refine zN 17 qR qS K114 qD (fun hg => ?_) (fun _ => ⟨_, _, rfl, rfl⟩) qS ?_ | (refine zAa qS qC qC ?_ ?_ <;> intro hb hc <;> try (simp at hc; done)) | refine zE qR ?_ | exact qT | refine zAc.bool ?_ | exact qP | fail)
 ·simp [shared, hc.1.1, <- hc.1.2, hc.2]
 ·refine zBf 25 rfl fun hlen => ?_
  have e0 : shared a b = a.Sources.any fun n => b.Sources.any fun y => n == y := by
   simp only [shared]; rw [if_neg]; rintro ⟨h1, h2, h3⟩; simp [h1, <- h2, h3] at hc
  refine zH [2, 3, 4, 25, 26] (fun k : Nat => [(27, .int .i64 k)]) (fun k => []) (fun k => k <= a.Sources.length /\ shared a b = (a.Sources.drop k).any (fun n => b.Sources.any fun y => n == y)) (fun k => a.Sources.length - k) 0 (fun x => qS) ?_ qL qL ?_
  ·exact ⟨zz7 _, e0⟩
  rintro k ⟨h1, h2⟩
  repeat' (first | refine wA ?_ | refine zC qS qR ?_ ?_ | refine zG yKy qD ?_ ⟨_, _, rfl, rfl⟩ qS ?_ | (refine zAa qS qC qC ?_ ?_ <;> intro hb hc <;> try (simp at hc; done)) | refine zE qR ?_ | refine zF qR ?_ | refine zL (k+1) ?_ ?_ ⟨rfl, qL, qL⟩ | exact qT | omega | refine zAc.bool ?_ | exact qP | fail)
  ·rw [h2, zAr _ _ ‹k < _›, List.any_cons, hb, Bool.true_or]
  ·refine ⟨by omega, ?_⟩
   rw [h2, zAr _ _ ‹k < _›, List.any_cons, hb, Bool.false_or]
  ·rw [h2, List.drop_of_length_le (by omega)]; rfl
def zJa (a b : Ach) (x y : Int) : Bool := (x == y) && (a.Bundle != b.Bundle || decide (a.Bundle < 1) || !a.Path == b.Path)
def pair (a b : Ach) : Bool := !(zD2 a.Course b.Course) && !(a.Sources.any fun x => b.Sources.any fun y => zJa a b x y)
theorem zHy (a b : Ach) : pair a b = !(zD2 a.Course b.Course || shared a b) := by
 simp only [pair, Bool.not_or]
 congr 2
 simp only [shared];split
 ·rename_i h
  obtain ⟨h1, h2, h3⟩ := h
  have : ∀ x y, zJa a b x y = false := fun x y => by
   have : ¬ b.Bundle < 1 := by omega
   simp [zJa, h2, h3, this]
  simp [this]
 ·rename_i h
  have : (a.Bundle != b.Bundle || decide (a.Bundle < 1) || !a.Path == b.Path) = true := by
   by_cases h1 : a.Bundle = b.Bundle <;> by_cases h2 : a.Bundle < 1 <;> by_cases h3 : a.Path = b.Path <;> simp [h1, h2, h3]
   ·omega
   ·exact absurd ⟨by omega, h1, h3⟩ h
  simp only [zJa, this, Bool.and_true]
def pw {α : Type} (p : α -> α -> Bool) : List α -> Bool
 | [] => true
 | a :: r => r.all (p a) && pw p r
theorem yEz {α : Type} [Inhabited α] (p : α -> α -> Bool) (l : List α) (k : Nat) (h : k < l.length) : pw p (l.drop k) = ((l.drop (k + 1)).all (p (l.getD k default)) && pw p (l.drop (k + 1))) := by
 rw [zAr l k h]; rfl
theorem K16 : FnOK prog 16 (fun ds d => ∃ l, ds = [zAj 8 zCk l] /\ d = .bool (pw pair l)) := by
 refine zAb call16 func16 rfl ntmps16 ?_;rintro ds d ⟨l, rfl, rfl⟩;refine ⟨by simp, fun w0 => ?_⟩
 repeat' (first | refine wA ?_ | exact qT | fail)
 refine zBf 0 rfl fun hl => ?_;have e : ∀ k : Nat, k < l.length -> IntKind.i64.wrap (↑k + 1) = ((k + 1 : Nat) : Int) := fun k h => by rw [w64]; omega
 refine zH [0, 7, 8] (fun k : Nat => [(9, .int .i64 k)]) (fun k => []) (fun k => k <= l.length /\ pw pair l = pw pair (l.drop k)) (fun k => l.length - k) 0 (fun x => qS) ?_ qL qL ?_
 ·exact ⟨zz7 _, rfl⟩
 rintro k ⟨h1, h2⟩
 repeat' (first | refine wA ?_ | exact qT | fail)
 (refine zAa qS qC qC ?_ ?_ <;> intro hb hc <;> try (simp at hc; done))
 ·replace e := e k ‹_›
  repeat' (first | refine wB ?_ | refine zC (by simp only [go_sem, e]; rfl) qR ?_ ?_ | exact rfl | exact qP | fail)
  rw [yEz _ _ _ ‹k < _›] at h2;refine zH [0, 7, 8, 9, 4, 17, 18] (fun i : Nat × Unit => [(19, .int .i64 i.1)]) (fun i => []) (fun i => i.1 <= l.length - (k + 1) /\ (l.drop (k + 1)).all (pair (l.getD k default)) = (l.drop (k + 1 + i.1)).all (pair (l.getD k default))) (fun i => l.length - (k + 1) - i.1) (0, ()) (fun x => qS) ?_ qL qL ?_
  ·exact ⟨zz7 _, rfl⟩
  rintro ⟨i, _⟩ ⟨h3, h4⟩;simp only at h3 h4
  repeat' (first | refine wA ?_ | refine zC qS qR ?_ ?_ | refine zN 28 qR qS K53 qD (fun hg => ?_) (fun _ => ⟨_, _, rfl, rfl⟩) qS ?_ | (refine zAa qS qC qC ?_ ?_ <;> intro hb hc <;> try (simp at hc; done)) | refine zE qR ?_ | refine zF qR ?_ | refine zL (i+1,()) ?_ ?_ ⟨rfl, qL, qL⟩ | refine zL (k+1) ?_ ?_ ⟨rfl, qL, qL⟩ | exact qT | omega | refine zAc.bool ?_ | exact qP | fail)
  ·rw [zAr _ _ (show k + 1 + i < l.length by omega), List.all_cons, zHy, show (zD2 _ _ || shared _ _) = true from hb] at h4
   rw [h2, h4]; rfl
  ·rw [zAr _ _ (show k + 1 + i < l.length by omega), List.all_cons, zHy, show (zD2 _ _ || shared _ _) = false from hb] at h4
   refine ⟨by simp only; omega, ?_⟩;rw [h4]; rfl
  ·rw [h4, List.drop_of_length_le (by omega), List.all_nil, zyg] at h2
   exact ⟨by omega, h2⟩
 ·repeat' (first | refine wA ?_ | refine zE qR ?_ | refine zF qR ?_ | exact qT | refine zAc.bool ?_ | fail)
  rw [h2, List.drop_of_length_le (by omega)]; rfl
end Go.Sx
