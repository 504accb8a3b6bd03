/- Part of the proofs that the laws of the journal return true for every input: K0, LB. -/
import Derived.Test.YtiddnjgnjmdobaaGreatDoorS3
import Derived.ChangeKeysEq
import Derived.Test.YtiddnjgnjmdobaaGreatDoorChecked
set_option linter.unusedVariables false
set_option linter.unusedSimpArgs false
set_option linter.all false
/-! K0: facts of the seat's types. -/
namespace Go.Sx
open Go.Proofs Go.RowKit
attribute [go_sem] adS nlD ptrNil nsD slNil vslF runQ stepA stepU stepG nthDst dstOf runX stepX List.nil_append List.cons_append List.append_nil keepS headS updS subS subO bstep qstep gstep qv enum ev lkp lkO cellsD Nat.blt Nat.ble St.free St.put menS menO men menL Nat.beq cond_true cond_false Bool.not_false Bool.not_true Bool.and_true Bool.true_and Bool.or_false Bool.false_and Bool.and_false upd Nat.reduceAdd unG ungd gC gCs atD ldc faD iaD bn2 aeD eqL bnD binD binI binS binB shD dvD pkD pC withG lnD lenD clD mnD flD ixD slD ptD ofV ofS List.drop_succ_cons List.drop_zero List.take_succ_cons List.take_zero List.length_cons List.length_nil Option.map_some Option.map_none Nat.reduceLeDiff Nat.reduceBEq reduceIte List.toList_toArray gB cstep List.map_cons List.map_nil sstep unD ncD exD cvD ifD bdD bdF sndG sndO bsD okEls sndD lenL nthSD pureD pureL apD srcD joinF mkD setF elD asD frz frzL frzS frzO frzD purgeS purgeL purgeO St.purge noMap Nat.reduceMul Nat.reduceSub Int.toNat_natCast leaf gV mkG Bool.and_self allP SLeL retD resL resD List.size_toArray astepA bs0D recsOf recA recU recG readS tmpsOf freshOf writesOf litF intsL strsL List.getD_cons_zero List.getD_cons_succ appO lkU memb Bool.or_true Bool.true_or

@[go_sem] theorem ptT24 : PtrT Tryz.prog 24 = True := eq_true ⟨Tryz.prog.pointee 24, by kernel_rfl⟩
@[go_sem] theorem ptT26 : PtrT Tryz.prog 26 = True := eq_true ⟨Tryz.prog.pointee 26, by kernel_rfl⟩
@[go_sem] theorem ptT28 : PtrT Tryz.prog 28 = True := eq_true ⟨Tryz.prog.pointee 28, by kernel_rfl⟩
@[go_sem] theorem ptT29 : PtrT Tryz.prog 29 = True := eq_true ⟨Tryz.prog.pointee 29, by kernel_rfl⟩
@[go_sem] theorem ptT86 : PtrT Tryz.prog 86 = True := eq_true ⟨Tryz.prog.pointee 86, by kernel_rfl⟩
@[go_sem] theorem ptT88 : PtrT Tryz.prog 88 = True := eq_true ⟨Tryz.prog.pointee 88, by kernel_rfl⟩
@[go_sem] theorem ptT120 : PtrT Tryz.prog 120 = True := eq_true ⟨Tryz.prog.pointee 120, by kernel_rfl⟩
@[go_sem] theorem ptT135 : PtrT Tryz.prog 135 = True := eq_true ⟨Tryz.prog.pointee 135, by kernel_rfl⟩
@[go_sem] theorem ptT137 : PtrT Tryz.prog 137 = True := eq_true ⟨Tryz.prog.pointee 137, by kernel_rfl⟩
@[go_sem] theorem ptT139 : PtrT Tryz.prog 139 = True := eq_true ⟨Tryz.prog.pointee 139, by kernel_rfl⟩
@[go_sem] theorem ptT141 : PtrT Tryz.prog 141 = True := eq_true ⟨Tryz.prog.pointee 141, by kernel_rfl⟩
@[go_sem] theorem ptT144 : PtrT Tryz.prog 144 = True := eq_true ⟨Tryz.prog.pointee 144, by kernel_rfl⟩
@[go_sem] theorem ptT148 : PtrT Tryz.prog 148 = True := eq_true ⟨Tryz.prog.pointee 148, by kernel_rfl⟩
@[go_sem] theorem ptT156 : PtrT Tryz.prog 156 = True := eq_true ⟨Tryz.prog.pointee 156, by kernel_rfl⟩
@[go_sem] theorem ptT163 : PtrT Tryz.prog 163 = True := eq_true ⟨Tryz.prog.pointee 163, by kernel_rfl⟩
@[go_sem] theorem ptT171 : PtrT Tryz.prog 171 = True := eq_true ⟨Tryz.prog.pointee 171, by kernel_rfl⟩
@[go_sem] theorem ptT173 : PtrT Tryz.prog 173 = True := eq_true ⟨Tryz.prog.pointee 173, by kernel_rfl⟩
@[go_sem] theorem ptT202 : PtrT Tryz.prog 202 = True := eq_true ⟨Tryz.prog.pointee 202, by kernel_rfl⟩
instance : LawfulBEq ByteArray where
  eq_of_beq {a b} h := by
    obtain ⟨x⟩ := a
    obtain ⟨y⟩ := b
    have h' : (x == y) = true := h
    rw [eq_of_beq h']
  rfl {a} := by
    obtain ⟨x⟩ := a
    show (x == x) = true
    simp

attribute [go_sem] osOf accBack bndO kindB nodupB allB prgS prgL prgO mapsOk callMD callDD tau sgm idxN getN isNew pbN phN okb okh renOs renO renM renL ren allNO allN allNL allNM okOs OB.isAcc upsO killL keysK recM newL isNil enumO mapD mlD keyMK lookD newS muD addK setD ofV decide_true decide_false
@[go_sem] theorem szT1 : szT Tryz.prog 1 = 1 := by kernel_rfl
@[go_sem] theorem aggT1 : aggT Tryz.prog 1 = some false := by kernel_rfl
@[go_sem] theorem kdT1 : kdT Tryz.prog 1 = 9 := by kernel_rfl
@[go_sem] theorem byT1 : byT Tryz.prog 1 = 8 := by kernel_rfl
@[go_sem] theorem hasZ1 : hasZ Tryz.prog 1 = true := by kernel_rfl
@[go_sem] theorem bdZ1 : bsD.bdZ Tryz.prog 1 = true := by kernel_rfl
@[go_sem] theorem zcT1 : zcT Tryz.prog 1 = some (.nilfn) := by kernel_rfl
@[go_sem] theorem szT3 : szT Tryz.prog 3 = 1 := by kernel_rfl
@[go_sem] theorem aggT3 : aggT Tryz.prog 3 = some false := by kernel_rfl
@[go_sem] theorem kdT3 : kdT Tryz.prog 3 = 6 := by kernel_rfl
@[go_sem] theorem byT3 : byT Tryz.prog 3 = 8 := by kernel_rfl
@[go_sem] theorem hasZ3 : hasZ Tryz.prog 3 = true := by kernel_rfl
@[go_sem] theorem bdZ3 : bsD.bdZ Tryz.prog 3 = true := by kernel_rfl
@[go_sem] theorem ikT3 : ikT Tryz.prog 3 = some .i64 := by kernel_rfl
@[go_sem] theorem zcT3 : zcT Tryz.prog 3 = some (.int .i64 0) := by kernel_rfl
@[go_sem] theorem szT4 : szT Tryz.prog 4 = 1 := by kernel_rfl
@[go_sem] theorem aggT4 : aggT Tryz.prog 4 = some false := by kernel_rfl
@[go_sem] theorem kdT4 : kdT Tryz.prog 4 = 7 := by kernel_rfl
@[go_sem] theorem byT4 : byT Tryz.prog 4 = 1 := by kernel_rfl
@[go_sem] theorem hasZ4 : hasZ Tryz.prog 4 = true := by kernel_rfl
@[go_sem] theorem bdZ4 : bsD.bdZ Tryz.prog 4 = true := by kernel_rfl
@[go_sem] theorem zcT4 : zcT Tryz.prog 4 = some (.bool false) := by kernel_rfl
@[go_sem] theorem szT5 : szT Tryz.prog 5 = 1 := by kernel_rfl
@[go_sem] theorem aggT5 : aggT Tryz.prog 5 = some false := by kernel_rfl
@[go_sem] theorem kdT5 : kdT Tryz.prog 5 = 6 := by kernel_rfl
@[go_sem] theorem byT5 : byT Tryz.prog 5 = 1 := by kernel_rfl
@[go_sem] theorem hasZ5 : hasZ Tryz.prog 5 = true := by kernel_rfl
@[go_sem] theorem bdZ5 : bsD.bdZ Tryz.prog 5 = true := by kernel_rfl
@[go_sem] theorem ikT5 : ikT Tryz.prog 5 = some .u8 := by kernel_rfl
@[go_sem] theorem zcT5 : zcT Tryz.prog 5 = some (.int .u8 0) := by kernel_rfl
@[go_sem] theorem szT9 : szT Tryz.prog 9 = 1 := by kernel_rfl
@[go_sem] theorem aggT9 : aggT Tryz.prog 9 = some false := by kernel_rfl
@[go_sem] theorem kdT9 : kdT Tryz.prog 9 = 2 := by kernel_rfl
@[go_sem] theorem byT9 : byT Tryz.prog 9 = 16 := by kernel_rfl
@[go_sem] theorem hasZ9 : hasZ Tryz.prog 9 = true := by kernel_rfl
@[go_sem] theorem bdZ9 : bsD.bdZ Tryz.prog 9 = true := by kernel_rfl
@[go_sem] theorem zcT9 : zcT Tryz.prog 9 = some (.str ByteArray.empty) := by kernel_rfl
@[go_sem] theorem szT21 : szT Tryz.prog 21 = 1 := by kernel_rfl
@[go_sem] theorem aggT21 : aggT Tryz.prog 21 = some false := by kernel_rfl
@[go_sem] theorem kdT21 : kdT Tryz.prog 21 = 6 := by kernel_rfl
@[go_sem] theorem byT21 : byT Tryz.prog 21 = 4 := by kernel_rfl
@[go_sem] theorem hasZ21 : hasZ Tryz.prog 21 = true := by kernel_rfl
@[go_sem] theorem bdZ21 : bsD.bdZ Tryz.prog 21 = true := by kernel_rfl
@[go_sem] theorem ikT21 : ikT Tryz.prog 21 = some .i32 := by kernel_rfl
@[go_sem] theorem zcT21 : zcT Tryz.prog 21 = some (.int .i32 0) := by kernel_rfl
@[go_sem] theorem szT22 : szT Tryz.prog 22 = 1 := by kernel_rfl
@[go_sem] theorem aggT22 : aggT Tryz.prog 22 = some false := by kernel_rfl
@[go_sem] theorem kdT22 : kdT Tryz.prog 22 = 1 := by kernel_rfl
@[go_sem] theorem byT22 : byT Tryz.prog 22 = 24 := by kernel_rfl
@[go_sem] theorem hasZ22 : hasZ Tryz.prog 22 = true := by kernel_rfl
@[go_sem] theorem bdZ22 : bsD.bdZ Tryz.prog 22 = true := by kernel_rfl
@[go_sem] theorem elT22 : elT Tryz.prog 22 = some 31 := by kernel_rfl
@[go_sem] theorem zcT22 : zcT Tryz.prog 22 = some (.nils) := by kernel_rfl
@[go_sem] theorem szT24 : szT Tryz.prog 24 = 1 := by kernel_rfl
@[go_sem] theorem aggT24 : aggT Tryz.prog 24 = some false := by kernel_rfl
@[go_sem] theorem kdT24 : kdT Tryz.prog 24 = 9 := by kernel_rfl
@[go_sem] theorem byT24 : byT Tryz.prog 24 = 8 := by kernel_rfl
@[go_sem] theorem hasZ24 : hasZ Tryz.prog 24 = true := by kernel_rfl
@[go_sem] theorem bdZ24 : bsD.bdZ Tryz.prog 24 = true := by kernel_rfl
@[go_sem] theorem zcT24 : zcT Tryz.prog 24 = some (.nilp) := by kernel_rfl
@[go_sem] theorem szT26 : szT Tryz.prog 26 = 1 := by kernel_rfl
@[go_sem] theorem aggT26 : aggT Tryz.prog 26 = some false := by kernel_rfl
@[go_sem] theorem kdT26 : kdT Tryz.prog 26 = 9 := by kernel_rfl
@[go_sem] theorem byT26 : byT Tryz.prog 26 = 8 := by kernel_rfl
@[go_sem] theorem hasZ26 : hasZ Tryz.prog 26 = true := by kernel_rfl
@[go_sem] theorem bdZ26 : bsD.bdZ Tryz.prog 26 = true := by kernel_rfl
@[go_sem] theorem zcT26 : zcT Tryz.prog 26 = some (.nilp) := by kernel_rfl
@[go_sem] theorem szT28 : szT Tryz.prog 28 = 1 := by kernel_rfl
@[go_sem] theorem aggT28 : aggT Tryz.prog 28 = some false := by kernel_rfl
@[go_sem] theorem kdT28 : kdT Tryz.prog 28 = 9 := by kernel_rfl
@[go_sem] theorem byT28 : byT Tryz.prog 28 = 8 := by kernel_rfl
@[go_sem] theorem hasZ28 : hasZ Tryz.prog 28 = true := by kernel_rfl
@[go_sem] theorem bdZ28 : bsD.bdZ Tryz.prog 28 = true := by kernel_rfl
@[go_sem] theorem zcT28 : zcT Tryz.prog 28 = some (.nilp) := by kernel_rfl
@[go_sem] theorem szT29 : szT Tryz.prog 29 = 1 := by kernel_rfl
@[go_sem] theorem aggT29 : aggT Tryz.prog 29 = some false := by kernel_rfl
@[go_sem] theorem kdT29 : kdT Tryz.prog 29 = 9 := by kernel_rfl
@[go_sem] theorem byT29 : byT Tryz.prog 29 = 8 := by kernel_rfl
@[go_sem] theorem hasZ29 : hasZ Tryz.prog 29 = true := by kernel_rfl
@[go_sem] theorem bdZ29 : bsD.bdZ Tryz.prog 29 = true := by kernel_rfl
@[go_sem] theorem zcT29 : zcT Tryz.prog 29 = some (.nilp) := by kernel_rfl
@[go_sem] theorem szT31 : szT Tryz.prog 31 = 3 := by kernel_rfl
@[go_sem] theorem aggT31 : aggT Tryz.prog 31 = some true := by kernel_rfl
@[go_sem] theorem kdT31 : kdT Tryz.prog 31 = 5 := by kernel_rfl
@[go_sem] theorem byT31 : byT Tryz.prog 31 = 24 := by kernel_rfl
@[go_sem] theorem hasZ31 : hasZ Tryz.prog 31 = true := by kernel_rfl
@[go_sem] theorem bdZ31 : bsD.bdZ Tryz.prog 31 = true := by kernel_rfl
@[go_sem] theorem zcT31 : zcT Tryz.prog 31 = some (.agg [.int .u8 0, .int .u8 0, .str ByteArray.empty]) := by kernel_rfl
@[go_sem] theorem bdT31 : bdT Tryz.prog 31 = some [.int .u8 0, .int .u8 0, .str ByteArray.empty] := by kernel_rfl
@[go_sem] theorem plT31_0 : plT Tryz.prog 31 0 = some (0, 1) := by kernel_rfl
@[go_sem] theorem ftT31_0 : ftT Tryz.prog 31 0 = some 5 := by kernel_rfl
@[go_sem] theorem plT31_1 : plT Tryz.prog 31 1 = some (1, 1) := by kernel_rfl
@[go_sem] theorem ftT31_1 : ftT Tryz.prog 31 1 = some 5 := by kernel_rfl
@[go_sem] theorem plT31_2 : plT Tryz.prog 31 2 = some (2, 1) := by kernel_rfl
@[go_sem] theorem ftT31_2 : ftT Tryz.prog 31 2 = some 9 := by kernel_rfl
@[go_sem] theorem szT34 : szT Tryz.prog 34 = 1 := by kernel_rfl
@[go_sem] theorem aggT34 : aggT Tryz.prog 34 = some false := by kernel_rfl
@[go_sem] theorem kdT34 : kdT Tryz.prog 34 = 9 := by kernel_rfl
@[go_sem] theorem byT34 : byT Tryz.prog 34 = 8 := by kernel_rfl
@[go_sem] theorem hasZ34 : hasZ Tryz.prog 34 = true := by kernel_rfl
@[go_sem] theorem bdZ34 : bsD.bdZ Tryz.prog 34 = true := by kernel_rfl
@[go_sem] theorem zcT34 : zcT Tryz.prog 34 = some (.nilfn) := by kernel_rfl
@[go_sem] theorem szT36 : szT Tryz.prog 36 = 1 := by kernel_rfl
@[go_sem] theorem aggT36 : aggT Tryz.prog 36 = some false := by kernel_rfl
@[go_sem] theorem kdT36 : kdT Tryz.prog 36 = 1 := by kernel_rfl
@[go_sem] theorem byT36 : byT Tryz.prog 36 = 24 := by kernel_rfl
@[go_sem] theorem hasZ36 : hasZ Tryz.prog 36 = true := by kernel_rfl
@[go_sem] theorem bdZ36 : bsD.bdZ Tryz.prog 36 = true := by kernel_rfl
@[go_sem] theorem elT36 : elT Tryz.prog 36 = some 9 := by kernel_rfl
@[go_sem] theorem zcT36 : zcT Tryz.prog 36 = some (.nils) := by kernel_rfl
@[go_sem] theorem szT42 : szT Tryz.prog 42 = 1 := by kernel_rfl
@[go_sem] theorem aggT42 : aggT Tryz.prog 42 = some false := by kernel_rfl
@[go_sem] theorem kdT42 : kdT Tryz.prog 42 = 6 := by kernel_rfl
@[go_sem] theorem byT42 : byT Tryz.prog 42 = 8 := by kernel_rfl
@[go_sem] theorem hasZ42 : hasZ Tryz.prog 42 = true := by kernel_rfl
@[go_sem] theorem bdZ42 : bsD.bdZ Tryz.prog 42 = true := by kernel_rfl
@[go_sem] theorem ikT42 : ikT Tryz.prog 42 = some .i64 := by kernel_rfl
@[go_sem] theorem zcT42 : zcT Tryz.prog 42 = some (.int .i64 0) := by kernel_rfl
@[go_sem] theorem szT45 : szT Tryz.prog 45 = 1 := by kernel_rfl
@[go_sem] theorem aggT45 : aggT Tryz.prog 45 = some false := by kernel_rfl
@[go_sem] theorem kdT45 : kdT Tryz.prog 45 = 6 := by kernel_rfl
@[go_sem] theorem byT45 : byT Tryz.prog 45 = 2 := by kernel_rfl
@[go_sem] theorem hasZ45 : hasZ Tryz.prog 45 = true := by kernel_rfl
@[go_sem] theorem bdZ45 : bsD.bdZ Tryz.prog 45 = true := by kernel_rfl
@[go_sem] theorem ikT45 : ikT Tryz.prog 45 = some .u16 := by kernel_rfl
@[go_sem] theorem zcT45 : zcT Tryz.prog 45 = some (.int .u16 0) := by kernel_rfl
@[go_sem] theorem szT47 : szT Tryz.prog 47 = 3 := by kernel_rfl
@[go_sem] theorem aggT47 : aggT Tryz.prog 47 = some true := by kernel_rfl
@[go_sem] theorem kdT47 : kdT Tryz.prog 47 = 5 := by kernel_rfl
@[go_sem] theorem byT47 : byT Tryz.prog 47 = 24 := by kernel_rfl
@[go_sem] theorem hasZ47 : hasZ Tryz.prog 47 = true := by kernel_rfl
@[go_sem] theorem bdZ47 : bsD.bdZ Tryz.prog 47 = true := by kernel_rfl
@[go_sem] theorem zcT47 : zcT Tryz.prog 47 = some (.agg [.int .u16 0, .int .u8 0, .str ByteArray.empty]) := by kernel_rfl
@[go_sem] theorem bdT47 : bdT Tryz.prog 47 = some [.int .u16 0, .int .u8 0, .str ByteArray.empty] := by kernel_rfl
@[go_sem] theorem plT47_0 : plT Tryz.prog 47 0 = some (0, 1) := by kernel_rfl
@[go_sem] theorem ftT47_0 : ftT Tryz.prog 47 0 = some 45 := by kernel_rfl
@[go_sem] theorem plT47_1 : plT Tryz.prog 47 1 = some (1, 1) := by kernel_rfl
@[go_sem] theorem ftT47_1 : ftT Tryz.prog 47 1 = some 5 := by kernel_rfl
@[go_sem] theorem plT47_2 : plT Tryz.prog 47 2 = some (2, 1) := by kernel_rfl
@[go_sem] theorem ftT47_2 : ftT Tryz.prog 47 2 = some 9 := by kernel_rfl
@[go_sem] theorem szT48 : szT Tryz.prog 48 = 6 := by kernel_rfl
@[go_sem] theorem aggT48 : aggT Tryz.prog 48 = some true := by kernel_rfl
@[go_sem] theorem kdT48 : kdT Tryz.prog 48 = 4 := by kernel_rfl
@[go_sem] theorem byT48 : byT Tryz.prog 48 = 48 := by kernel_rfl
@[go_sem] theorem hasZ48 : hasZ Tryz.prog 48 = true := by kernel_rfl
@[go_sem] theorem bdZ48 : bsD.bdZ Tryz.prog 48 = true := by kernel_rfl
@[go_sem] theorem elT48 : elT Tryz.prog 48 = some 47 := by kernel_rfl
@[go_sem] theorem lnT48 : lnT Tryz.prog 48 = some 2 := by kernel_rfl
@[go_sem] theorem zcT48 : zcT Tryz.prog 48 = some (.agg [.int .u16 0, .int .u8 0, .str ByteArray.empty, .int .u16 0, .int .u8 0, .str ByteArray.empty]) := by kernel_rfl
@[go_sem] theorem bdT48 : bdT Tryz.prog 48 = some [.int .u16 0, .int .u8 0, .str ByteArray.empty, .int .u16 0, .int .u8 0, .str ByteArray.empty] := by kernel_rfl
@[go_sem] theorem plT48_0 : plT Tryz.prog 48 0 = some (0, 3) := by kernel_rfl
@[go_sem] theorem plT48_1 : plT Tryz.prog 48 1 = some (3, 3) := by kernel_rfl
@[go_sem] theorem plT48_2 : plT Tryz.prog 48 2 = some (6, 3) := by kernel_rfl
@[go_sem] theorem plT48_3 : plT Tryz.prog 48 3 = some (9, 3) := by kernel_rfl
@[go_sem] theorem plT48_4 : plT Tryz.prog 48 4 = some (12, 3) := by kernel_rfl
@[go_sem] theorem plT48_5 : plT Tryz.prog 48 5 = some (15, 3) := by kernel_rfl
@[go_sem] theorem plT48_6 : plT Tryz.prog 48 6 = some (18, 3) := by kernel_rfl
@[go_sem] theorem plT48_7 : plT Tryz.prog 48 7 = some (21, 3) := by kernel_rfl
@[go_sem] theorem plT48_8 : plT Tryz.prog 48 8 = some (24, 3) := by kernel_rfl
@[go_sem] theorem plT48_9 : plT Tryz.prog 48 9 = some (27, 3) := by kernel_rfl
@[go_sem] theorem plT48_10 : plT Tryz.prog 48 10 = some (30, 3) := by kernel_rfl
@[go_sem] theorem plT48_11 : plT Tryz.prog 48 11 = some (33, 3) := by kernel_rfl
@[go_sem] theorem szT51 : szT Tryz.prog 51 = 1 := by kernel_rfl
@[go_sem] theorem aggT51 : aggT Tryz.prog 51 = some false := by kernel_rfl
@[go_sem] theorem kdT51 : kdT Tryz.prog 51 = 1 := by kernel_rfl
@[go_sem] theorem byT51 : byT Tryz.prog 51 = 24 := by kernel_rfl
@[go_sem] theorem hasZ51 : hasZ Tryz.prog 51 = true := by kernel_rfl
@[go_sem] theorem bdZ51 : bsD.bdZ Tryz.prog 51 = true := by kernel_rfl
@[go_sem] theorem elT51 : elT Tryz.prog 51 = some 53 := by kernel_rfl
@[go_sem] theorem zcT51 : zcT Tryz.prog 51 = some (.nils) := by kernel_rfl
@[go_sem] theorem szT53 : szT Tryz.prog 53 = 4 := by kernel_rfl
@[go_sem] theorem aggT53 : aggT Tryz.prog 53 = some true := by kernel_rfl
@[go_sem] theorem kdT53 : kdT Tryz.prog 53 = 5 := by kernel_rfl
@[go_sem] theorem byT53 : byT Tryz.prog 53 = 32 := by kernel_rfl
@[go_sem] theorem hasZ53 : hasZ Tryz.prog 53 = true := by kernel_rfl
@[go_sem] theorem bdZ53 : bsD.bdZ Tryz.prog 53 = true := by kernel_rfl
@[go_sem] theorem zcT53 : zcT Tryz.prog 53 = some (.agg [.nils, .int .u8 0, .int .u8 0, .int .u8 0]) := by kernel_rfl
@[go_sem] theorem bdT53 : bdT Tryz.prog 53 = some [.nils, .int .u8 0, .int .u8 0, .int .u8 0] := by kernel_rfl
@[go_sem] theorem plT53_0 : plT Tryz.prog 53 0 = some (0, 1) := by kernel_rfl
@[go_sem] theorem ftT53_0 : ftT Tryz.prog 53 0 = some 36 := by kernel_rfl
@[go_sem] theorem plT53_1 : plT Tryz.prog 53 1 = some (1, 1) := by kernel_rfl
@[go_sem] theorem ftT53_1 : ftT Tryz.prog 53 1 = some 5 := by kernel_rfl
@[go_sem] theorem plT53_2 : plT Tryz.prog 53 2 = some (2, 1) := by kernel_rfl
@[go_sem] theorem ftT53_2 : ftT Tryz.prog 53 2 = some 5 := by kernel_rfl
@[go_sem] theorem plT53_3 : plT Tryz.prog 53 3 = some (3, 1) := by kernel_rfl
@[go_sem] theorem ftT53_3 : ftT Tryz.prog 53 3 = some 5 := by kernel_rfl
@[go_sem] theorem szT56 : szT Tryz.prog 56 = 1 := by kernel_rfl
@[go_sem] theorem aggT56 : aggT Tryz.prog 56 = some false := by kernel_rfl
@[go_sem] theorem kdT56 : kdT Tryz.prog 56 = 1 := by kernel_rfl
@[go_sem] theorem byT56 : byT Tryz.prog 56 = 24 := by kernel_rfl
@[go_sem] theorem hasZ56 : hasZ Tryz.prog 56 = true := by kernel_rfl
@[go_sem] theorem bdZ56 : bsD.bdZ Tryz.prog 56 = true := by kernel_rfl
@[go_sem] theorem elT56 : elT Tryz.prog 56 = some 3 := by kernel_rfl
@[go_sem] theorem zcT56 : zcT Tryz.prog 56 = some (.nils) := by kernel_rfl
@[go_sem] theorem szT57 : szT Tryz.prog 57 = 1 := by kernel_rfl
@[go_sem] theorem aggT57 : aggT Tryz.prog 57 = some false := by kernel_rfl
@[go_sem] theorem kdT57 : kdT Tryz.prog 57 = 1 := by kernel_rfl
@[go_sem] theorem byT57 : byT Tryz.prog 57 = 24 := by kernel_rfl
@[go_sem] theorem hasZ57 : hasZ Tryz.prog 57 = true := by kernel_rfl
@[go_sem] theorem bdZ57 : bsD.bdZ Tryz.prog 57 = true := by kernel_rfl
@[go_sem] theorem elT57 : elT Tryz.prog 57 = some 5 := by kernel_rfl
@[go_sem] theorem zcT57 : zcT Tryz.prog 57 = some (.nils) := by kernel_rfl
@[go_sem] theorem szT62 : szT Tryz.prog 62 = 3 := by kernel_rfl
@[go_sem] theorem aggT62 : aggT Tryz.prog 62 = some true := by kernel_rfl
@[go_sem] theorem kdT62 : kdT Tryz.prog 62 = 5 := by kernel_rfl
@[go_sem] theorem byT62 : byT Tryz.prog 62 = 24 := by kernel_rfl
@[go_sem] theorem hasZ62 : hasZ Tryz.prog 62 = true := by kernel_rfl
@[go_sem] theorem bdZ62 : bsD.bdZ Tryz.prog 62 = true := by kernel_rfl
@[go_sem] theorem zcT62 : zcT Tryz.prog 62 = some (.agg [.nilp, .int .i64 0, .bool false]) := by kernel_rfl
@[go_sem] theorem bdT62 : bdT Tryz.prog 62 = some [.nilp, .int .i64 0, .bool false] := by kernel_rfl
@[go_sem] theorem plT62_0 : plT Tryz.prog 62 0 = some (0, 1) := by kernel_rfl
@[go_sem] theorem ftT62_0 : ftT Tryz.prog 62 0 = some 24 := by kernel_rfl
@[go_sem] theorem plT62_1 : plT Tryz.prog 62 1 = some (1, 1) := by kernel_rfl
@[go_sem] theorem ftT62_1 : ftT Tryz.prog 62 1 = some 3 := by kernel_rfl
@[go_sem] theorem plT62_2 : plT Tryz.prog 62 2 = some (2, 1) := by kernel_rfl
@[go_sem] theorem ftT62_2 : ftT Tryz.prog 62 2 = some 4 := by kernel_rfl
@[go_sem] theorem szT63 : szT Tryz.prog 63 = 1 := by kernel_rfl
@[go_sem] theorem aggT63 : aggT Tryz.prog 63 = some false := by kernel_rfl
@[go_sem] theorem kdT63 : kdT Tryz.prog 63 = 1 := by kernel_rfl
@[go_sem] theorem byT63 : byT Tryz.prog 63 = 24 := by kernel_rfl
@[go_sem] theorem hasZ63 : hasZ Tryz.prog 63 = true := by kernel_rfl
@[go_sem] theorem bdZ63 : bsD.bdZ Tryz.prog 63 = true := by kernel_rfl
@[go_sem] theorem elT63 : elT Tryz.prog 63 = some 28 := by kernel_rfl
@[go_sem] theorem zcT63 : zcT Tryz.prog 63 = some (.nils) := by kernel_rfl
@[go_sem] theorem szT65 : szT Tryz.prog 65 = 5 := by kernel_rfl
@[go_sem] theorem aggT65 : aggT Tryz.prog 65 = some true := by kernel_rfl
@[go_sem] theorem kdT65 : kdT Tryz.prog 65 = 5 := by kernel_rfl
@[go_sem] theorem byT65 : byT Tryz.prog 65 = 40 := by kernel_rfl
@[go_sem] theorem hasZ65 : hasZ Tryz.prog 65 = true := by kernel_rfl
@[go_sem] theorem bdZ65 : bsD.bdZ Tryz.prog 65 = true := by kernel_rfl
@[go_sem] theorem zcT65 : zcT Tryz.prog 65 = some (.agg [.str ByteArray.empty, .int .i64 0, .bool false, .bool false, .int .i64 0]) := by kernel_rfl
@[go_sem] theorem bdT65 : bdT Tryz.prog 65 = some [.str ByteArray.empty, .int .i64 0, .bool false, .bool false, .int .i64 0] := by kernel_rfl
@[go_sem] theorem plT65_0 : plT Tryz.prog 65 0 = some (0, 1) := by kernel_rfl
@[go_sem] theorem ftT65_0 : ftT Tryz.prog 65 0 = some 9 := by kernel_rfl
@[go_sem] theorem plT65_1 : plT Tryz.prog 65 1 = some (1, 1) := by kernel_rfl
@[go_sem] theorem ftT65_1 : ftT Tryz.prog 65 1 = some 3 := by kernel_rfl
@[go_sem] theorem plT65_2 : plT Tryz.prog 65 2 = some (2, 1) := by kernel_rfl
@[go_sem] theorem ftT65_2 : ftT Tryz.prog 65 2 = some 4 := by kernel_rfl
@[go_sem] theorem plT65_3 : plT Tryz.prog 65 3 = some (3, 1) := by kernel_rfl
@[go_sem] theorem ftT65_3 : ftT Tryz.prog 65 3 = some 4 := by kernel_rfl
@[go_sem] theorem plT65_4 : plT Tryz.prog 65 4 = some (4, 1) := by kernel_rfl
@[go_sem] theorem ftT65_4 : ftT Tryz.prog 65 4 = some 3 := by kernel_rfl
@[go_sem] theorem szT68 : szT Tryz.prog 68 = 5 := by kernel_rfl
@[go_sem] theorem aggT68 : aggT Tryz.prog 68 = some true := by kernel_rfl
@[go_sem] theorem kdT68 : kdT Tryz.prog 68 = 5 := by kernel_rfl
@[go_sem] theorem byT68 : byT Tryz.prog 68 = 40 := by kernel_rfl
@[go_sem] theorem hasZ68 : hasZ Tryz.prog 68 = true := by kernel_rfl
@[go_sem] theorem bdZ68 : bsD.bdZ Tryz.prog 68 = true := by kernel_rfl
@[go_sem] theorem zcT68 : zcT Tryz.prog 68 = some (.agg [.str ByteArray.empty, .int .i64 0, .bool false, .bool false, .int .i64 0]) := by kernel_rfl
@[go_sem] theorem bdT68 : bdT Tryz.prog 68 = some [.str ByteArray.empty, .int .i64 0, .bool false, .bool false, .int .i64 0] := by kernel_rfl
@[go_sem] theorem plT68_0 : plT Tryz.prog 68 0 = some (0, 1) := by kernel_rfl
@[go_sem] theorem ftT68_0 : ftT Tryz.prog 68 0 = some 9 := by kernel_rfl
@[go_sem] theorem plT68_1 : plT Tryz.prog 68 1 = some (1, 1) := by kernel_rfl
@[go_sem] theorem ftT68_1 : ftT Tryz.prog 68 1 = some 3 := by kernel_rfl
@[go_sem] theorem plT68_2 : plT Tryz.prog 68 2 = some (2, 1) := by kernel_rfl
@[go_sem] theorem ftT68_2 : ftT Tryz.prog 68 2 = some 4 := by kernel_rfl
@[go_sem] theorem plT68_3 : plT Tryz.prog 68 3 = some (3, 1) := by kernel_rfl
@[go_sem] theorem ftT68_3 : ftT Tryz.prog 68 3 = some 4 := by kernel_rfl
@[go_sem] theorem plT68_4 : plT Tryz.prog 68 4 = some (4, 1) := by kernel_rfl
@[go_sem] theorem ftT68_4 : ftT Tryz.prog 68 4 = some 3 := by kernel_rfl
@[go_sem] theorem szT75 : szT Tryz.prog 75 = 3 := by kernel_rfl
@[go_sem] theorem aggT75 : aggT Tryz.prog 75 = some true := by kernel_rfl
@[go_sem] theorem kdT75 : kdT Tryz.prog 75 = 5 := by kernel_rfl
@[go_sem] theorem byT75 : byT Tryz.prog 75 = 24 := by kernel_rfl
@[go_sem] theorem hasZ75 : hasZ Tryz.prog 75 = true := by kernel_rfl
@[go_sem] theorem bdZ75 : bsD.bdZ Tryz.prog 75 = true := by kernel_rfl
@[go_sem] theorem zcT75 : zcT Tryz.prog 75 = some (.agg [.nilp, .int .i64 0, .bool false]) := by kernel_rfl
@[go_sem] theorem bdT75 : bdT Tryz.prog 75 = some [.nilp, .int .i64 0, .bool false] := by kernel_rfl
@[go_sem] theorem plT75_0 : plT Tryz.prog 75 0 = some (0, 1) := by kernel_rfl
@[go_sem] theorem ftT75_0 : ftT Tryz.prog 75 0 = some 26 := by kernel_rfl
@[go_sem] theorem plT75_1 : plT Tryz.prog 75 1 = some (1, 1) := by kernel_rfl
@[go_sem] theorem ftT75_1 : ftT Tryz.prog 75 1 = some 3 := by kernel_rfl
@[go_sem] theorem plT75_2 : plT Tryz.prog 75 2 = some (2, 1) := by kernel_rfl
@[go_sem] theorem ftT75_2 : ftT Tryz.prog 75 2 = some 4 := by kernel_rfl
@[go_sem] theorem szT86 : szT Tryz.prog 86 = 1 := by kernel_rfl
@[go_sem] theorem aggT86 : aggT Tryz.prog 86 = some false := by kernel_rfl
@[go_sem] theorem kdT86 : kdT Tryz.prog 86 = 9 := by kernel_rfl
@[go_sem] theorem byT86 : byT Tryz.prog 86 = 8 := by kernel_rfl
@[go_sem] theorem hasZ86 : hasZ Tryz.prog 86 = true := by kernel_rfl
@[go_sem] theorem bdZ86 : bsD.bdZ Tryz.prog 86 = true := by kernel_rfl
@[go_sem] theorem zcT86 : zcT Tryz.prog 86 = some (.nilp) := by kernel_rfl
@[go_sem] theorem szT88 : szT Tryz.prog 88 = 1 := by kernel_rfl
@[go_sem] theorem aggT88 : aggT Tryz.prog 88 = some false := by kernel_rfl
@[go_sem] theorem kdT88 : kdT Tryz.prog 88 = 9 := by kernel_rfl
@[go_sem] theorem byT88 : byT Tryz.prog 88 = 8 := by kernel_rfl
@[go_sem] theorem hasZ88 : hasZ Tryz.prog 88 = true := by kernel_rfl
@[go_sem] theorem bdZ88 : bsD.bdZ Tryz.prog 88 = true := by kernel_rfl
@[go_sem] theorem zcT88 : zcT Tryz.prog 88 = some (.nilp) := by kernel_rfl
@[go_sem] theorem szT90 : szT Tryz.prog 90 = 2 := by kernel_rfl
@[go_sem] theorem aggT90 : aggT Tryz.prog 90 = some true := by kernel_rfl
@[go_sem] theorem kdT90 : kdT Tryz.prog 90 = 5 := by kernel_rfl
@[go_sem] theorem byT90 : byT Tryz.prog 90 = 32 := by kernel_rfl
@[go_sem] theorem hasZ90 : hasZ Tryz.prog 90 = true := by kernel_rfl
@[go_sem] theorem bdZ90 : bsD.bdZ Tryz.prog 90 = true := by kernel_rfl
@[go_sem] theorem zcT90 : zcT Tryz.prog 90 = some (.agg [.nilp, .nils]) := by kernel_rfl
@[go_sem] theorem bdT90 : bdT Tryz.prog 90 = some [.nilp, .nils] := by kernel_rfl
@[go_sem] theorem plT90_0 : plT Tryz.prog 90 0 = some (0, 1) := by kernel_rfl
@[go_sem] theorem ftT90_0 : ftT Tryz.prog 90 0 = some 88 := by kernel_rfl
@[go_sem] theorem plT90_1 : plT Tryz.prog 90 1 = some (1, 1) := by kernel_rfl
@[go_sem] theorem ftT90_1 : ftT Tryz.prog 90 1 = some 57 := by kernel_rfl
@[go_sem] theorem szT92 : szT Tryz.prog 92 = 1 := by kernel_rfl
@[go_sem] theorem aggT92 : aggT Tryz.prog 92 = some false := by kernel_rfl
@[go_sem] theorem kdT92 : kdT Tryz.prog 92 = 8 := by kernel_rfl
@[go_sem] theorem byT92 : byT Tryz.prog 92 = 16 := by kernel_rfl
@[go_sem] theorem hasZ92 : hasZ Tryz.prog 92 = true := by kernel_rfl
@[go_sem] theorem bdZ92 : bsD.bdZ Tryz.prog 92 = true := by kernel_rfl
@[go_sem] theorem zcT92 : zcT Tryz.prog 92 = some (.nilif) := by kernel_rfl
@[go_sem] theorem szT94 : szT Tryz.prog 94 = 8 := by kernel_rfl
@[go_sem] theorem aggT94 : aggT Tryz.prog 94 = some true := by kernel_rfl
@[go_sem] theorem kdT94 : kdT Tryz.prog 94 = 4 := by kernel_rfl
@[go_sem] theorem byT94 : byT Tryz.prog 94 = 8 := by kernel_rfl
@[go_sem] theorem hasZ94 : hasZ Tryz.prog 94 = true := by kernel_rfl
@[go_sem] theorem bdZ94 : bsD.bdZ Tryz.prog 94 = true := by kernel_rfl
@[go_sem] theorem elT94 : elT Tryz.prog 94 = some 5 := by kernel_rfl
@[go_sem] theorem lnT94 : lnT Tryz.prog 94 = some 8 := by kernel_rfl
@[go_sem] theorem zcT94 : zcT Tryz.prog 94 = some (.agg [.int .u8 0, .int .u8 0, .int .u8 0, .int .u8 0, .int .u8 0, .int .u8 0, .int .u8 0, .int .u8 0]) := by kernel_rfl
@[go_sem] theorem bdT94 : bdT Tryz.prog 94 = some [.int .u8 0, .int .u8 0, .int .u8 0, .int .u8 0, .int .u8 0, .int .u8 0, .int .u8 0, .int .u8 0] := by kernel_rfl
@[go_sem] theorem plT94_0 : plT Tryz.prog 94 0 = some (0, 1) := by kernel_rfl
@[go_sem] theorem plT94_1 : plT Tryz.prog 94 1 = some (1, 1) := by kernel_rfl
@[go_sem] theorem plT94_2 : plT Tryz.prog 94 2 = some (2, 1) := by kernel_rfl
@[go_sem] theorem plT94_3 : plT Tryz.prog 94 3 = some (3, 1) := by kernel_rfl
@[go_sem] theorem plT94_4 : plT Tryz.prog 94 4 = some (4, 1) := by kernel_rfl
@[go_sem] theorem plT94_5 : plT Tryz.prog 94 5 = some (5, 1) := by kernel_rfl
@[go_sem] theorem plT94_6 : plT Tryz.prog 94 6 = some (6, 1) := by kernel_rfl
@[go_sem] theorem plT94_7 : plT Tryz.prog 94 7 = some (7, 1) := by kernel_rfl
@[go_sem] theorem plT94_8 : plT Tryz.prog 94 8 = some (8, 1) := by kernel_rfl
@[go_sem] theorem plT94_9 : plT Tryz.prog 94 9 = some (9, 1) := by kernel_rfl
@[go_sem] theorem plT94_10 : plT Tryz.prog 94 10 = some (10, 1) := by kernel_rfl
@[go_sem] theorem plT94_11 : plT Tryz.prog 94 11 = some (11, 1) := by kernel_rfl
@[go_sem] theorem szT102 : szT Tryz.prog 102 = 1 := by kernel_rfl
@[go_sem] theorem aggT102 : aggT Tryz.prog 102 = some false := by kernel_rfl
@[go_sem] theorem kdT102 : kdT Tryz.prog 102 = 6 := by kernel_rfl
@[go_sem] theorem byT102 : byT Tryz.prog 102 = 4 := by kernel_rfl
@[go_sem] theorem hasZ102 : hasZ Tryz.prog 102 = true := by kernel_rfl
@[go_sem] theorem bdZ102 : bsD.bdZ Tryz.prog 102 = true := by kernel_rfl
@[go_sem] theorem ikT102 : ikT Tryz.prog 102 = some .u32 := by kernel_rfl
@[go_sem] theorem zcT102 : zcT Tryz.prog 102 = some (.int .u32 0) := by kernel_rfl
@[go_sem] theorem szT104 : szT Tryz.prog 104 = 1 := by kernel_rfl
@[go_sem] theorem aggT104 : aggT Tryz.prog 104 = some true := by kernel_rfl
@[go_sem] theorem kdT104 : kdT Tryz.prog 104 = 5 := by kernel_rfl
@[go_sem] theorem byT104 : byT Tryz.prog 104 = 4 := by kernel_rfl
@[go_sem] theorem hasZ104 : hasZ Tryz.prog 104 = true := by kernel_rfl
@[go_sem] theorem bdZ104 : bsD.bdZ Tryz.prog 104 = true := by kernel_rfl
@[go_sem] theorem zcT104 : zcT Tryz.prog 104 = some (.agg [.int .u32 0]) := by kernel_rfl
@[go_sem] theorem bdT104 : bdT Tryz.prog 104 = some [.int .u32 0] := by kernel_rfl
@[go_sem] theorem ftT104_0 : ftT Tryz.prog 104 0 = some 101 := by kernel_rfl
@[go_sem] theorem plT104_1 : plT Tryz.prog 104 1 = some (0, 1) := by kernel_rfl
@[go_sem] theorem ftT104_1 : ftT Tryz.prog 104 1 = some 102 := by kernel_rfl
@[go_sem] theorem szT106 : szT Tryz.prog 106 = 2 := by kernel_rfl
@[go_sem] theorem aggT106 : aggT Tryz.prog 106 = some true := by kernel_rfl
@[go_sem] theorem kdT106 : kdT Tryz.prog 106 = 5 := by kernel_rfl
@[go_sem] theorem byT106 : byT Tryz.prog 106 = 8 := by kernel_rfl
@[go_sem] theorem hasZ106 : hasZ Tryz.prog 106 = true := by kernel_rfl
@[go_sem] theorem bdZ106 : bsD.bdZ Tryz.prog 106 = true := by kernel_rfl
@[go_sem] theorem zcT106 : zcT Tryz.prog 106 = some (.agg [.int .i32 0, .int .u32 0]) := by kernel_rfl
@[go_sem] theorem bdT106 : bdT Tryz.prog 106 = some [.int .i32 0, .int .u32 0] := by kernel_rfl
@[go_sem] theorem plT106_0 : plT Tryz.prog 106 0 = some (0, 1) := by kernel_rfl
@[go_sem] theorem ftT106_0 : ftT Tryz.prog 106 0 = some 21 := by kernel_rfl
@[go_sem] theorem plT106_1 : plT Tryz.prog 106 1 = some (1, 1) := by kernel_rfl
@[go_sem] theorem ftT106_1 : ftT Tryz.prog 106 1 = some 102 := by kernel_rfl
@[go_sem] theorem szT108 : szT Tryz.prog 108 = 2 := by kernel_rfl
@[go_sem] theorem aggT108 : aggT Tryz.prog 108 = some true := by kernel_rfl
@[go_sem] theorem kdT108 : kdT Tryz.prog 108 = 5 := by kernel_rfl
@[go_sem] theorem byT108 : byT Tryz.prog 108 = 8 := by kernel_rfl
@[go_sem] theorem hasZ108 : hasZ Tryz.prog 108 = true := by kernel_rfl
@[go_sem] theorem bdZ108 : bsD.bdZ Tryz.prog 108 = true := by kernel_rfl
@[go_sem] theorem zcT108 : zcT Tryz.prog 108 = some (.agg [.int .i32 0, .int .u32 0]) := by kernel_rfl
@[go_sem] theorem bdT108 : bdT Tryz.prog 108 = some [.int .i32 0, .int .u32 0] := by kernel_rfl
@[go_sem] theorem ftT108_0 : ftT Tryz.prog 108 0 = some 100 := by kernel_rfl
@[go_sem] theorem plT108_1 : plT Tryz.prog 108 1 = some (0, 2) := by kernel_rfl
@[go_sem] theorem ftT108_1 : ftT Tryz.prog 108 1 = some 106 := by kernel_rfl
@[go_sem] theorem szT110 : szT Tryz.prog 110 = 3 := by kernel_rfl
@[go_sem] theorem aggT110 : aggT Tryz.prog 110 = some true := by kernel_rfl
@[go_sem] theorem kdT110 : kdT Tryz.prog 110 = 5 := by kernel_rfl
@[go_sem] theorem byT110 : byT Tryz.prog 110 = 12 := by kernel_rfl
@[go_sem] theorem hasZ110 : hasZ Tryz.prog 110 = true := by kernel_rfl
@[go_sem] theorem bdZ110 : bsD.bdZ Tryz.prog 110 = true := by kernel_rfl
@[go_sem] theorem zcT110 : zcT Tryz.prog 110 = some (.agg [.int .u32 0, .int .i32 0, .int .u32 0]) := by kernel_rfl
@[go_sem] theorem bdT110 : bdT Tryz.prog 110 = some [.int .u32 0, .int .i32 0, .int .u32 0] := by kernel_rfl
@[go_sem] theorem ftT110_0 : ftT Tryz.prog 110 0 = some 100 := by kernel_rfl
@[go_sem] theorem plT110_1 : plT Tryz.prog 110 1 = some (0, 1) := by kernel_rfl
@[go_sem] theorem ftT110_1 : ftT Tryz.prog 110 1 = some 104 := by kernel_rfl
@[go_sem] theorem plT110_2 : plT Tryz.prog 110 2 = some (1, 2) := by kernel_rfl
@[go_sem] theorem ftT110_2 : ftT Tryz.prog 110 2 = some 108 := by kernel_rfl
@[go_sem] theorem szT112 : szT Tryz.prog 112 = 1 := by kernel_rfl
@[go_sem] theorem aggT112 : aggT Tryz.prog 112 = some false := by kernel_rfl
@[go_sem] theorem kdT112 : kdT Tryz.prog 112 = 8 := by kernel_rfl
@[go_sem] theorem byT112 : byT Tryz.prog 112 = 16 := by kernel_rfl
@[go_sem] theorem hasZ112 : hasZ Tryz.prog 112 = true := by kernel_rfl
@[go_sem] theorem bdZ112 : bsD.bdZ Tryz.prog 112 = true := by kernel_rfl
@[go_sem] theorem zcT112 : zcT Tryz.prog 112 = some (.nilif) := by kernel_rfl
@[go_sem] theorem szT114 : szT Tryz.prog 114 = 5 := by kernel_rfl
@[go_sem] theorem aggT114 : aggT Tryz.prog 114 = some true := by kernel_rfl
@[go_sem] theorem kdT114 : kdT Tryz.prog 114 = 5 := by kernel_rfl
@[go_sem] theorem byT114 : byT Tryz.prog 114 = 56 := by kernel_rfl
@[go_sem] theorem hasZ114 : hasZ Tryz.prog 114 = true := by kernel_rfl
@[go_sem] theorem bdZ114 : bsD.bdZ Tryz.prog 114 = true := by kernel_rfl
@[go_sem] theorem zcT114 : zcT Tryz.prog 114 = some (.agg [.int .u32 0, .int .i32 0, .int .u32 0, .nilif, .nils]) := by kernel_rfl
@[go_sem] theorem bdT114 : bdT Tryz.prog 114 = some [.int .u32 0, .int .i32 0, .int .u32 0, .nilif, .nils] := by kernel_rfl
@[go_sem] theorem plT114_0 : plT Tryz.prog 114 0 = some (0, 3) := by kernel_rfl
@[go_sem] theorem ftT114_0 : ftT Tryz.prog 114 0 = some 110 := by kernel_rfl
@[go_sem] theorem plT114_1 : plT Tryz.prog 114 1 = some (3, 1) := by kernel_rfl
@[go_sem] theorem ftT114_1 : ftT Tryz.prog 114 1 = some 112 := by kernel_rfl
@[go_sem] theorem plT114_2 : plT Tryz.prog 114 2 = some (4, 1) := by kernel_rfl
@[go_sem] theorem ftT114_2 : ftT Tryz.prog 114 2 = some 36 := by kernel_rfl
@[go_sem] theorem szT117 : szT Tryz.prog 117 = 1 := by kernel_rfl
@[go_sem] theorem aggT117 : aggT Tryz.prog 117 = some false := by kernel_rfl
@[go_sem] theorem kdT117 : kdT Tryz.prog 117 = 9 := by kernel_rfl
@[go_sem] theorem byT117 : byT Tryz.prog 117 = 8 := by kernel_rfl
@[go_sem] theorem hasZ117 : hasZ Tryz.prog 117 = true := by kernel_rfl
@[go_sem] theorem bdZ117 : bsD.bdZ Tryz.prog 117 = true := by kernel_rfl
@[go_sem] theorem zcT117 : zcT Tryz.prog 117 = some (.nilp) := by kernel_rfl
@[go_sem] theorem szT120 : szT Tryz.prog 120 = 1 := by kernel_rfl
@[go_sem] theorem aggT120 : aggT Tryz.prog 120 = some false := by kernel_rfl
@[go_sem] theorem kdT120 : kdT Tryz.prog 120 = 9 := by kernel_rfl
@[go_sem] theorem byT120 : byT Tryz.prog 120 = 8 := by kernel_rfl
@[go_sem] theorem hasZ120 : hasZ Tryz.prog 120 = true := by kernel_rfl
@[go_sem] theorem bdZ120 : bsD.bdZ Tryz.prog 120 = true := by kernel_rfl
@[go_sem] theorem zcT120 : zcT Tryz.prog 120 = some (.nilp) := by kernel_rfl
@[go_sem] theorem szT128 : szT Tryz.prog 128 = 1 := by kernel_rfl
@[go_sem] theorem aggT128 : aggT Tryz.prog 128 = some false := by kernel_rfl
@[go_sem] theorem kdT128 : kdT Tryz.prog 128 = 9 := by kernel_rfl
@[go_sem] theorem byT128 : byT Tryz.prog 128 = 8 := by kernel_rfl
@[go_sem] theorem hasZ128 : hasZ Tryz.prog 128 = true := by kernel_rfl
@[go_sem] theorem bdZ128 : bsD.bdZ Tryz.prog 128 = true := by kernel_rfl
@[go_sem] theorem zcT128 : zcT Tryz.prog 128 = some (.nilp) := by kernel_rfl
@[go_sem] theorem szT130 : szT Tryz.prog 130 = 256 := by kernel_rfl
@[go_sem] theorem aggT130 : aggT Tryz.prog 130 = some true := by kernel_rfl
@[go_sem] theorem kdT130 : kdT Tryz.prog 130 = 4 := by kernel_rfl
@[go_sem] theorem byT130 : byT Tryz.prog 130 = 256 := by kernel_rfl
@[go_sem] theorem hasZ130 : hasZ Tryz.prog 130 = true := by kernel_rfl
@[go_sem] theorem bdZ130 : bsD.bdZ Tryz.prog 130 = true := by kernel_rfl
@[go_sem] theorem elT130 : elT Tryz.prog 130 = some 5 := by kernel_rfl
@[go_sem] theorem lnT130 : lnT Tryz.prog 130 = some 256 := by kernel_rfl
@[go_sem] theorem plT130_0 : plT Tryz.prog 130 0 = some (0, 1) := by kernel_rfl
@[go_sem] theorem plT130_1 : plT Tryz.prog 130 1 = some (1, 1) := by kernel_rfl
@[go_sem] theorem plT130_2 : plT Tryz.prog 130 2 = some (2, 1) := by kernel_rfl
@[go_sem] theorem plT130_3 : plT Tryz.prog 130 3 = some (3, 1) := by kernel_rfl
@[go_sem] theorem plT130_4 : plT Tryz.prog 130 4 = some (4, 1) := by kernel_rfl
@[go_sem] theorem plT130_5 : plT Tryz.prog 130 5 = some (5, 1) := by kernel_rfl
@[go_sem] theorem plT130_6 : plT Tryz.prog 130 6 = some (6, 1) := by kernel_rfl
@[go_sem] theorem plT130_7 : plT Tryz.prog 130 7 = some (7, 1) := by kernel_rfl
@[go_sem] theorem plT130_8 : plT Tryz.prog 130 8 = some (8, 1) := by kernel_rfl
@[go_sem] theorem plT130_9 : plT Tryz.prog 130 9 = some (9, 1) := by kernel_rfl
@[go_sem] theorem plT130_10 : plT Tryz.prog 130 10 = some (10, 1) := by kernel_rfl
@[go_sem] theorem plT130_11 : plT Tryz.prog 130 11 = some (11, 1) := by kernel_rfl
@[go_sem] theorem szT137 : szT Tryz.prog 137 = 1 := by kernel_rfl
@[go_sem] theorem aggT137 : aggT Tryz.prog 137 = some false := by kernel_rfl
@[go_sem] theorem kdT137 : kdT Tryz.prog 137 = 9 := by kernel_rfl
@[go_sem] theorem byT137 : byT Tryz.prog 137 = 8 := by kernel_rfl
@[go_sem] theorem hasZ137 : hasZ Tryz.prog 137 = true := by kernel_rfl
@[go_sem] theorem bdZ137 : bsD.bdZ Tryz.prog 137 = true := by kernel_rfl
@[go_sem] theorem zcT137 : zcT Tryz.prog 137 = some (.nilp) := by kernel_rfl
@[go_sem] theorem szT139 : szT Tryz.prog 139 = 1 := by kernel_rfl
@[go_sem] theorem aggT139 : aggT Tryz.prog 139 = some false := by kernel_rfl
@[go_sem] theorem kdT139 : kdT Tryz.prog 139 = 9 := by kernel_rfl
@[go_sem] theorem byT139 : byT Tryz.prog 139 = 8 := by kernel_rfl
@[go_sem] theorem hasZ139 : hasZ Tryz.prog 139 = true := by kernel_rfl
@[go_sem] theorem bdZ139 : bsD.bdZ Tryz.prog 139 = true := by kernel_rfl
@[go_sem] theorem zcT139 : zcT Tryz.prog 139 = some (.nilp) := by kernel_rfl
@[go_sem] theorem szT141 : szT Tryz.prog 141 = 1 := by kernel_rfl
@[go_sem] theorem aggT141 : aggT Tryz.prog 141 = some false := by kernel_rfl
@[go_sem] theorem kdT141 : kdT Tryz.prog 141 = 9 := by kernel_rfl
@[go_sem] theorem byT141 : byT Tryz.prog 141 = 8 := by kernel_rfl
@[go_sem] theorem hasZ141 : hasZ Tryz.prog 141 = true := by kernel_rfl
@[go_sem] theorem bdZ141 : bsD.bdZ Tryz.prog 141 = true := by kernel_rfl
@[go_sem] theorem zcT141 : zcT Tryz.prog 141 = some (.nilp) := by kernel_rfl
@[go_sem] theorem szT143 : szT Tryz.prog 143 = 256 := by kernel_rfl
@[go_sem] theorem aggT143 : aggT Tryz.prog 143 = some true := by kernel_rfl
@[go_sem] theorem kdT143 : kdT Tryz.prog 143 = 4 := by kernel_rfl
@[go_sem] theorem byT143 : byT Tryz.prog 143 = 256 := by kernel_rfl
@[go_sem] theorem hasZ143 : hasZ Tryz.prog 143 = true := by kernel_rfl
@[go_sem] theorem bdZ143 : bsD.bdZ Tryz.prog 143 = true := by kernel_rfl
@[go_sem] theorem elT143 : elT Tryz.prog 143 = some 5 := by kernel_rfl
@[go_sem] theorem lnT143 : lnT Tryz.prog 143 = some 256 := by kernel_rfl
@[go_sem] theorem plT143_0 : plT Tryz.prog 143 0 = some (0, 1) := by kernel_rfl
@[go_sem] theorem plT143_1 : plT Tryz.prog 143 1 = some (1, 1) := by kernel_rfl
@[go_sem] theorem plT143_2 : plT Tryz.prog 143 2 = some (2, 1) := by kernel_rfl
@[go_sem] theorem plT143_3 : plT Tryz.prog 143 3 = some (3, 1) := by kernel_rfl
@[go_sem] theorem plT143_4 : plT Tryz.prog 143 4 = some (4, 1) := by kernel_rfl
@[go_sem] theorem plT143_5 : plT Tryz.prog 143 5 = some (5, 1) := by kernel_rfl
@[go_sem] theorem plT143_6 : plT Tryz.prog 143 6 = some (6, 1) := by kernel_rfl
@[go_sem] theorem plT143_7 : plT Tryz.prog 143 7 = some (7, 1) := by kernel_rfl
@[go_sem] theorem plT143_8 : plT Tryz.prog 143 8 = some (8, 1) := by kernel_rfl
@[go_sem] theorem plT143_9 : plT Tryz.prog 143 9 = some (9, 1) := by kernel_rfl
@[go_sem] theorem plT143_10 : plT Tryz.prog 143 10 = some (10, 1) := by kernel_rfl
@[go_sem] theorem plT143_11 : plT Tryz.prog 143 11 = some (11, 1) := by kernel_rfl
@[go_sem] theorem szT144 : szT Tryz.prog 144 = 1 := by kernel_rfl
@[go_sem] theorem aggT144 : aggT Tryz.prog 144 = some false := by kernel_rfl
@[go_sem] theorem kdT144 : kdT Tryz.prog 144 = 9 := by kernel_rfl
@[go_sem] theorem byT144 : byT Tryz.prog 144 = 8 := by kernel_rfl
@[go_sem] theorem hasZ144 : hasZ Tryz.prog 144 = true := by kernel_rfl
@[go_sem] theorem bdZ144 : bsD.bdZ Tryz.prog 144 = true := by kernel_rfl
@[go_sem] theorem zcT144 : zcT Tryz.prog 144 = some (.nilp) := by kernel_rfl
@[go_sem] theorem szT145 : szT Tryz.prog 145 = 256 := by kernel_rfl
@[go_sem] theorem aggT145 : aggT Tryz.prog 145 = some true := by kernel_rfl
@[go_sem] theorem kdT145 : kdT Tryz.prog 145 = 4 := by kernel_rfl
@[go_sem] theorem byT145 : byT Tryz.prog 145 = 6144 := by kernel_rfl
@[go_sem] theorem hasZ145 : hasZ Tryz.prog 145 = true := by kernel_rfl
@[go_sem] theorem bdZ145 : bsD.bdZ Tryz.prog 145 = true := by kernel_rfl
@[go_sem] theorem elT145 : elT Tryz.prog 145 = some 57 := by kernel_rfl
@[go_sem] theorem lnT145 : lnT Tryz.prog 145 = some 256 := by kernel_rfl
@[go_sem] theorem plT145_0 : plT Tryz.prog 145 0 = some (0, 1) := by kernel_rfl
@[go_sem] theorem plT145_1 : plT Tryz.prog 145 1 = some (1, 1) := by kernel_rfl
@[go_sem] theorem plT145_2 : plT Tryz.prog 145 2 = some (2, 1) := by kernel_rfl
@[go_sem] theorem plT145_3 : plT Tryz.prog 145 3 = some (3, 1) := by kernel_rfl
@[go_sem] theorem plT145_4 : plT Tryz.prog 145 4 = some (4, 1) := by kernel_rfl
@[go_sem] theorem plT145_5 : plT Tryz.prog 145 5 = some (5, 1) := by kernel_rfl
@[go_sem] theorem plT145_6 : plT Tryz.prog 145 6 = some (6, 1) := by kernel_rfl
@[go_sem] theorem plT145_7 : plT Tryz.prog 145 7 = some (7, 1) := by kernel_rfl
@[go_sem] theorem plT145_8 : plT Tryz.prog 145 8 = some (8, 1) := by kernel_rfl
@[go_sem] theorem plT145_9 : plT Tryz.prog 145 9 = some (9, 1) := by kernel_rfl
@[go_sem] theorem plT145_10 : plT Tryz.prog 145 10 = some (10, 1) := by kernel_rfl
@[go_sem] theorem plT145_11 : plT Tryz.prog 145 11 = some (11, 1) := by kernel_rfl
@[go_sem] theorem szT147 : szT Tryz.prog 147 = 257 := by kernel_rfl
@[go_sem] theorem aggT147 : aggT Tryz.prog 147 = some true := by kernel_rfl
@[go_sem] theorem kdT147 : kdT Tryz.prog 147 = 5 := by kernel_rfl
@[go_sem] theorem byT147 : byT Tryz.prog 147 = 6168 := by kernel_rfl
@[go_sem] theorem hasZ147 : hasZ Tryz.prog 147 = true := by kernel_rfl
@[go_sem] theorem bdZ147 : bsD.bdZ Tryz.prog 147 = true := by kernel_rfl
@[go_sem] theorem plT147_0 : plT Tryz.prog 147 0 = some (0, 256) := by kernel_rfl
@[go_sem] theorem ftT147_0 : ftT Tryz.prog 147 0 = some 145 := by kernel_rfl
@[go_sem] theorem plT147_1 : plT Tryz.prog 147 1 = some (256, 1) := by kernel_rfl
@[go_sem] theorem ftT147_1 : ftT Tryz.prog 147 1 = some 36 := by kernel_rfl
@[go_sem] theorem szT148 : szT Tryz.prog 148 = 1 := by kernel_rfl
@[go_sem] theorem aggT148 : aggT Tryz.prog 148 = some false := by kernel_rfl
@[go_sem] theorem kdT148 : kdT Tryz.prog 148 = 9 := by kernel_rfl
@[go_sem] theorem byT148 : byT Tryz.prog 148 = 8 := by kernel_rfl
@[go_sem] theorem hasZ148 : hasZ Tryz.prog 148 = true := by kernel_rfl
@[go_sem] theorem bdZ148 : bsD.bdZ Tryz.prog 148 = true := by kernel_rfl
@[go_sem] theorem zcT148 : zcT Tryz.prog 148 = some (.nilp) := by kernel_rfl
@[go_sem] theorem szT163 : szT Tryz.prog 163 = 1 := by kernel_rfl
@[go_sem] theorem aggT163 : aggT Tryz.prog 163 = some false := by kernel_rfl
@[go_sem] theorem kdT163 : kdT Tryz.prog 163 = 9 := by kernel_rfl
@[go_sem] theorem byT163 : byT Tryz.prog 163 = 8 := by kernel_rfl
@[go_sem] theorem hasZ163 : hasZ Tryz.prog 163 = true := by kernel_rfl
@[go_sem] theorem bdZ163 : bsD.bdZ Tryz.prog 163 = true := by kernel_rfl
@[go_sem] theorem zcT163 : zcT Tryz.prog 163 = some (.nilp) := by kernel_rfl
@[go_sem] theorem szT164 : szT Tryz.prog 164 = 1 := by kernel_rfl
@[go_sem] theorem aggT164 : aggT Tryz.prog 164 = some false := by kernel_rfl
@[go_sem] theorem kdT164 : kdT Tryz.prog 164 = 1 := by kernel_rfl
@[go_sem] theorem byT164 : byT Tryz.prog 164 = 24 := by kernel_rfl
@[go_sem] theorem hasZ164 : hasZ Tryz.prog 164 = true := by kernel_rfl
@[go_sem] theorem bdZ164 : bsD.bdZ Tryz.prog 164 = true := by kernel_rfl
@[go_sem] theorem elT164 : elT Tryz.prog 164 = some 163 := by kernel_rfl
@[go_sem] theorem zcT164 : zcT Tryz.prog 164 = some (.nils) := by kernel_rfl
@[go_sem] theorem szT166 : szT Tryz.prog 166 = 5 := by kernel_rfl
@[go_sem] theorem aggT166 : aggT Tryz.prog 166 = some true := by kernel_rfl
@[go_sem] theorem kdT166 : kdT Tryz.prog 166 = 5 := by kernel_rfl
@[go_sem] theorem byT166 : byT Tryz.prog 166 = 72 := by kernel_rfl
@[go_sem] theorem hasZ166 : hasZ Tryz.prog 166 = true := by kernel_rfl
@[go_sem] theorem bdZ166 : bsD.bdZ Tryz.prog 166 = true := by kernel_rfl
@[go_sem] theorem zcT166 : zcT Tryz.prog 166 = some (.agg [.str ByteArray.empty, .int .i64 0, .str ByteArray.empty, .nilp, .nils]) := by kernel_rfl
@[go_sem] theorem bdT166 : bdT Tryz.prog 166 = some [.str ByteArray.empty, .int .i64 0, .str ByteArray.empty, .nilp, .nils] := by kernel_rfl
@[go_sem] theorem plT166_0 : plT Tryz.prog 166 0 = some (0, 1) := by kernel_rfl
@[go_sem] theorem ftT166_0 : ftT Tryz.prog 166 0 = some 9 := by kernel_rfl
@[go_sem] theorem plT166_1 : plT Tryz.prog 166 1 = some (1, 1) := by kernel_rfl
@[go_sem] theorem ftT166_1 : ftT Tryz.prog 166 1 = some 3 := by kernel_rfl
@[go_sem] theorem plT166_2 : plT Tryz.prog 166 2 = some (2, 1) := by kernel_rfl
@[go_sem] theorem ftT166_2 : ftT Tryz.prog 166 2 = some 9 := by kernel_rfl
@[go_sem] theorem plT166_3 : plT Tryz.prog 166 3 = some (3, 1) := by kernel_rfl
@[go_sem] theorem ftT166_3 : ftT Tryz.prog 166 3 = some 163 := by kernel_rfl
@[go_sem] theorem plT166_4 : plT Tryz.prog 166 4 = some (4, 1) := by kernel_rfl
@[go_sem] theorem ftT166_4 : ftT Tryz.prog 166 4 = some 164 := by kernel_rfl
@[go_sem] theorem szT168 : szT Tryz.prog 168 = 262 := by kernel_rfl
@[go_sem] theorem aggT168 : aggT Tryz.prog 168 = some true := by kernel_rfl
@[go_sem] theorem kdT168 : kdT Tryz.prog 168 = 5 := by kernel_rfl
@[go_sem] theorem byT168 : byT Tryz.prog 168 = 336 := by kernel_rfl
@[go_sem] theorem hasZ168 : hasZ Tryz.prog 168 = true := by kernel_rfl
@[go_sem] theorem bdZ168 : bsD.bdZ Tryz.prog 168 = true := by kernel_rfl
@[go_sem] theorem plT168_0 : plT Tryz.prog 168 0 = some (0, 5) := by kernel_rfl
@[go_sem] theorem ftT168_0 : ftT Tryz.prog 168 0 = some 166 := by kernel_rfl
@[go_sem] theorem plT168_1 : plT Tryz.prog 168 1 = some (5, 1) := by kernel_rfl
@[go_sem] theorem ftT168_1 : ftT Tryz.prog 168 1 = some 3 := by kernel_rfl
@[go_sem] theorem plT168_2 : plT Tryz.prog 168 2 = some (6, 256) := by kernel_rfl
@[go_sem] theorem ftT168_2 : ftT Tryz.prog 168 2 = some 130 := by kernel_rfl
@[go_sem] theorem szT171 : szT Tryz.prog 171 = 1 := by kernel_rfl
@[go_sem] theorem aggT171 : aggT Tryz.prog 171 = some false := by kernel_rfl
@[go_sem] theorem kdT171 : kdT Tryz.prog 171 = 9 := by kernel_rfl
@[go_sem] theorem byT171 : byT Tryz.prog 171 = 8 := by kernel_rfl
@[go_sem] theorem hasZ171 : hasZ Tryz.prog 171 = true := by kernel_rfl
@[go_sem] theorem bdZ171 : bsD.bdZ Tryz.prog 171 = true := by kernel_rfl
@[go_sem] theorem zcT171 : zcT Tryz.prog 171 = some (.nilp) := by kernel_rfl
@[go_sem] theorem szT173 : szT Tryz.prog 173 = 1 := by kernel_rfl
@[go_sem] theorem aggT173 : aggT Tryz.prog 173 = some false := by kernel_rfl
@[go_sem] theorem kdT173 : kdT Tryz.prog 173 = 9 := by kernel_rfl
@[go_sem] theorem byT173 : byT Tryz.prog 173 = 8 := by kernel_rfl
@[go_sem] theorem hasZ173 : hasZ Tryz.prog 173 = true := by kernel_rfl
@[go_sem] theorem bdZ173 : bsD.bdZ Tryz.prog 173 = true := by kernel_rfl
@[go_sem] theorem zcT173 : zcT Tryz.prog 173 = some (.nilp) := by kernel_rfl
@[go_sem] theorem szT201 : szT Tryz.prog 201 = 1 := by kernel_rfl
@[go_sem] theorem aggT201 : aggT Tryz.prog 201 = some false := by kernel_rfl
@[go_sem] theorem kdT201 : kdT Tryz.prog 201 = 1 := by kernel_rfl
@[go_sem] theorem byT201 : byT Tryz.prog 201 = 24 := by kernel_rfl
@[go_sem] theorem hasZ201 : hasZ Tryz.prog 201 = true := by kernel_rfl
@[go_sem] theorem bdZ201 : bsD.bdZ Tryz.prog 201 = true := by kernel_rfl
@[go_sem] theorem elT201 : elT Tryz.prog 201 = some 5 := by kernel_rfl
@[go_sem] theorem zcT201 : zcT Tryz.prog 201 = some (.nils) := by kernel_rfl
@[go_sem] theorem szT202 : szT Tryz.prog 202 = 1 := by kernel_rfl
@[go_sem] theorem aggT202 : aggT Tryz.prog 202 = some false := by kernel_rfl
@[go_sem] theorem kdT202 : kdT Tryz.prog 202 = 9 := by kernel_rfl
@[go_sem] theorem byT202 : byT Tryz.prog 202 = 8 := by kernel_rfl
@[go_sem] theorem hasZ202 : hasZ Tryz.prog 202 = true := by kernel_rfl
@[go_sem] theorem bdZ202 : bsD.bdZ Tryz.prog 202 = true := by kernel_rfl
@[go_sem] theorem zcT202 : zcT Tryz.prog 202 = some (.nilp) := by kernel_rfl
@[go_sem] theorem szT204 : szT Tryz.prog 204 = 1 := by kernel_rfl
@[go_sem] theorem aggT204 : aggT Tryz.prog 204 = some false := by kernel_rfl
@[go_sem] theorem kdT204 : kdT Tryz.prog 204 = 8 := by kernel_rfl
@[go_sem] theorem byT204 : byT Tryz.prog 204 = 16 := by kernel_rfl
@[go_sem] theorem hasZ204 : hasZ Tryz.prog 204 = true := by kernel_rfl
@[go_sem] theorem bdZ204 : bsD.bdZ Tryz.prog 204 = true := by kernel_rfl
@[go_sem] theorem zcT204 : zcT Tryz.prog 204 = some (.nilif) := by kernel_rfl
@[go_sem] theorem szT212 : szT Tryz.prog 212 = 1 := by kernel_rfl
@[go_sem] theorem aggT212 : aggT Tryz.prog 212 = some true := by kernel_rfl
@[go_sem] theorem kdT212 : kdT Tryz.prog 212 = 5 := by kernel_rfl
@[go_sem] theorem byT212 : byT Tryz.prog 212 = 16 := by kernel_rfl
@[go_sem] theorem hasZ212 : hasZ Tryz.prog 212 = true := by kernel_rfl
@[go_sem] theorem bdZ212 : bsD.bdZ Tryz.prog 212 = true := by kernel_rfl
@[go_sem] theorem zcT212 : zcT Tryz.prog 212 = some (.agg [.nilif]) := by kernel_rfl
@[go_sem] theorem bdT212 : bdT Tryz.prog 212 = some [.nilif] := by kernel_rfl
@[go_sem] theorem plT212_0 : plT Tryz.prog 212 0 = some (0, 1) := by kernel_rfl
@[go_sem] theorem ftT212_0 : ftT Tryz.prog 212 0 = some 204 := by kernel_rfl

instance : Inhabited ByteArray := ⟨ByteArray.empty⟩
@[go_sem] def eList {α : Type} [Inhabited α] (es : Nat) (f : α → SD) (l : List α) : SD := .list es l.length fun i => f (l.getD i default)
@[go_sem] def eInt (x : Int) : SD := .int .i64 x
@[go_sem] def eStr (x : ByteArray) : SD := .str x
@[go_sem] def ints (l : List Int) : SD := eList 1 eInt l
@[go_sem] def strs (l : List ByteArray) : SD := eList 1 eStr l
/-! ### The disk and the log -/
structure Dk where (t : ByteArray) (p : Int) (off counts : Bool) (after : Int)
@[go_sem] def eDk (d : Dk) : OB := .var [.str d.t, .int .i64 d.p, .bool d.off, .bool d.counts, .int .i64 d.after]
structure Lg where (n : Int) (broken : Bool)
@[go_sem] def eLg (k : Nat) (l : Lg) : OB := .var [.loc k 0, .int .i64 l.n, .bool l.broken]
end Go.Sx

/-! LB: strings as lists of bytes. -/
namespace Go.Sx
open Go.RowKit
abbrev B (l : List UInt8) : ByteArray := ⟨l.toArray⟩
abbrev L (s : ByteArray) : List UInt8 := s.data.toList
theorem L_B (l : List UInt8) : L (B l) = l := rfl
theorem B_L (s : ByteArray) : B (L s) = s := rfl
theorem L_inj {a b : ByteArray} (h : L a = L b) : a = b := by rw [← B_L a, ← B_L b, h]
theorem L_append (a b : ByteArray) : L (a ++ b) = L a ++ L b := by simp [L, ByteArray.data_append]
theorem B_append (a b : List UInt8) : B a ++ B b = B (a ++ b) := L_inj (by rw [L_append])
theorem size_L (s : ByteArray) : s.size = (L s).length := by show s.data.size = s.data.toList.length; rw [Array.length_toList]
theorem L_extract (s : ByteArray) (a b : Nat) : L (s.extract a b) = ((L s).drop a).take (b - a) := by
  simp [L, ByteArray.data_extract, List.extract_eq_take_drop]
theorem extract_min (s : ByteArray) (k : Nat) : s.extract 0 (if (k : Int) < (s.size : Int) then (k : Int) else (s.size : Int)).toNat = s.extract 0 k := by
  apply L_inj
  rw [L_extract, L_extract, size_L]
  split
  · simp only [List.drop_zero, Nat.sub_zero, Int.toNat_natCast]
  · rename_i h
    simp only [List.drop_zero, Nat.sub_zero, Int.toNat_natCast]
    rw [List.take_of_length_le (Nat.le_refl _), List.take_of_length_le (by omega)]
@[go_sem] theorem wrapLit (n : Nat) (h : n ≤ 4611686018427387904) : IntKind.i64.wrap (no_index (OfNat.ofNat n)) = OfNat.ofNat n := by
  have : IntKind.i64.wrap ((n : Int)) = (n : Int) := by rw [w64]; omega
  exact this
@[go_sem] theorem wrapNeg (n : Nat) (h : n ≤ 4611686018427387904) : IntKind.i64.wrap (-(no_index (OfNat.ofNat n))) = -(OfNat.ofNat n) := by
  have : IntKind.i64.wrap (-(n : Int)) = -(n : Int) := by rw [w64]; omega
  exact this
theorem drop8 (l : List UInt8) (k : Nat) (h : k < l.length) : l.drop k = l.getD k 0 :: l.drop (k + 1) := drop_get l k h
theorem size_mk (a : Array UInt8) : ByteArray.size ⟨a⟩ = a.size := rfl
open Go.Proofs
theorem tU57 : Tryz.prog.underlying 57 = some (.slice 5) := by kernel_rfl
theorem tU201 : Tryz.prog.underlying 201 = some (.slice 5) := by kernel_rfl
theorem tU9 : Tryz.prog.underlying 9 = some .string := by kernel_rfl
theorem tU5 : Tryz.prog.underlying 5 = some (.int .u8) := by kernel_rfl
attribute [go_sem] Option.toList_some Option.toList_none Int.reduceToNat Int.reduceSub Int.reduceAdd Int.reduceLE Int.reduceLT Int.reduceGE Int.reduceGT Int.reduceNeg Int.reduceMul
end Go.Sx
