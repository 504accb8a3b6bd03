/- Part of the proofs that the laws of the journal return true for every input: Lm. -/
import Derived.Test.YtiddnjgnjmdobaaGreatDoorS3
import Derived.Test.YtiddnjgnjmdobaaGreatDoorChecked
import Derived.Lib.Bytealg
set_option linter.unusedVariables false
set_option linter.unusedSimpArgs false
set_option linter.all false
/-! Lm: methods; what the model stands in for. -/
namespace Go.Sx
open Go.Proofs
theorem meth_of {tx f : Nat} {name : String} (h1 : ∀ (a : Addr) (w : World), (method (Tryz.prog.types.size + Made.depth) tx (.pointer (some a)) name).run Tryz.prog w = .ok (f, .pointer (some a)) w) (h2 : ∀ args w, (callFunc f args).run Tryz.prog w = .ok (.enter f args) w) : MethP Tryz.prog tx name f := fun a args w => by
  simp only [callMethod, Sem.run_bind, run_program, Result.andThen_ok, h1, h2]
theorem meth148 : MethP Tryz.prog 148 "Replace" 161 := meth_of (fun _ _ => by kernel_rfl) Tryz.call161
theorem meth141 : MethP Tryz.prog 141 "Replace" 155 := meth_of (fun _ _ => by kernel_rfl) Tryz.call155
theorem meth202 : MethP Tryz.prog 202 "WriteString" 165 := meth_of (fun _ _ => by kernel_rfl) Tryz.call165
theorem ext80 (s : ByteArray) (c : UInt8) (w : World) : (callFunc 80 #[.string s, .int .u8 (c.toNat : Int)]).run Tryz.prog w = .ok (.value (.int .i64 (s.data.toList.count c : Nat))) w := by
  rw [run_callFunc_extern Tryz.func80 (by kernel_rfl) (by kernel_rfl) (by kernel_rfl) (e := Extern.BytealgCount.count) (by kernel_rfl), Lib.run_countString]
  simp [Result.andThen, Lib.countByte]
theorem ext104 (s : ByteArray) (c : UInt8) (w : World) : (callFunc 104 #[.string s, .int .u8 (c.toNat : Int)]).run Tryz.prog w = .ok (.value (.int .i64 (Lib.indexByte s.data.toList c))) w := by
  rw [run_callFunc_extern Tryz.func104 (by kernel_rfl) (by kernel_rfl) (by kernel_rfl) (e := Extern.BytealgIndexByte.indexByte) (by kernel_rfl), Lib.run_indexByteString]
  simp [Result.andThen]
end Go.Sx
