/-
  No cell of these rows narrows 'for every input' (looked for: loops, veiled, ifaces, maps, wideKeys, modest, calm, conditions, laid).
  DERIVED. THE GIVEN ROWS OF THIS SEAT. 4 by the template 'for every input the law returns true; each argument reads behind the call as it read before'; 0 by the template 'total and deterministic' (their statements: YtmbocmonhcplhaaGreatTotals.lean).
  GIVEN WITH THE SEED: the statements are not yours to turn. If you find one false, say at which input.
  Laid BY PROGRAM, IN A SANDBOX (cutbox-rows.mjs): the forced cells as the released guide's own fill.sh prints them over the translation b147acdf23be73bc… (all of the seat's roots in one cut). By AI agents, Wed Nov 11 2026. No macro, syntax, notation, axiom, sorry.
-/
import Derived.Test.YtmbocmonhcplhaaGreatChecked
import GoSem.Claim
import GoSem.ClaimJoined
import GoSem.ClaimMapViews
import Derived.JoinedTies
import Derived.KernelRfl
namespace Go.Proofs.YtmbocmonhcplhaaGreat
/- THE CELL 'sum', in the pinned program and in every row, IS THE sha256 OF THE DUMP (.gsa) THAT YtmbocmonhcplhaaGreatProg.lean LOADS. Nothing in Lean hashes anything: it is a label: what it is worth is what the hold of that sum in a sandbox is worth. -/
noncomputable def Tryz.pinned : Pinned := { name := "ytmbocmonhcplhaagreat", sum := "b147acdf23be73bc7f6d64ec99de0bd13838e75a632f9ed8361ea02c27db6ddd", checked := Tryz.checked }
namespace Rows
def none {H : Type} : Left H := { results := [], args := [] }

/-- 'quadriviumlaw39.JudgePossible': WHATEVER THE INPUT: true; the input reads as it did. -/
def judgePossibleSpec : ChangeSpec := { name := "judgePossible", fn := fun _ => fun
  | [d] => { results := [.lit (.bool true)], args := [d] }
  | _ => none }
def judgePossibleRow : OpenClaim := { program := "ytmbocmonhcplhaagreat", sum := "b147acdf23be73bc7f6d64ec99de0bd13838e75a632f9ed8361ea02c27db6ddd", func := "quadrivium/quadriviumlaw39.JudgePossible", spec := "judgePossible", unfollowed := true, recurses := true, apart := false }
def JudgePossibleSaid : Prop := judgePossibleRow.holds Tryz.pinned (OpenSpec.ofChange judgePossibleSpec)

/-- ITS FALSE NEIGHBOUR: 'it returns false'. Refute it at one input. -/
def judgePossibleWrong : ChangeSpec := { name := "judgePossible", fn := fun _ => fun
  | [d] => { results := [.lit (.bool false)], args := [d] }
  | _ => none }
def JudgePossibleWrongFalsely : Prop := judgePossibleRow.holds Tryz.pinned (OpenSpec.ofChange judgePossibleWrong)

/-- 'quadriviumlaw39.JudgeDerives': WHATEVER THE INPUT: true; the input reads as it did. -/
def judgeDerivesSpec : ChangeSpec := { name := "judgeDerives", fn := fun _ => fun
  | [d1, d2] => { results := [.lit (.bool true)], args := [d1, d2] }
  | _ => none }
def judgeDerivesRow : OpenClaim := { program := "ytmbocmonhcplhaagreat", sum := "b147acdf23be73bc7f6d64ec99de0bd13838e75a632f9ed8361ea02c27db6ddd", func := "quadrivium/quadriviumlaw39.JudgeDerives", spec := "judgeDerives", unfollowed := true, recurses := true, apart := false }
def JudgeDerivesSaid : Prop := judgeDerivesRow.holds Tryz.pinned (OpenSpec.ofChange judgeDerivesSpec)

/-- ITS FALSE NEIGHBOUR: 'it returns false'. Refute it at one input. -/
def judgeDerivesWrong : ChangeSpec := { name := "judgeDerives", fn := fun _ => fun
  | [d1, d2] => { results := [.lit (.bool false)], args := [d1, d2] }
  | _ => none }
def JudgeDerivesWrongFalsely : Prop := judgeDerivesRow.holds Tryz.pinned (OpenSpec.ofChange judgeDerivesWrong)

/-- 'quadriviumlaw39.JudgeAgrees': WHATEVER THE INPUT: true; the input reads as it did. -/
def judgeAgreesSpec : ChangeSpec := { name := "judgeAgrees", fn := fun _ => fun
  | [d] => { results := [.lit (.bool true)], args := [d] }
  | _ => none }
def judgeAgreesRow : OpenClaim := { program := "ytmbocmonhcplhaagreat", sum := "b147acdf23be73bc7f6d64ec99de0bd13838e75a632f9ed8361ea02c27db6ddd", func := "quadrivium/quadriviumlaw39.JudgeAgrees", spec := "judgeAgrees", unfollowed := true, recurses := true, apart := false }
def JudgeAgreesSaid : Prop := judgeAgreesRow.holds Tryz.pinned (OpenSpec.ofChange judgeAgreesSpec)

/-- ITS FALSE NEIGHBOUR: 'it returns false'. Refute it at one input. -/
def judgeAgreesWrong : ChangeSpec := { name := "judgeAgrees", fn := fun _ => fun
  | [d] => { results := [.lit (.bool false)], args := [d] }
  | _ => none }
def JudgeAgreesWrongFalsely : Prop := judgeAgreesRow.holds Tryz.pinned (OpenSpec.ofChange judgeAgreesWrong)

/-- 'quadriviumlaw39.JudgePlans': WHATEVER THE INPUT: true; the input reads as it did. -/
def judgePlansSpec : ChangeSpec := { name := "judgePlans", fn := fun _ => fun
  | [d] => { results := [.lit (.bool true)], args := [d] }
  | _ => none }
def judgePlansRow : OpenClaim := { program := "ytmbocmonhcplhaagreat", sum := "b147acdf23be73bc7f6d64ec99de0bd13838e75a632f9ed8361ea02c27db6ddd", func := "quadrivium/quadriviumlaw39.JudgePlans", spec := "judgePlans", inPlace := ["internal/bytealg.abigen_runtime_cmpstring"], unfollowed := true, recurses := true, apart := false }
def JudgePlansSaid : Prop := judgePlansRow.holds Tryz.pinned (OpenSpec.ofChange judgePlansSpec)

/-- ITS FALSE NEIGHBOUR: 'it returns false'. Refute it at one input. -/
def judgePlansWrong : ChangeSpec := { name := "judgePlans", fn := fun _ => fun
  | [d] => { results := [.lit (.bool false)], args := [d] }
  | _ => none }
def JudgePlansWrongFalsely : Prop := judgePlansRow.holds Tryz.pinned (OpenSpec.ofChange judgePlansWrong)

/- THE SECOND FORM. 'bulk': how many values and letters a reading holds, each counted each time it is reached (what is shared counts as often as it is met; a slice's spare places count too). A statement '..UptoSaid' is the law's where the arguments, and the package variables that the reading takes, are together of bulk at most 1048576: NARROWER than '..Said'. Prove '..Said' where nothing that the law and all that it calls make is longer than what came in: it says more and counts as full. Else prove '..UptoSaid'. A law counts once. -/
mutual
def uptoBulk {H : Type} : DataW H → Nat
  | .lit (.string bytes) => bytes.length + 1
  | .lit _ => 1
  | .nil => 1
  | .ptr d => uptoBulk d + 1
  | .slice elems spare => uptoBulkAll elems + uptoBulkAll spare + 1
  | .agg parts => uptoBulkAll parts + 1
  | .iface _ d => uptoBulk d + 1
  | .map entries => uptoBulkEntries entries + 1
  | .held _ => 1
def uptoBulkAll {H : Type} : List (DataW H) → Nat
  | [] => 0
  | d :: r => uptoBulk d + uptoBulkAll r
def uptoBulkEntries {H : Type} : List (Lit × DataW H) → Nat
  | [] => 0
  | x :: r => uptoBulkEntry x + uptoBulkEntries r
def uptoBulkEntry {H : Type} : Lit × DataW H → Nat
  | (.string bytes, d) => bytes.length + uptoBulk d + 1
  | (_, d) => uptoBulk d + 1
 end
def uptoSmall : (H : Type) → List (DataW H) → Bool := fun _ ds => decide (uptoBulkAll ds ≤ 1048576)
def OpenSpec.upto (s : _root_.Go.ChangeSpec) : _root_.Go.OpenSpec := { _root_.Go.OpenSpec.ofChange s with cond := some uptoSmall }

/-- 'quadriviumlaw39.JudgePossible', WHERE WHAT IT READS IS OF BULK AT MOST 1048576: true; the input reads as it did. -/
def judgePossibleUptoRow : OpenClaim := { program := "ytmbocmonhcplhaagreat", sum := "b147acdf23be73bc7f6d64ec99de0bd13838e75a632f9ed8361ea02c27db6ddd", func := "quadrivium/quadriviumlaw39.JudgePossible", spec := "judgePossible", unfollowed := true, recurses := true, apart := false, narrowed := true }
def JudgePossibleUptoSaid : Prop := judgePossibleUptoRow.holds Tryz.pinned (OpenSpec.upto judgePossibleSpec)

/-- 'quadriviumlaw39.JudgeDerives', WHERE WHAT IT READS IS OF BULK AT MOST 1048576: true; the input reads as it did. -/
def judgeDerivesUptoRow : OpenClaim := { program := "ytmbocmonhcplhaagreat", sum := "b147acdf23be73bc7f6d64ec99de0bd13838e75a632f9ed8361ea02c27db6ddd", func := "quadrivium/quadriviumlaw39.JudgeDerives", spec := "judgeDerives", unfollowed := true, recurses := true, apart := false, narrowed := true }
def JudgeDerivesUptoSaid : Prop := judgeDerivesUptoRow.holds Tryz.pinned (OpenSpec.upto judgeDerivesSpec)

/-- 'quadriviumlaw39.JudgeAgrees', WHERE WHAT IT READS IS OF BULK AT MOST 1048576: true; the input reads as it did. -/
def judgeAgreesUptoRow : OpenClaim := { program := "ytmbocmonhcplhaagreat", sum := "b147acdf23be73bc7f6d64ec99de0bd13838e75a632f9ed8361ea02c27db6ddd", func := "quadrivium/quadriviumlaw39.JudgeAgrees", spec := "judgeAgrees", unfollowed := true, recurses := true, apart := false, narrowed := true }
def JudgeAgreesUptoSaid : Prop := judgeAgreesUptoRow.holds Tryz.pinned (OpenSpec.upto judgeAgreesSpec)

/-- 'quadriviumlaw39.JudgePlans', WHERE WHAT IT READS IS OF BULK AT MOST 1048576: true; the input reads as it did. -/
def judgePlansUptoRow : OpenClaim := { program := "ytmbocmonhcplhaagreat", sum := "b147acdf23be73bc7f6d64ec99de0bd13838e75a632f9ed8361ea02c27db6ddd", func := "quadrivium/quadriviumlaw39.JudgePlans", spec := "judgePlans", inPlace := ["internal/bytealg.abigen_runtime_cmpstring"], unfollowed := true, recurses := true, apart := false, narrowed := true }
def JudgePlansUptoSaid : Prop := judgePlansUptoRow.holds Tryz.pinned (OpenSpec.upto judgePlansSpec)

end Rows
end Go.Proofs.YtmbocmonhcplhaaGreat
