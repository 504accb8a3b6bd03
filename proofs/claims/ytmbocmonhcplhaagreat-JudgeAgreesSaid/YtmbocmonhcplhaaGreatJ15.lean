/- Part of the proof that the laws of the judge return true for every input: J15. -/
import Derived.Test.YtmbocmonhcplhaaGreatJ14
set_option linter.all false
namespace Go.Sx
open Go.Proofs Go.RowKit
attribute [local irreducible] Run zAi zAy zK3 zAc SLe OLe
set_option maxHeartbeats 2000000
set_option maxRecDepth 8000
@[go_sem] def zAb (n : Need) : SD := .agg [.int .i64 n.Kind, .int .i64 n.N, .int .i64 n.Min, zAo 2 zAe n.Set, .list 5 n.L.length fun i => zBc (zB9 n.L) i]
end Go.Sx
