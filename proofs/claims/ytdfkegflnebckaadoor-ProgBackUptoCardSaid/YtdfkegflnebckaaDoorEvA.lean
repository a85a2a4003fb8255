/-
  An event's cells.
-/
import Derived.Test.YtdfkegflnebckaaDoorEv
import Derived.WalkKit
namespace Go.Proofs.YtdfkegflnebckaaDoor
open Go.RowKit W

def evArr (e : Ev) : Array Value := #[.int .i64 e.kind, .int .i64 e.tx, .int .i64 e.thr, .int .i64 e.obj, .int .i64 e.op, .int .i64 e.key, .int .i64 e.val, .int .i64 e.ret]
end Go.Proofs.YtdfkegflnebckaaDoor
