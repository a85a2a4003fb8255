/-
  The witness' world: the package variables of the rows' list hold what the list says.
-/
import Derived.Test.YtgfmlaflochffaaGreatDoorCards
import Derived.Test.YtgfmlaflochffaaGreatDoorTie
import Derived.ProofKit
import Derived.Lib.DecodeN
import Derived.Deep.DeepHandedRow
import Derived.Deep.DeepWitnessRowRef
import Derived.Stop.LaidErr
import Derived.LaidSub
import Derived.SevenTiedAt
namespace Go.Proofs.YtgfmlaflochffaaGreatDoor.LF
open Go.ChangeShapes Go.WideShapes Go.ChangeAt Go.RowKit
def laid : List (String × DataW Unit) := [("math/bits.deBruijn32tab", Rows.laid_math_bits_deBruijn32tab), ("math/bits.deBruijn64tab", Rows.laid_math_bits_deBruijn64tab), ("internal/strconv.uint64pow10", Rows.laid_internal_strconv_uint64pow10), ("umpire/api.ErrMany", Rows.laid_umpire_api_ErrMany), ("umpire/api.ErrCode", Rows.laid_umpire_api_ErrCode), ("umpire/api.ErrObject", Rows.laid_umpire_api_ErrObject), ("umpire/api.ErrEvent", Rows.laid_umpire_api_ErrEvent), ("umpire/api.ErrOp", Rows.laid_umpire_api_ErrOp), ("umpire/api.ErrAnswer", Rows.laid_umpire_api_ErrAnswer), ("umpire/api.ErrTx", Rows.laid_umpire_api_ErrTx), ("umpire/api.ErrTwice", Rows.laid_umpire_api_ErrTwice), ("umpire/api.ErrThread", Rows.laid_umpire_api_ErrThread), ("umpire/api.ErrOrder", Rows.laid_umpire_api_ErrOrder), ("umpire/api.ErrProg", Rows.laid_umpire_api_ErrProg), ("umpire/event.objects", Rows.laid_umpire_event_objects), ("umpire/event.events", Rows.laid_umpire_event_events), ("umpire/event.ops", Rows.laid_umpire_event_ops), ("umpire/event.answers", Rows.laid_umpire_event_answers), ("umpire/event.states", Rows.laid_umpire_event_states), ("umpire/event.levels", Rows.laid_umpire_event_levels), ("umpire/prog.acts", Rows.laid_umpire_prog_acts)]
def put (cs : Array Value) : Obj → Obj
  | .cells _ t frozen => .cells cs t frozen
  | o => o
noncomputable def world (os : Os) : World :=
  let w0 := World.holding Tryz.prog os ⟨#[.cells #[.string ⟨#[116, 111, 111, 32, 109, 97, 110, 121]⟩] 187, .cells #[.string ⟨#[110, 111, 32, 115, 117, 99, 104, 32, 99, 111, 100, 101]⟩] 187, .cells #[.string ⟨#[110, 111, 32, 111, 98, 106, 101, 99, 116]⟩] 187, .cells #[.string ⟨#[110, 111, 32, 101, 118, 101, 110, 116]⟩] 187, .cells #[.string ⟨#[110, 111, 32, 111, 112, 101, 114, 97, 116, 105, 111, 110, 32, 111, 102, 32, 116, 104, 97, 116, 32, 111, 98, 106, 101, 99, 116]⟩] 187, .cells #[.string ⟨#[110, 111, 32, 97, 110, 115, 119, 101, 114, 32, 111, 102, 32, 116, 104, 97, 116, 32, 111, 112, 101, 114, 97, 116, 105, 111, 110]⟩] 187, .cells #[.string ⟨#[110, 111, 32, 115, 117, 99, 104, 32, 116, 114, 97, 110, 115, 97, 99, 116, 105, 111, 110]⟩] 187, .cells #[.string ⟨#[105, 116, 32, 104, 97, 115, 32, 98, 101, 103, 117, 110, 32, 97, 108, 114, 101, 97, 100, 121]⟩] 187, .cells #[.string ⟨#[116, 104, 101, 32, 116, 104, 114, 101, 97, 100, 32, 105, 115, 32, 98, 117, 115, 121]⟩] 187, .cells #[.string ⟨#[105, 116, 32, 100, 111, 101, 115, 32, 110, 111, 116, 32, 99, 111, 109, 101, 32, 104, 101, 114, 101]⟩] 187, .cells #[.string ⟨#[110, 111, 32, 112, 114, 111, 103, 114, 97, 109]⟩] 187], #[], []⟩
  { w0 with heap := w0.heap
    |>.modify 20 (put #[.int .u8 0, .int .u8 1, .int .u8 28, .int .u8 2, .int .u8 29, .int .u8 14, .int .u8 24, .int .u8 3, .int .u8 30, .int .u8 22, .int .u8 20, .int .u8 15, .int .u8 25, .int .u8 17, .int .u8 4, .int .u8 8, .int .u8 31, .int .u8 27, .int .u8 13, .int .u8 23, .int .u8 21, .int .u8 19, .int .u8 16, .int .u8 7, .int .u8 26, .int .u8 12, .int .u8 18, .int .u8 6, .int .u8 11, .int .u8 5, .int .u8 10, .int .u8 9])
    |>.modify 21 (put #[.int .u8 0, .int .u8 1, .int .u8 56, .int .u8 2, .int .u8 57, .int .u8 49, .int .u8 28, .int .u8 3, .int .u8 61, .int .u8 58, .int .u8 42, .int .u8 50, .int .u8 38, .int .u8 29, .int .u8 17, .int .u8 4, .int .u8 62, .int .u8 47, .int .u8 59, .int .u8 36, .int .u8 45, .int .u8 43, .int .u8 51, .int .u8 22, .int .u8 53, .int .u8 39, .int .u8 33, .int .u8 30, .int .u8 24, .int .u8 18, .int .u8 12, .int .u8 5, .int .u8 63, .int .u8 55, .int .u8 48, .int .u8 27, .int .u8 60, .int .u8 41, .int .u8 37, .int .u8 16, .int .u8 46, .int .u8 35, .int .u8 44, .int .u8 21, .int .u8 52, .int .u8 32, .int .u8 23, .int .u8 11, .int .u8 54, .int .u8 26, .int .u8 40, .int .u8 15, .int .u8 34, .int .u8 20, .int .u8 31, .int .u8 10, .int .u8 25, .int .u8 14, .int .u8 19, .int .u8 9, .int .u8 13, .int .u8 8, .int .u8 7, .int .u8 6])
    |>.modify 18 (put #[.int .u64 1, .int .u64 10, .int .u64 100, .int .u64 1000, .int .u64 10000, .int .u64 100000, .int .u64 1000000, .int .u64 10000000, .int .u64 100000000, .int .u64 1000000000, .int .u64 10000000000, .int .u64 100000000000, .int .u64 1000000000000, .int .u64 10000000000000, .int .u64 100000000000000, .int .u64 1000000000000000, .int .u64 10000000000000000, .int .u64 100000000000000000, .int .u64 1000000000000000000, .int .u64 10000000000000000000])
    |>.modify 2 (put #[.iface 172 (.pointer (some ⟨(World.settled Tryz.prog os).heap.size, 0, none⟩))])
    |>.modify 9 (put #[.iface 172 (.pointer (some ⟨(World.settled Tryz.prog os).heap.size + 1, 0, none⟩))])
    |>.modify 3 (put #[.iface 172 (.pointer (some ⟨(World.settled Tryz.prog os).heap.size + 2, 0, none⟩))])
    |>.modify 10 (put #[.iface 172 (.pointer (some ⟨(World.settled Tryz.prog os).heap.size + 3, 0, none⟩))])
    |>.modify 4 (put #[.iface 172 (.pointer (some ⟨(World.settled Tryz.prog os).heap.size + 4, 0, none⟩))])
    |>.modify 11 (put #[.iface 172 (.pointer (some ⟨(World.settled Tryz.prog os).heap.size + 5, 0, none⟩))])
    |>.modify 7 (put #[.iface 172 (.pointer (some ⟨(World.settled Tryz.prog os).heap.size + 6, 0, none⟩))])
    |>.modify 5 (put #[.iface 172 (.pointer (some ⟨(World.settled Tryz.prog os).heap.size + 7, 0, none⟩))])
    |>.modify 6 (put #[.iface 172 (.pointer (some ⟨(World.settled Tryz.prog os).heap.size + 8, 0, none⟩))])
    |>.modify 8 (put #[.iface 172 (.pointer (some ⟨(World.settled Tryz.prog os).heap.size + 9, 0, none⟩))])
    |>.modify 1 (put #[.iface 172 (.pointer (some ⟨(World.settled Tryz.prog os).heap.size + 10, 0, none⟩))])
    |>.modify 12 (put #[.string ⟨#[114, 101, 103, 105, 115, 116, 101, 114]⟩, .string ⟨#[99, 111, 117, 110, 116, 101, 114]⟩, .string ⟨#[113, 117, 101, 117, 101]⟩, .string ⟨#[109, 97, 112]⟩])
    |>.modify 13 (put #[.string ⟨#[98, 101, 103, 105, 110]⟩, .string ⟨#[99, 97, 108, 108]⟩, .string ⟨#[114, 101, 116, 117, 114, 110]⟩, .string ⟨#[116, 114, 121]⟩, .string ⟨#[99, 111, 109, 109, 105, 116]⟩, .string ⟨#[97, 98, 111, 114, 116]⟩, .string ⟨#[99, 97, 110, 99, 101, 108]⟩])
    |>.modify 14 (put #[.string ⟨#[114, 101, 97, 100]⟩, .string ⟨#[119, 114, 105, 116, 101]⟩, .string ⟨#[97, 100, 100]⟩, .string ⟨#[103, 101, 116]⟩, .string ⟨#[101, 110, 113]⟩, .string ⟨#[100, 101, 113]⟩, .string ⟨#[112, 117, 116]⟩, .string ⟨#[108, 111, 111, 107]⟩, .string ⟨#[100, 101, 108]⟩])
    |>.modify 15 (put #[.string ⟨#[111, 107]⟩, .string ⟨#[110, 111, 110, 101]⟩, .string ⟨#[118, 97, 108]⟩])
    |>.modify 16 (put #[.string ⟨#[108, 105, 118, 101]⟩, .string ⟨#[112, 101, 110, 100, 105, 110, 103]⟩, .string ⟨#[99, 111, 109, 109, 105, 116, 116, 101, 100]⟩, .string ⟨#[97, 98, 111, 114, 116, 101, 100]⟩])
    |>.modify 17 (put #[.string ⟨#[115, 101, 114, 105, 97, 108]⟩, .string ⟨#[115, 116, 114, 105, 99, 116]⟩, .string ⟨#[102, 105, 110, 97, 108]⟩, .string ⟨#[111, 112, 97, 113, 117, 101]⟩])
    |>.modify 0 (put #[.string ⟨#[114, 101, 97, 100]⟩, .string ⟨#[119, 114, 105, 116, 101]⟩, .string ⟨#[97, 100, 100]⟩, .string ⟨#[99, 97, 110, 99, 101, 108]⟩]) }
theorem met (os : Os) (args : Array Value) : laidMet Tryz.prog laid ((world os).forCall (fun _ _ => 0) ⟨#[], args, []⟩).memory :=
  laidMet_of_run' 8 (by kernel_rfl) (by kernel_rfl)
end Go.Proofs.YtgfmlaflochffaaGreatDoor.LF
