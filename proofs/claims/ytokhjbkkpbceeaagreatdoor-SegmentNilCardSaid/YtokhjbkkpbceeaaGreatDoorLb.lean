/- A world for the witness: the settled one, with the tables that the rows list. -/
import Derived.Test.YtokhjbkkpbceeaaGreatDoorLa
import Derived.Lib.LaidTab
namespace Go.Em
open Go
def layRow (cs : Array Value) : Obj → Obj
  | .cells _ t frozen => .cells cs t frozen
  | o => o
/-- Both tables laid: the blocks of utf8.first and of utf8.acceptRanges. -/
noncomputable def laidWorld (os : Os) (blocks : Array Obj) : World :=
  { World.holding Go.Proofs.Tryz.prog os ⟨blocks, #[], []⟩ with heap := ((World.holding Go.Proofs.Tryz.prog os ⟨blocks, #[], []⟩).heap.modify 1 (layRow (Go.Pinned.utf8FirstZ.map fun (n : Nat) => Value.int .u8 n).toArray)).modify 2 (layRow #[.int .u8 128, .int .u8 191, .int .u8 160, .int .u8 191, .int .u8 128, .int .u8 159, .int .u8 144, .int .u8 191, .int .u8 128, .int .u8 143, .int .u8 0, .int .u8 0, .int .u8 0, .int .u8 0, .int .u8 0, .int .u8 0, .int .u8 0, .int .u8 0, .int .u8 0, .int .u8 0, .int .u8 0, .int .u8 0, .int .u8 0, .int .u8 0, .int .u8 0, .int .u8 0, .int .u8 0, .int .u8 0, .int .u8 0, .int .u8 0, .int .u8 0, .int .u8 0]) }
end Go.Em
