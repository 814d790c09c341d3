import Derived.Test.YtmjmcmohicjfkaaDoorRows
import Derived.Test.YtmjmcmohicjfkaaDoorTie
import Derived.Test.YtmjmcmohicjfkaaDoorCards
import Derived.Test.YtmjmcmohicjfkaaDoorArg
import Derived.WalkKit
import Derived.ProofKit
import Derived.OpenShut
import Derived.Deep.DeepHandedRow
import Derived.Deep.DeepWitnessRowRef
import Derived.Lib.LaidTab
/-
  A world for the witness: the listed tables hold what their initialisers lay.
-/
namespace Go.Proofs.YtmjmcmohicjfkaaDoor.wit
open Go.ChangeShapes Go.WideShapes Go.ChangeAt Go.RowKit

theorem own : ownKnob Tryd.prog.godebug = none := by kernel_rfl
theorem laidOut : laidOutB Tryd.prog = true := by kernel_rfl
def u8s (l : List Nat) : Array Value := (l.map fun n : Nat => Value.int .u8 (Int.ofNat n)).toArray
def ranges : List Nat := [128, 191, 160, 191, 128, 159, 144, 191, 128, 143, 0, 0, 0, 0, 0, 0, 0, 0, 0, 0, 0, 0, 0, 0, 0, 0, 0, 0, 0, 0, 0, 0]
/-- A block's cells. -/
def laid (h : Array Obj) (g : Nat) (cs : Array Value) : Array Obj := h.modify g fun
  | .cells _ t frozen => .cells cs t frozen
  | o => o
noncomputable def laidWorld (os : Os) : World :=
  { World.holding Tryd.prog os ⟨#[], #[], []⟩ with heap := laid (laid (World.holding Tryd.prog os ⟨#[], #[], []⟩).heap 2 (u8s Pinned.utf8FirstZ)) 3 (u8s ranges) }
/-- The number of bytealg's MaxLen. -/
theorem maxLen_cell {W : World} (h : W.ShapedOpen Tryd.prog) : ∃ m, W.cell? ⟨1, 0, none⟩ = some (.int .i64 m) := Tryd.laysM146.s1_3 W h
end Go.Proofs.YtmjmcmohicjfkaaDoor.wit
