/- The walk of pipe.passes and pipe.find: the table of passes, and the look-up of a name. -/
import Derived.Test.YtbfockjliokcdaaGreatDoorRows
import Derived.WalkKit
import Derived.WalkSpells
import Derived.WalkLawsBesides
namespace Go.Proofs.YtbfockjliokcdaaGreatDoor
open Go.RowKit

/-- The rows of pipe.passes: name, In, Out, the function's number. -/
def passRows : List (ByteArray × Int × Int × Nat) :=
  [(⟨#[115, 108, 111, 116, 115]⟩, 0, 0, 81), (⟨#[115, 115, 97]⟩, 0, 1, 82), (⟨#[102, 111, 108, 100]⟩, 1, 1, 83),
   (⟨#[115, 104, 97, 114, 101]⟩, 1, 1, 84), (⟨#[104, 111, 105, 115, 116]⟩, 1, 1, 85), (⟨#[115, 119, 101, 101, 112]⟩, 1, 1, 86),
   (⟨#[108, 101, 97, 118, 101]⟩, 1, 0, 65), (⟨#[109, 101, 114, 103, 101]⟩, 0, 0, 67), (⟨#[114, 101, 97, 99, 104]⟩, 0, 0, 66)]
def passCells (x : ByteArray × Int × Int × Nat) : List Value := [.string x.1, .int .u8 x.2.1, .int .u8 x.2.2.1, .func (.func x.2.2.2) #[] #[]]
def noPass : List Value := [.string ByteArray.empty, .int .u8 0, .int .u8 0, .nilFunc]

set_option maxHeartbeats 400000 in
theorem passes_any (w : World) :
    Calls Tryz.prog 50 #[] w fun e w' => e = .returned (.slice (some ⟨w.heap.size, 0, none⟩) 9 9) ∧ w.alloc (.cells (passRows.flatMap passCells).toArray 32) = w' := by
  go_enter Tryz.func50, Tryz.ntmps50
  go_wp2
  go_ret
  exact ⟨rfl, rfl⟩
end Go.Proofs.YtbfockjliokcdaaGreatDoor
