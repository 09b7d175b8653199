/-
  What the four rows share: what the listed variables give, and a world that holds them.
-/
import Derived.Test.YtdndckkfdlchpaaDoorCards
import Derived.Test.YtdndckkfdlchpaaDoorTie
import Derived.Test.YtdndckkfdlchpaaDoorAwake
import Derived.WalkKit
import Derived.ProofKit
import Derived.OpenShut
import Derived.Deep.DeepHandedRow
import Derived.Deep.DeepWitnessRowRef
import Derived.Lib.LaidTab
import Derived.Lib.LaidU8
import Derived.Stop.LaidErr
namespace Go.Proofs.YtdndckkfdlchpaaDoor
open Go.Proofs
open Go.ChangeShapes Go.WideShapes Go.ChangeAt Go.RowKit

theorem own : ownKnob Tryd.prog.godebug = none := by kernel_rfl
theorem gTab : Tryd.prog.globalNamed "strings.asciiSpace" = some 0 := by kernel_rfl
theorem gTabType : (Tryd.prog.globals[0]?).map (·.type) = some 64 := by kernel_rfl
theorem cells64 : Tryd.prog.cellsOf 64 = 256 := by kernel_rfl
theorem cells5 : Tryd.prog.cellsOf 5 = 1 := by kernel_rfl

def laidTwo : List (String × DataW Unit) := [("unicode.White_Space", Rows.laid_unicode_White_Space), ("strings.asciiSpace", Rows.laid_strings_asciiSpace)]
theorem ascii_eq : (Rows.laid_strings_asciiSpace : DataW Unit) = Lib.tabData .u8 Lib.asciiSpaceTab := by kernel_rfl

theorem env_of {W : World} (h : laidMetH Tryd.prog laidTwo W) : Env W.heap.size W := by
  have ht : Tab W := Lib.tabIs_of_head (rest := []) gTab gTabType Tryd.underlying64 Tryd.underlying5 cells5 cells64 (by rw [← ascii_eq]; exact laidMet.tail h)
  refine ⟨ht, Nat.le_refl _, 0, gTab, ?_⟩
  rcases Nat.lt_or_ge 0 W.heap.size with h0 | h0
  · exact h0
  · have : W.var? Tryd.prog "strings.asciiSpace" = none := by
      unfold World.var?
      simp [gTab, Array.getElem?_eq_none h0]
    have h2 : W.var? Tryd.prog "strings.asciiSpace" = _ := ht
    rw [this] at h2
    cases h2

/-- The settled world with two blocks more (unicode.White_Space's ranges; its RangeTable), the two variables holding what their initialisers lay. -/
noncomputable def laidWorld (os : Os) : World :=
  let N := (World.settled Tryd.prog os).heap.size
  let w0 := World.holding Tryd.prog os ⟨#[.cells (Lib.whiteT.map fun (z : Nat) => Value.int .u16 (z : Int)).toArray (Tryd.lays157_ren.t 198), .cells #[.slice (some ⟨N, 0, none⟩) 7 7, .slice none 0 0, .int .i64 2] (Tryd.lays157_ren.t 196)], #[], []⟩
  let put (h : Array Obj) (g : Nat) (cs : Array Value) : Array Obj := h.modify g fun
    | .cells _ t frozen => .cells cs t frozen
    | o => o
  let h1 := put w0.heap 0 (Lib.asciiSpaceTab.map fun z => Value.int .u8 z).toArray
  let h2 := put h1 1 #[.pointer (some ⟨N + 1, 0, none⟩)]
  { w0 with heap := h2 }
theorem laid_met (os : Os) (args : Array Value) : laidMet Tryd.prog laidTwo ((laidWorld os).forCall (fun _ _ => 0) ⟨#[], args, []⟩).memory :=
  laidMet_of_run' 10 (by kernel_rfl) (by kernel_rfl)
end Go.Proofs.YtdndckkfdlchpaaDoor
