/-
  The tables' making: strings.Fields at the two constants, and the closure that sync.Once calls.
-/
import Derived.Test.YtdndckkfdlchpaaDoorErr
import Derived.Test.YtdndckkfdlchpaaDoorShelf
import Derived.Deep.RegionHeld3
import Derived.Maps.OwnSet
import Derived.Maps.OwnOps
import Derived.Deep.AppendLies
namespace Go.Proofs.YtdndckkfdlchpaaDoor
open Go.Proofs
open Go.RowKit

abbrev opsBytes : ByteArray := ⟨#[106, 111, 105, 110, 32, 115, 112, 111, 114, 97, 100, 105, 99, 32, 108, 101, 97, 118, 101, 32, 97, 98, 111, 114, 116, 32, 97, 114, 114, 105, 118, 101, 32, 100, 111, 110, 101, 32, 98, 97, 99, 107, 32, 116, 105, 99, 107]⟩
abbrev modesBytes : ByteArray := ⟨#[112, 102, 97, 105, 114, 32, 101, 97, 114, 108, 121, 32, 119, 114, 97, 112, 32, 116, 119, 105, 110]⟩
/-- The commands' words. -/
def opWords : List ByteArray := [⟨#[106, 111, 105, 110]⟩, ⟨#[115, 112, 111, 114, 97, 100, 105, 99]⟩, ⟨#[108, 101, 97, 118, 101]⟩, ⟨#[97, 98, 111, 114, 116]⟩, ⟨#[97, 114, 114, 105, 118, 101]⟩, ⟨#[100, 111, 110, 101]⟩, ⟨#[98, 97, 99, 107]⟩, ⟨#[116, 105, 99, 107]⟩]
/-- The modes' words. -/
def modeWords : List ByteArray := [⟨#[112, 102, 97, 105, 114]⟩, ⟨#[101, 97, 114, 108, 121]⟩, ⟨#[119, 114, 97, 112]⟩, ⟨#[116, 119, 105, 110]⟩]
def wordCells (l : List ByteArray) : Array Value := (l.map Value.string).toArray

def Tab (w : World) : Prop := Lib.TabIs Tryd.prog w "strings.asciiSpace" .u8 Lib.asciiSpaceTab

theorem fields_ops : (Lib.fields opsBytes.data.toList).map (fun l => (⟨l.toArray⟩ : ByteArray)) = opWords := by decide +kernel
theorem fields_modes : (Lib.fields modesBytes.data.toList).map (fun l => (⟨l.toArray⟩ : ByteArray)) = modeWords := by decide +kernel

theorem split_ops (w : World) (ht : Tab w) :
    Calls Tryd.prog 22 #[.string opsBytes] w fun e w' => e = .returned (.slice (some ⟨w.heap.size, 0, none⟩) 8 8) ∧ w.alloc (.cells (wordCells opWords) 9) = w' := by
  refine (Tryd.strings_Fields opsBytes w (by decide +kernel) ?_ ht).mono ?_
  · intro j b hj
    have : opsBytes.data.toList.all (fun b => b.toNat < 128) = true := by decide +kernel
    rw [List.all_eq_true] at this
    have := this b (List.mem_of_getElem? hj)
    simpa using this
  · rintro e w' ⟨rfl, rfl⟩
    have h8 : (Lib.fields opsBytes.data.toList).length = 8 := by decide +kernel
    refine ⟨by rw [h8], ?_⟩
    rw [← fields_ops]
    simp [wordCells, Function.comp_def]

theorem split_modes (w : World) (ht : Tab w) :
    Calls Tryd.prog 22 #[.string modesBytes] w fun e w' => e = .returned (.slice (some ⟨w.heap.size, 0, none⟩) 4 4) ∧ w.alloc (.cells (wordCells modeWords) 9) = w' := by
  refine (Tryd.strings_Fields modesBytes w (by decide +kernel) ?_ ht).mono ?_
  · intro j b hj
    have : modesBytes.data.toList.all (fun b => b.toNat < 128) = true := by decide +kernel
    rw [List.all_eq_true] at this
    have := this b (List.mem_of_getElem? hj)
    simpa using this
  · rintro e w' ⟨rfl, rfl⟩
    have h8 : (Lib.fields modesBytes.data.toList).length = 4 := by decide +kernel
    refine ⟨by rw [h8], ?_⟩
    rw [← fields_modes]
    simp [wordCells, Function.comp_def]
end Go.Proofs.YtdndckkfdlchpaaDoor
