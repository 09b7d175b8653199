/-
  What each statement's proof shares: its arguments read as they did where only new memory was written.
-/
import Derived.Test.YtajlilcodnkfdaaRows
import Derived.WalkKit
import Derived.ProofKit
import Derived.OpenShut
import Derived.ShutString
import Derived.ChangeOld
import Derived.Below
import Derived.Deep.Slices
import Derived.Deep.Fields
namespace Go.Proofs.Ytajlilcodnkfdaa
open Go.ChangeShapes Go.WideShapes Go.ChangeAt Go.RowKit

theorem own : ownKnob Try.prog.godebug = none := by kernel_rfl
theorem laidOut : laidOutB Try.prog = true := by kernel_rfl

theorem below_trodAll {H : Type} {enc : TypeId × Value → H} {W W' : World} (hb : Below W.heap.size W W') : ∀ {ts : List TypeId} {vs : List Value} {ds : List (DataW H)} {ps : List MemPlace},
    (∀ t ∈ ts, Try.prog.readableRec t = true ∧ t < Try.prog.types.size) → DataW.TrodAll enc Try.prog W 0 (fun _ => true) true ts vs ds ps →
      DataW.TrodAll enc Try.prog W' 0 (fun b => decide (b < W.heap.size)) true ts vs ds ps
  | [], vs, ds, ps, _, h => by
    obtain ⟨rfl, rfl, rfl⟩ := trodAll_nil h
    exact trodAll_mk0
  | t :: ts, vs, ds, ps, ht, h => by
    obtain ⟨v, vs', d, ds', p, p', rfl, rfl, rfl, h0, h1⟩ := trodAll_cons h
    obtain ⟨hr, hs⟩ := ht t (by simp)
    have hlt : ∀ x ∈ p, x.block < W.heap.size := by obtain ⟨m, hm⟩ := h0; exact DataW.trod_lt m _ _ _ hm
    exact trodAll_cons_mk (Below.trod laidOut hr hs h0 hb hlt) (below_trodAll hb (fun t h => ht t (List.mem_cons_of_mem _ h)) h1)

theorem agg_two {v : Value} (h : v.cells.toList.length = 2) : ∃ c0 c1, v = .agg #[c0, c1] := by
  cases v with
  | agg cs =>
    obtain ⟨l⟩ := cs
    match l, h with
    | [c0, c1], _ => exact ⟨c0, c1, rfl⟩
  | _ => simp [Value.cells] at h
theorem cells22 : Try.prog.cellsOf 22 = 2 := by kernel_rfl
theorem cells5 : Try.prog.cellsOf 5 = 1 := by kernel_rfl
set_option maxRecDepth 100000 in
/-- Two small numbers side by side, by value. -/
theorem open_two {H : Type} {enc : TypeId × Value → H} {w : World} {base : Nat} {sp : Nat → Bool} {held : Bool} {v : Value} {d : DataW H} {p : List MemPlace} (h : DataW.Trod enc Try.prog w base sp held 22 v d p) :
    ∃ a b : Int, v = .agg #[.int .u8 a, .int .u8 b] ∧ (0 ≤ a ∧ a ≤ 255) ∧ (0 ≤ b ∧ b ≤ 255) := by
  obtain ⟨fuel, hf⟩ := h
  obtain ⟨xs, m, _, _, hlen, hxl, hg⟩ := DataW.trod_array Try.underlying22 hf
  obtain ⟨c0, c1, rfl⟩ := agg_two (hlen.trans cells22)
  have h0 := hg 0 (by omega)
  have h1 := hg 1 (by omega)
  rw [cells5] at h0 h1
  have l0 : 0 < xs.length := by omega
  have l1 : 1 < xs.length := by omega
  rw [List.getElem?_eq_getElem l0] at h0
  rw [List.getElem?_eq_getElem l1] at h1
  obtain ⟨a, e0, _, wa⟩ := DataW.trod_int Try.underlying5 h0
  obtain ⟨b, e1, _, wb⟩ := DataW.trod_int Try.underlying5 h1
  have f0 : c0 = .int .u8 a := by simpa [Value.cells] using e0
  have f1 : c1 = .int .u8 b := by simpa [Value.cells] using e1
  clear e0 e1
  subst f0 f1
  exact ⟨a, b, rfl, bounds_u8 wa, bounds_u8 wb⟩
end Go.Proofs.Ytajlilcodnkfdaa
