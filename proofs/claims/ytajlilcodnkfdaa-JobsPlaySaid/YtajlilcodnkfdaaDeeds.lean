/-
  An argument that is a slice of deeds, opened.
-/
import Derived.Test.YtajlilcodnkfdaaFrame
import Derived.Test.YtajlilcodnkfdaaTwo
import Derived.Deep.MidRow
import Derived.ChangeSame
namespace Go.Proofs.Ytajlilcodnkfdaa
open Go.ChangeShapes Go.WideShapes Go.ChangeAt Go.RowKit Go.Deep

section
variable {H : Type} {enc : TypeId × Value → H} {P : Program} {w : World} {base : Nat} {spare : Nat → Bool} {held : Bool}
/-- A slice of structs of one-cell fields (the guide's own lemma, extra-structs). -/
theorem open_slice_fields {t e : TypeId} {fs : Array Field} {fuel : Nat} {cs : List Value} {x : DataW H × List MemPlace} (ht : P.underlying t = some (.slice e)) (he : P.underlying e = some (.struct fs))
    (hone : oneCellFields P fs = true) (hC : P.cellsOf e = fs.size) (h : DataW.trod enc P w base spare held fuel t cs = some x) :
    (cs = [.slice none 0 0] ∧ x = (.nil, [])) ∨
    ∃ (a : Addr) (len cap m : Nat), cs = [.slice (some a) len cap] ∧ len ≤ cap ∧ cap ≤ maxLen ∧ m = (if spare a.block then cap else len) ∧
      ∀ i, i < m → ∃ (n : Nat),
        ∀ (j : Nat) (f : Field), fs[j]? = some f → ∃ (v : Value) (y : DataW H × List MemPlace), w.cell? (a.add (i * fs.size + j)) = some v ∧ DataW.trod enc P w base spare held n f.type [v] = some y := by
  rcases open_slice ht h with h0 | ⟨a, len, cap, m, n, D, Pl, hcs, hb, hl, hm, hmm, hx, hi⟩
  · exact .inl h0
  · refine .inr ⟨a, len, cap, m, hcs, hl, hm, hmm, fun i him => ?_⟩
    obtain ⟨cs', hc, ht'⟩ := hi i him
    rw [hC] at hc
    obtain ⟨ys, n', hn', hy, hlen, hyl, hf⟩ := DataW.trod_struct he ht'
    obtain ⟨_, hcl, hat⟩ := World.cells?_some hc
    refine ⟨n', fun j f hj => ?_⟩
    obtain ⟨ho, hk⟩ := hone_of hone j f hj
    have hjl : j < fs.size := (Array.getElem?_eq_some_iff.1 hj).1
    have hcell := hat j hjl
    have hv : cs'[j]? = some (cs'[j]'(by omega)) := List.getElem?_eq_getElem (by omega)
    have h1 := hf j f hj
    rw [ho, hk] at h1
    have hone' : (cs'.drop j).take 1 = [cs'[j]'(by omega)] := by
      rw [List.drop_eq_getElem_cons (by omega)]
      rfl
    rw [hone'] at h1
    have hys : ys[j]? = some (ys[j]'(by omega)) := List.getElem?_eq_getElem (by omega)
    refine ⟨_, _, ?_, h1.trans hys⟩
    rw [← Go.Deep.add_add, hcell, hv]
end
theorem cells49 : Try.prog.cellsOf 49 = 5 := by kernel_rfl
theorem one49 : oneCellFields Try.prog #[
    { name := "Do", type := 3, offset := 0, embedded := false, tag := "", pkgPath := "", byteOffset := 0 },
    { name := "ID", type := 3, offset := 1, embedded := false, tag := "", pkgPath := "", byteOffset := 8 },
    { name := "E", type := 3, offset := 2, embedded := false, tag := "", pkgPath := "", byteOffset := 16 },
    { name := "P", type := 3, offset := 3, embedded := false, tag := "", pkgPath := "", byteOffset := 24 },
    { name := "Sporadic", type := 4, offset := 4, embedded := false, tag := "", pkgPath := "", byteOffset := 32 }] = true := by kernel_rfl

theorem deeds_open {H : Type} {enc : TypeId × Value → H} {W : World} {ao : Option Addr} {len cap : Nat} {d : DataW H} {p : List MemPlace} (h : DataW.Trod enc Try.prog W 0 (fun _ => true) true 43 (.slice ao len cap) d p) :
    DeedsIn ao len W ∧ len ≤ maxLen := by
  obtain ⟨fuel, hf⟩ := h
  rcases open_slice_fields Try.underlying43 Try.underlying49 one49 cells49 hf with ⟨hcs, _⟩ | ⟨a, len', cap', m, hcs, hl, hm, hmm, hc⟩
  · simp [Value.cells] at hcs
    obtain ⟨rfl, rfl, rfl⟩ := hcs
    exact ⟨fun i hi => absurd hi (Nat.not_lt_zero _), Nat.zero_le _⟩
  · simp [Value.cells] at hcs
    obtain ⟨rfl, rfl, rfl⟩ := hcs
    refine ⟨fun i hi => ?_, Nat.le_trans hl hm⟩
    have hm' : i < m := by rw [hmm]; simp; omega
    obtain ⟨n0, h0⟩ := hc 0 (by omega)
    obtain ⟨v00, y00, c00, _⟩ := h0 0 _ rfl
    obtain ⟨g, o, spot⟩ := a
    have hspot : spot = none := by simpa [Addr.add] using World.cell?_spot c00
    subst hspot
    obtain ⟨n, hn⟩ := hc i hm'
    obtain ⟨v0, y0, c0, t0⟩ := hn 0 _ rfl
    obtain ⟨v1, y1, c1, t1⟩ := hn 1 _ rfl
    obtain ⟨v2, y2, c2, t2⟩ := hn 2 _ rfl
    obtain ⟨v3, y3, c3, t3⟩ := hn 3 _ rfl
    obtain ⟨v4, y4, c4, t4⟩ := hn 4 _ rfl
    obtain ⟨x0, e0, _, _⟩ := DataW.trod_int Try.underlying3 t0
    obtain ⟨x1, e1, _, w1⟩ := DataW.trod_int Try.underlying3 t1
    obtain ⟨x2, e2, _, _⟩ := DataW.trod_int Try.underlying3 t2
    obtain ⟨x3, e3, _, _⟩ := DataW.trod_int Try.underlying3 t3
    obtain ⟨x4, e4, _⟩ := DataW.trod_bool Try.underlying4 t4
    have f0 : v0 = .int .i64 x0 := by simpa using e0
    have f1 : v1 = .int .i64 x1 := by simpa using e1
    have f2 : v2 = .int .i64 x2 := by simpa using e2
    have f3 : v3 = .int .i64 x3 := by simpa using e3
    have f4 : v4 = .bool x4 := by simpa using e4
    rw [Go.Addr.add_mid] at c0 c1 c2 c3 c4
    rw [f0] at c0
    rw [f1] at c1
    rw [f2] at c2
    rw [f3] at c3
    rw [f4] at c4
    exact ⟨g, o, x0, x1, x2, x3, x4, rfl, c0, c1, c2, c3, c4, w1⟩
end Go.Proofs.Ytajlilcodnkfdaa
