/-
  The closure that sync.Once calls: it makes the tables.
-/
import Derived.Test.YtdndckkfdlchpaaDoorTables
import Derived.Deep.DeepCutAuto
import Derived.Deep.CutBlock
namespace Go.Proofs.YtdndckkfdlchpaaDoor
open Go.Proofs
open Go.RowKit Go.WideMaps

theorem cell_of_heap {w : World} {b : Nat} {c : Array Value} {t : TypeId} {f : Nat × Nat} (h : w.heap[b]? = some (.cells c t f)) (i : Nat) : w.cell? ⟨b, i, none⟩ = c[i]? := by
  simp [World.cell?, h]

theorem kc_alloc {w : World} {a : Addr} {v : Value} (h : w.cell? a = some v) (o : Obj) : (w.alloc o).cell? a = some v := by
  rw [World.cell?_alloc_lt _ _ _ (World.block_lt_of_cell? w a h)]; exact h
theorem kc_drew {w : World} {a : Addr} {v : Value} (h : w.cell? a = some v) : w.drew.cell? a = some v := h
theorem kc_set {w : World} {a : Addr} {v : Value} (h : w.cell? a = some v) {p : Addr} (hne : p.block ≠ a.block) (u : Value) : (w.setCell p u).cell? a = some v := by
  rw [World.cell?_setCell_other w p a u (fun e => hne (by rw [e]))]; exact h

/-- The object, its once not done but locked, before the tables are made. -/
def Raw (b : Nat) (w : World) : Prop := w.heap[b]? = some (.cells #[.int .u32 0, .int .i32 1, .int .u32 0, .int .i64 0, .slice none 0 0, .slice none 0 0, .slice none 0 0, .map none] 54 (0, 0))

structure Env (B : Nat) (w : World) : Prop where
  tab : Tab w
  size : B ≤ w.heap.size
  lies : ∃ g, Tryd.prog.globalNamed "strings.asciiSpace" = some g ∧ g < B

theorem Env.alloc {B : Nat} {w : World} (h : Env B w) (o : Obj) : Env B (w.alloc o) := by
  obtain ⟨g, hg, hlt⟩ := h.lies
  refine ⟨var?_below ((Below.refl B w).alloc h.size o) hg hlt h.tab, by have := h.size; simp; omega, g, hg, hlt⟩


theorem heap_set {w : World} {b : Nat} {c : Array Value} {t : TypeId} {f : Nat × Nat} (h : w.heap[b]? = some (.cells c t f)) (i : Nat) (v : Value) : (w.setCell ⟨b, i, none⟩ v).heap[b]? = some (.cells (c.setIfInBounds i v) t f) := by
  obtain ⟨hlt, hk⟩ := Array.getElem?_eq_some_iff.1 h
  show (w.heap.modify b _)[b]? = _
  rw [Array.getElem?_eq_getElem (by rw [Array.size_modify]; exact hlt), Array.getElem_modify_self, hk]
  rfl
theorem heap_set_far {w : World} {b k : Nat} (hne : k ≠ b) (i : Nat) (v : Value) : (w.setCell ⟨b, i, none⟩ v).heap[k]? = w.heap[k]? := Below.heap_setCell _ _ _ _ hne
theorem heap_alloc {w : World} {k : Nat} (o : Obj) (hk : k < w.heap.size) : (w.alloc o).heap[k]? = w.heap[k]? := Below.heap_alloc _ _ _ hk
theorem heap_alloc' {w : World} {k : Nat} {x : Obj} (o : Obj) (hk : w.heap[k]? = some x) : (w.alloc o).heap[k]? = some x := by
  rw [heap_alloc o (Array.getElem?_eq_some_iff.1 hk).1]; exact hk

theorem heap_new (w : World) (o : Obj) {H : Nat} (h : w.heap.size = H) : (w.alloc o).heap[H]? = some o := by
  subst h; exact heap_alloc_new w o

theorem grownBy_setCell' (W : World) (b i : Nat) (v : Value) : W.grownBy (W.setCell ⟨b, i, none⟩ v) (some b) :=
  ⟨rfl, rfl, rfl, by simp, fun k _ hk => heap_set_far (fun e => hk (by rw [e])) i v⟩

/-- Behind the first statement: the two slices lie, in two new blocks. -/
structure Cut1 (b pl : Nat) (w wx : World) : Prop where
  obj : wx.heap[b]? = some (.cells #[.int .u32 0, .int .i32 1, .int .u32 0, .int .i64 0, .slice (some ⟨w.heap.size, 0, none⟩) 8 8, .slice (some ⟨w.heap.size + 1, 0, none⟩) 4 4, .slice none 0 0, .map none] 54 (0, 0))
  box : wx.heap[pl]? = some (.cells #[.pointer (some ⟨b, 0, none⟩)] 23 (0, 0))
  ops : wx.heap[w.heap.size]? = some (.cells (wordCells opWords) 9 (0, 0))
  modes : wx.heap[w.heap.size + 1]? = some (.cells (wordCells modeWords) 9 (0, 0))
  size : wx.heap.size = w.heap.size + 2
  grown : w.grownBy wx (some b)


theorem cut1_of (b pl : Nat) (w : World) (hbl : b ≠ pl) (h : Raw b w) (hp : w.heap[pl]? = some (.cells #[.pointer (some ⟨b, 0, none⟩)] 23 (0, 0))) : Cut1 b pl w
    ((((w.setCell { block := b, off := 4 } (Value.slice (some { block := w.heap.size, off := 0 }) 8 8)).setCell
                { block := b, off := 5 } (Value.slice (some { block := w.heap.size + 1, off := 0 }) 4 4)).alloc
            (Obj.cells (wordCells opWords) 9)).alloc
        (Obj.cells (wordCells modeWords) 9)).drew := by
  have hblt : b < w.heap.size := (Array.getElem?_eq_some_iff.1 h).1
  have hplt : pl < w.heap.size := (Array.getElem?_eq_some_iff.1 hp).1
  refine ⟨?_, ?_, ?_, ?_, ?_, ?_⟩
  · exact heap_alloc' _ (heap_alloc' _ (heap_set (heap_set h 4 _) 5 _))
  · refine heap_alloc' _ (heap_alloc' _ ?_)
    rw [heap_set_far (Ne.symm hbl), heap_set_far (Ne.symm hbl)]; exact hp
  · exact heap_alloc' _ (heap_new _ _ (by simp))
  · exact heap_new _ _ (by simp)
  · simp
  · refine ⟨rfl, rfl, rfl, by simp; omega, fun k hk hne => ?_⟩
    have hkb : k ≠ b := fun e => hne (by rw [e])
    show ((((w.setCell _ _).setCell _ _).alloc _).alloc _).heap[k]? = _
    rw [heap_alloc _ (by simp; omega), heap_alloc _ (by simpa using hk), heap_set_far hkb, heap_set_far hkb]

def errVals (k : Nat) : List Value := (List.range k).map fun i : Nat => .string (errWord i)
theorem errVals_succ (k : Nat) : errVals (k + 1) = errVals k ++ [.string (errWord k)] := by simp [errVals, List.range_succ]

/-- Behind k rounds of the loop over the errors. -/
structure ErrsAt (b pl : Nat) (w : World) (k : Nat) (v : Value) (wx : World) : Prop where
  obj : wx.heap[b]? = some (.cells #[.int .u32 0, .int .i32 1, .int .u32 0, .int .i64 0, .slice (some ⟨w.heap.size, 0, none⟩) 8 8, .slice (some ⟨w.heap.size + 1, 0, none⟩) 4 4, v, .map none] 54 (0, 0))
  box : wx.heap[pl]? = some (.cells #[.pointer (some ⟨b, 0, none⟩)] 23 (0, 0))
  ops : wx.heap[w.heap.size]? = some (.cells (wordCells opWords) 9 (0, 0))
  modes : wx.heap[w.heap.size + 1]? = some (.cells (wordCells modeWords) 9 (0, 0))
  own : wx.ownsRow (w.heap.size + 2) 9 1 v k (errVals k)
  size : w.heap.size + 2 ≤ wx.heap.size
  grown : w.grownBy wx (some b)

theorem errs_step {b pl : Nat} {w wr w1 : World} {k g cap : Nat} {v : Value} (hbl : b ≠ pl) (hb : b < w.heap.size) (hp : pl < w.heap.size) (hE : ErrsAt b pl w k v wr) (o : Obj)
    (hown : w1.ownsRow (w.heap.size + 2) 9 1 (.slice (some ⟨g, 0, none⟩) (k + 1) cap) (k + 1) (errVals k ++ [.string (errWord k)])) (hgrow : ((wr.alloc o).drew).grownBy w1 v.ownBlock) :
    ErrsAt b pl w (k + 1) (.slice (some ⟨g, 0, none⟩) (k + 1) cap) (w1.setCell ⟨b, 6, none⟩ (.slice (some ⟨g, 0, none⟩) (k + 1) cap)) := by
  have hsz := hE.size
  have far : ∀ j, j < w.heap.size + 2 → w1.heap[j]? = wr.heap[j]? := fun j hj => by
    rw [hgrow.block j (by simp; omega) (fun e => by have := (hE.own.lt j e.symm).1; omega)]
    exact heap_alloc _ (by omega)
  have hg := hown.lt g rfl
  refine ⟨?_, ?_, ?_, ?_, ?_, ?_, ?_⟩
  · exact heap_set ((far b (by omega)).trans hE.obj) 6 _
  · rw [heap_set_far (Ne.symm hbl), far pl (by omega)]; exact hE.box
  · rw [heap_set_far (by omega), far _ (by omega)]; exact hE.ops
  · rw [heap_set_far (by omega), far _ (by omega)]; exact hE.modes
  · rw [errVals_succ]
    refine hown.kept (grownBy_setCell' w1 b 6 _) (.inr ?_)
    simp [Value.ownBlock]; omega
  · have := hgrow.size; simp at this ⊢; omega
  · have hos := hgrow.os; have htp := hgrow.tape; have hot := hgrow.output
    refine ⟨hos.trans hE.grown.os, htp.trans hE.grown.tape, hot.trans hE.grown.output, by have := hgrow.size; simp at this ⊢; omega, fun j hj hne => ?_⟩
    have hjb : j ≠ b := fun e => hne (by rw [e])
    rw [heap_set_far hjb, far j (by omega)]
    exact hE.grown.block j hj hne

def opKey (j : Nat) : Lit := .string (opWords.getD j ByteArray.empty).data.toList
/-- The map behind j rounds: the first j words, each with its command. -/
def mapUpTo : Nat → DataW Unit
  | 0 => .map []
  | j + 1 => (mapUpTo j).put (opKey j) (.lit (.int .i64 (j + 1)))

/-- Behind j rounds of the loop over the words. -/
structure MapAt (b pl : Nat) (w : World) (j : Nat) (v : Value) (bm : Nat) (wx : World) : Prop where
  obj : wx.heap[b]? = some (.cells #[.int .u32 0, .int .i32 1, .int .u32 0, .int .i64 0, .slice (some ⟨w.heap.size, 0, none⟩) 8 8, .slice (some ⟨w.heap.size + 1, 0, none⟩) 4 4, v, .map (some bm)] 54 (0, 0))
  box : wx.heap[pl]? = some (.cells #[.pointer (some ⟨b, 0, none⟩)] 23 (0, 0))
  ops : wx.heap[w.heap.size]? = some (.cells (wordCells opWords) 9 (0, 0))
  modes : wx.heap[w.heap.size + 1]? = some (.cells (wordCells modeWords) 9 (0, 0))
  own : wx.ownsRow (w.heap.size + 2) 9 1 v 15 (errVals 15)
  map : wx.ownsMap Tryd.prog 9 (plainElem Tryd.prog 3) bm j (mapUpTo j)
  mapFar : w.heap.size + 2 ≤ bm
  size : w.heap.size + 2 ≤ wx.heap.size
  grown : w.grownBy wx (some b)

theorem map_start {b pl : Nat} {w wr : World} {v : Value} (hbl : b ≠ pl) (hb : b < w.heap.size) (hp : pl < w.heap.size) (hE : ErrsAt b pl w 15 v wr) :
    MapAt b pl w 0 v wr.heap.size ((wr.alloc (Obj.map #[] 0)).setCell ⟨b, 7, none⟩ (.map (some wr.heap.size))) := by
  have hsz := hE.size
  have far : ∀ j, j < w.heap.size + 2 → (wr.alloc (Obj.map #[] 0)).heap[j]? = wr.heap[j]? := fun j hj => heap_alloc _ (by omega)
  have hgs := grownBy_setCell' (wr.alloc (Obj.map #[] 0)) b 7 (.map (some wr.heap.size))
  refine ⟨?_, ?_, ?_, ?_, ?_, ?_, hsz, ?_, ?_⟩
  · exact heap_set ((far b (by omega)).trans hE.obj) 7 _
  · rw [heap_set_far (Ne.symm hbl), far pl (by omega)]; exact hE.box
  · rw [heap_set_far (by omega), far _ (by omega)]; exact hE.ops
  · rw [heap_set_far (by omega), far _ (by omega)]; exact hE.modes
  · refine (hE.own.alloc _).kept hgs ?_
    cases hv : v.ownBlock with
    | none => exact .inl rfl
    | some g => right; intro e; have := (hE.own.lt g hv).1; simp at e; omega
  · exact (World.ownsMap_made wr Tryd.prog 9 (plainElem Tryd.prog 3)).kept hgs (by simp; omega)
  · simp; omega
  · refine ⟨hE.grown.os, hE.grown.tape, hE.grown.output, by simp; omega, fun j hj hne => ?_⟩
    have hjb : j ≠ b := fun e => hne (by rw [e])
    rw [heap_set_far hjb, far j (by omega)]
    exact hE.grown.block j hj hne

theorem wf_small {n : Int} (h0 : 0 ≤ n) (h : n ≤ 1000000) : (Lit.int .i64 n).wf = true := by
  simp [Lit.wf, IntKind.min, IntKind.max, IntKind.signed, IntKind.bits]; omega
theorem word_at (j : Nat) (h : j < 8) : (wordCells opWords)[j]? = some (.string (opWords.getD j ByteArray.empty)) := by
  have : opWords.length = 8 := rfl
  simp [wordCells, List.getElem?_map, List.getD, List.getElem?_eq_getElem (show j < opWords.length by omega)]
theorem op_key (j : Nat) (h : j < 8) : keyOf Tryd.prog 9 (.string (opWords.getD j ByteArray.empty)) = some (opKey j) := by
  refine keyOf_string_mk Tryd.underlying9 ?_
  have : ∀ x ∈ opWords, x.size ≤ 10 := by decide +kernel
  have h2 := this (opWords.getD j ByteArray.empty) (by rw [List.getD, List.getElem?_eq_getElem (show j < opWords.length from h)]; exact List.getElem_mem _)
  unfold maxLen; omega

theorem map_step {b pl : Nat} {w wr w1 : World} {j bm : Nat} {v : Value} (_hbl : b ≠ pl) (hb : b < w.heap.size) (hp : pl < w.heap.size) (hM : MapAt b pl w j v bm wr)
    (hown : w1.ownsMap Tryd.prog 9 (plainElem Tryd.prog 3) bm (j + 1) ((mapUpTo j).put (opKey j) (.lit (.int .i64 (j + 1))))) (hgrow : wr.grownBy w1 (some bm)) : MapAt b pl w (j + 1) v bm w1 := by
  have hsz := hM.size
  have hfar := hM.mapFar
  have far : ∀ k, k < w.heap.size + 2 → w1.heap[k]? = wr.heap[k]? := fun k hk => hgrow.block k (by omega) (by simp; omega)
  refine ⟨?_, ?_, ?_, ?_, ?_, hown, hfar, by have := hgrow.size; omega, ?_⟩
  · rw [far b (by omega)]; exact hM.obj
  · rw [far pl (by omega)]; exact hM.box
  · rw [far _ (by omega)]; exact hM.ops
  · rw [far _ (by omega)]; exact hM.modes
  · refine hM.own.kept hgrow ?_
    cases hv : v.ownBlock with
    | none => exact .inl rfl
    | some g =>
      right; intro e
      obtain rfl : g = bm := by simpa using e
      obtain ⟨es, clock, hm, _⟩ := hM.map
      rcases hM.own.2 with ⟨rfl, _⟩ | ⟨g', cap, cur, rfl, _, hg, _⟩
      · simp [Value.ownBlock] at hv
      · obtain rfl : g' = g := by simpa [Value.ownBlock] using hv
        rw [hm] at hg; cases hg
  · refine ⟨hgrow.os.trans hM.grown.os, hgrow.tape.trans hM.grown.tape, hgrow.output.trans hM.grown.output, by have := hgrow.size; omega, fun k hk hne => ?_⟩
    rw [far k (by omega)]
    exact hM.grown.block k hk hne

/-- The object with its tables: the once's word d, the lock's state l; the tables' blocks lie from H on. -/
def Tables (b : Nat) (d l : Int) (H : Nat) (w : World) : Prop := ∃ ao am bm v n base,
  w.heap[b]? = some (.cells #[.int .u32 d, .int .i32 l, .int .u32 0, .int .i64 1, .slice (some ⟨ao, 0, none⟩) 8 8, .slice (some ⟨am, 0, none⟩) 4 4, v, .map (some bm)] 54 (0, 0)) ∧
  w.heap[ao]? = some (.cells (wordCells opWords) 9 (0, 0)) ∧ w.heap[am]? = some (.cells (wordCells modeWords) 9 (0, 0)) ∧
  w.ownsRow base 9 1 v 15 (errVals 15) ∧ w.ownsMap Tryd.prog 9 (plainElem Tryd.prog 3) bm n (mapUpTo 8) ∧ ao ≠ b ∧ am ≠ b ∧ v.ownBlock ≠ some b ∧ bm ≠ b ∧ H ≤ ao ∧ H ≤ am ∧ H ≤ base ∧ H ≤ bm

theorem grown_trans {a b c : World} {x : Option Nat} (h : a.grownBy b x) (k : b.grownBy c x) : a.grownBy c x :=
  ⟨k.os.trans h.os, k.tape.trans h.tape, k.output.trans h.output, Nat.le_trans h.size k.size, fun i hi hne => (k.block i (Nat.lt_of_lt_of_le hi h.size) hne).trans (h.block i hi hne)⟩

theorem tables_end {b pl : Nat} {w wr : World} {bm : Nat} {v : Value} (_hbl : b ≠ pl) (hb : b < w.heap.size) (_hp : pl < w.heap.size) (hM : MapAt b pl w 8 v bm wr) :
    Tables b 0 1 w.heap.size (wr.setCell ⟨b, 3, none⟩ (.int .i64 1)) := by
  have hgs := grownBy_setCell' wr b 3 (.int .i64 1)
  have hfar := hM.mapFar
  have hvb : v.ownBlock ≠ some b := fun e => by have := (hM.own.lt b e).1; omega
  exact ⟨w.heap.size, w.heap.size + 1, bm, v, 8, _, heap_set hM.obj 3 _, by rw [heap_set_far (by omega)]; exact hM.ops, by rw [heap_set_far (by omega)]; exact hM.modes,
    hM.own.kept hgs (.inr hvb), hM.map.kept hgs (by simp; omega), by omega, by omega, hvb, by omega, by omega, by omega, by omega, by omega⟩

theorem Tryd.info9 : (Tryd.prog.info? 9).map (fun i => (i.zero, i.size, i.bytes)) = some (some (.string ByteArray.empty), 1, 16) := by kernel_rfl

set_option maxRecDepth 100000 in
set_option maxHeartbeats 1600000 in
theorem tables1 (B b pl : Nat) (w : World) (henv : Env B w) (hbl : b ≠ pl) (h : Raw b w) (hp : w.heap[pl]? = some (.cells #[.pointer (some ⟨b, 0, none⟩)] 23 (0, 0))) :
    Calls Tryd.prog 21 #[.pointer (some ⟨pl, 0, none⟩)] w fun e w' => e = .returned (.tuple #[]) ∧ Tables b 0 1 w.heap.size w' ∧ w.grownBy w' (some b) := by
  have hpc : w.cell? ⟨pl, 0, none⟩ = some (.pointer (some ⟨b, 0, none⟩)) := by rw [cell_of_heap hp]; rfl
  have h4 : w.cell? ⟨b, 4, none⟩ = some (.slice none 0 0) := by rw [cell_of_heap h]; rfl
  have h5 : w.cell? ⟨b, 5, none⟩ = some (.slice none 0 0) := by rw [cell_of_heap h]; rfl
  have hz : ∀ i, w.frozen? ⟨b, i, none⟩ = false := by intro i; simp [World.frozen?, show w.heap[b]? = _ from h]
  have hblt : b < w.heap.size := (Array.getElem?_eq_some_iff.1 h).1
  have hplt : pl < w.heap.size := (Array.getElem?_eq_some_iff.1 hp).1
  obtain ⟨i0, hi, hz0, hz1, hz2⟩ := info_parts Tryd.info9
  go_enter Tryd.func21, Tryd.ntmps21
  go_upto_region 0 with fail
  go_cut [] (fun wx => Cut1 b pl w wx)
  case first =>
    go_region_held3 (fun w' => w'.cell? ⟨pl, 0, none⟩ = some (.pointer (some ⟨b, 0, none⟩))) (repeat (first | assumption | refine kc_alloc ?_ _ | refine kc_drew ?_ | refine kc_set ?_ (by simp; omega) _))
      (first | (go_at_call 22; ((with_reducible refine (split_ops _ ?_).mono ?_)); (exact henv.tab); rintro e w' ⟨rfl, rfl⟩) | (go_at_call 22; ((with_reducible refine (split_modes _ ?_).mono ?_)); (exact (henv.alloc _).tab); rintro e w' ⟨rfl, rfl⟩))
    all_goals (go_wp2_with fail; go_meet)
    case rel => exact cut1_of b pl w hbl h hp
  case rest =>
    clear hpc h4 h5 hz h hp
    have hE0 : ErrsAt b pl w 0 (.slice none 0 0) wc := ⟨hcut.obj, hcut.box, hcut.ops, hcut.modes, World.ownsRow_nil _ _ _ _, by have := hcut.size; omega, hcut.grown⟩
    clear hcut henv
    go_wp2_with fail
    go_loopw [1] (fun s wr => ∃ k : Nat, k ≤ 15 ∧ s = .int .i64 k ∧ ∃ v, ErrsAt b pl w k v wr) (fun s _ => 15 - (intOf s).toNat)
    case atStart => exact ⟨0, by omega, rfl, _, hE0⟩
    case round =>
      obtain ⟨k, hk, rfl, v, hE⟩ := hrel
      clear hE0
      by_cases hlt : k < 15
      · have hlt' : (k : Int) ≤ 14 := by omega
        have hpc : wr.cell? ⟨pl, 0, none⟩ = some (.pointer (some ⟨b, 0, none⟩)) := by rw [cell_of_heap hE.box]; rfl
        have h6 : wr.cell? ⟨b, 6, none⟩ = some v := by rw [cell_of_heap hE.obj]; rfl
        have hz6 : wr.frozen? ⟨b, 6, none⟩ = false := by simp [World.frozen?, hE.obj]
        have hHE := hid hE
        clear hE
        have h6' : ∀ o, (wr.alloc o).cell? ⟨b, 6, none⟩ = some v := fun o => kc_alloc h6 o
        have hpc' : ∀ o, (wr.alloc o).cell? ⟨pl, 0, none⟩ = some (.pointer (some ⟨b, 0, none⟩)) := fun o => kc_alloc hpc o
        go_upto_block 1 with fail
        go_cut [] (fun wx => ∃ v', ErrsAt b pl w (k + 1) v' wx)
        case first =>
          go_wp2_with fail
          have hown := hHE.out.own
          have hsz := hHE.out.size
          have hnb : v.ownBlock ≠ some b := fun e => by have := (hown.lt b e).1; omega
          have hnpl : v.ownBlock ≠ some pl := fun e => by have := (hown.lt pl e).1; omega
          have hm : k + 1 ≤ maxLen := by unfold maxLen; omega
          go_region_law (first
            | (refine step_append_lies _ (by rfl) (.tmp 20) (.tmp 23) 26 (by rfl) (w.heap.size + 2) 9 i0 _ 1 16 Tryd.underlying26 hi hz0 hz1 hz2 rfl (by omega) v k (errVals k) (by rfl) ((hown.alloc _).drew)
                ⟨wr.heap.size, 0, none⟩ 1 1 [.string (errWord k)] (by rfl) (by rfl) (World.news_of_block (cs := #[.string (errWord k)]) (t := 9) (fr := (0, 0)) (heap_alloc_new wr _)) (by simp [Value.oneCell'])
                (by omega) hm (by omega) (by simp; omega) (wr.heap.size + 1) (by simp) ?_
               intro gg cap w1 hown1 hgrow hat hlt2
               have hc6 : w1.cell? ⟨b, 6, none⟩ = some v := by rw [hgrow.cell_far ⟨b, 6, none⟩ (by simp; omega) (Ne.symm hnb)]; exact kc_drew (kc_alloc h6 _)
               have hcp : w1.cell? ⟨pl, 0, none⟩ = some (.pointer (some ⟨b, 0, none⟩)) := by rw [hgrow.cell_far ⟨pl, 0, none⟩ (by simp; omega) (Ne.symm hnpl)]; exact kc_drew (kc_alloc hpc _)
               have hf6 : w1.frozen? ⟨b, 6, none⟩ = false := by rw [hgrow.frozen_far ⟨b, 6, none⟩ (by simp; omega) (Ne.symm hnb)]; rw [World.frozen?_drew, World.frozen?_alloc_old _ _ _ (by simp; omega)]; exact hz6)
            | (go_simp; go_at_call 15; refine (error_any _ _).mono ?_; rintro e w' ⟨rfl, rfl⟩))
          all_goals (go_wp2_with fail; go_meet)
          all_goals exact ⟨_, errs_step hbl hblt hplt hHE.out _ hown1 hgrow⟩
        case rest =>
          clear hpc h6 hz6 hHE h6' hpc'
          obtain ⟨v', hE'⟩ := hcut
          go_wp2_with fail
          go_roundw
          case rel => exact ⟨k + 1, by omega, by go_num, v', hE'⟩
          case measure => simp [intOf]; omega
      · have hlt' : (14 : Int) < (k : Int) := by omega
        obtain rfl : k = 15 := by omega
        rw [show ((15 : Nat) : Int) = 15 from rfl]
        clear hlt hk
        have hpc : wr.cell? ⟨pl, 0, none⟩ = some (.pointer (some ⟨b, 0, none⟩)) := by rw [cell_of_heap hE.box]; rfl
        have h7 : wr.cell? ⟨b, 7, none⟩ = some (.map none) := by rw [cell_of_heap hE.obj]; rfl
        have hz7 : wr.frozen? ⟨b, 7, none⟩ = false := by simp [World.frozen?, hE.obj]
        have hmm := @run_makeMap Tryd.prog
        have hHE := hid hE
        clear hE
        have hpc' : ∀ o, (wr.alloc o).cell? ⟨pl, 0, none⟩ = some (.pointer (some ⟨b, 0, none⟩)) := fun o => kc_alloc hpc o
        have h7' : ∀ o, (wr.alloc o).cell? ⟨b, 7, none⟩ = some (.map none) := fun o => kc_alloc h7 o
        have hz7' : ∀ o, (wr.alloc o).frozen? ⟨b, 7, none⟩ = false := fun o => by rw [World.frozen?_alloc_old _ _ _ (by have := hHE.out.size; simp; omega)]; exact hz7
        go_upto_region 6 with fail
        have hM0 := map_start hbl hblt hplt hHE.out
        clear hpc h7 hz7 hHE hpc' h7' hz7' hmm
        generalize ((wr.alloc (Obj.map #[] 0)).setCell { block := b, off := 7 } (Value.map (some wr.heap.size))) = w2 at hM0 ⊢
        generalize wr.heap.size = bm at hM0 ⊢
        have hpc2 : w2.cell? ⟨pl, 0, none⟩ = some (.pointer (some ⟨b, 0, none⟩)) := by rw [cell_of_heap hM0.box]; rfl
        have h42 : w2.cell? ⟨b, 4, none⟩ = some (.slice (some ⟨w.heap.size, 0, none⟩) 8 8) := by rw [cell_of_heap hM0.obj]; rfl
        have hMM := hid hM0
        clear hM0
        go_wp2_with fail
        clear hpc2 h42
        go_loopw [36] (fun s wx => ∃ j : Nat, j ≤ 8 ∧ s = .int .i64 j ∧ MapAt b pl w j v bm wx) (fun s _ => 8 - (intOf s).toNat)
        case atStart => exact ⟨0, by omega, rfl, hMM.out⟩
        case round =>
          obtain ⟨j, hj, rfl, hM⟩ := hrel
          clear hMM
          by_cases hlt : j < 8
          · obtain ⟨s, hs⟩ : ∃ s, s = opWords.getD j ByteArray.empty := ⟨_, rfl⟩
            have hpc : wr.cell? ⟨pl, 0, none⟩ = some (.pointer (some ⟨b, 0, none⟩)) := by rw [cell_of_heap hM.box]; rfl
            have h7 : wr.cell? ⟨b, 7, none⟩ = some (.map (some bm)) := by rw [cell_of_heap hM.obj]; rfl
            have hw : wr.cell? ⟨w.heap.size, j, none⟩ = some (.string s) := by rw [cell_of_heap hM.ops, hs]; exact word_at j hlt
            have hkey : keyOf Tryd.prog 9 (.string s) = some (opKey j) := by rw [hs]; exact op_key j hlt
            have hown := hM.map
            have hMM := hid hM
            clear hM hs
            go_wp2_with (at_mapUpdate; refine wpList_mapUpdate_own _ rfl _ _ _ 52 rfl 9 3 (Maps.string_keyed Tryd.underlying9) Tryd.underlying52 _ bm j _ rfl hown (by unfold maxLen; omega) _ _ _ rfl rfl hkey _ [] (plainElem_int Tryd.underlying3 ?hwf) ?_)
            case hwf => exact wf_small (by omega) (by omega)
            intro w1 hown1 hgrow1
            have hM1 := map_step hbl hblt hplt hMM.out hown1 hgrow1
            clear hMM hown1 hgrow1 hown hkey hw h7 hpc
            go_wp2_with fail
            go_roundw
            case rel => exact ⟨j + 1, by omega, by go_num, hM1⟩
            case measure => simp [intOf]; omega
          · obtain rfl : j = 8 := by omega
            clear hlt hj
            have hpc : wr.cell? ⟨pl, 0, none⟩ = some (.pointer (some ⟨b, 0, none⟩)) := by rw [cell_of_heap hM.box]; rfl
            have h3 : wr.cell? ⟨b, 3, none⟩ = some (.int .i64 0) := by rw [cell_of_heap hM.obj]; rfl
            have hz3 : wr.frozen? ⟨b, 3, none⟩ = false := by simp [World.frozen?, hM.obj]
            have hadd := run_call_add (P := Tryd.prog) Tryd.func28 (by kernel_rfl) (by kernel_rfl) (by kernel_rfl) .i64 (by kernel_rfl) (y := 1) (s := 1) h3 hz3 (by simp [go_sem]; rfl)
            have hMM := hid hM
            clear hM
            go_wp2
            go_end0
            exact ⟨rfl, tables_end hbl hblt hplt hMM.out, grown_trans hMM.out.grown (grownBy_setCell' wr b 3 _)⟩
end Go.Proofs.YtdndckkfdlchpaaDoor
