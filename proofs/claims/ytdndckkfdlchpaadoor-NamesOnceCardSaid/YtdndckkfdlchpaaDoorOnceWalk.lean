/-
  NamesOnce: the walk.
-/
import Derived.Test.YtdndckkfdlchpaaDoorTellWalk
import Derived.Deep.QuietTactic
import Derived.BigQuiet
import Derived.IntWalk
namespace Go.Proofs.YtdndckkfdlchpaaDoor
open Go.Proofs
open Go.RowKit Go.WideMaps

/-- The made row: of k strings, the first i are X. -/
def Row (g k i : Nat) (X : ByteArray) (w : World) : Prop := ∃ cur, w.heap[g]? = some (.cells cur 9 (0, 0)) ∧ cur.size = k ∧ (∀ j, i ≤ j → j < k → ∃ s, cur[j]? = some (.string s)) ∧ ∀ j, j < i → cur[j]? = some (.string X)

theorem Row.kept {g k i : Nat} {X : ByteArray} {w w' : World} {r : Option Nat} (h : Row g k i X w) (hg : w.grownBy w' r) (hr : some g ≠ r) : Row g k i X w' := by
  obtain ⟨cur, h1, h2⟩ := h
  exact ⟨cur, (hg.block g (Array.getElem?_eq_some_iff.1 h1).1 hr).trans h1, h2⟩
theorem Row.cell {g k i : Nat} {X : ByteArray} {w : World} (h : Row g k i X w) (hik : i < k) : ∃ s, w.cell? ⟨g, i, none⟩ = some (.string s) := by
  obtain ⟨cur, h1, _, h3, _⟩ := h
  obtain ⟨s, hs⟩ := h3 i (Nat.le_refl _) hik
  exact ⟨s, by rw [cell_of_heap h1]; exact hs⟩
theorem Row.free {g k i : Nat} {X : ByteArray} {w : World} (h : Row g k i X w) (j : Nat) : w.frozen? ⟨g, j, none⟩ = false := by
  obtain ⟨cur, h1, _⟩ := h
  simp [World.frozen?, h1]
theorem Row.set {g k i : Nat} {X : ByteArray} {w : World} (h : Row g k i X w) (hik : i < k) : Row g k (i + 1) X (w.setCell ⟨g, i, none⟩ (.string X)) := by
  obtain ⟨cur, h1, h2, h3, h4⟩ := h
  refine ⟨_, heap_set h1 i _, by simp [h2], fun j hj hjk => ?_, fun j hj => ?_⟩
  · rw [Array.getElem?_setIfInBounds_ne (by omega)]; exact h3 j (by omega) hjk
  · by_cases e : j = i
    · subst e; rw [Array.getElem?_setIfInBounds_self_of_lt (by omega)]
    · rw [Array.getElem?_setIfInBounds_ne (by omega)]; exact h4 j (by omega)
theorem Row.at {g k i : Nat} {X : ByteArray} {w : World} (h : Row g k i X w) {j : Nat} (hj : j < i) : w.cell? ⟨g, j, none⟩ = some (.string X) := by
  obtain ⟨cur, h1, _, _, h4⟩ := h
  rw [cell_of_heap h1]; exact h4 j hj
theorem Row.new (w : World) (n : Nat) (X : ByteArray) : Row w.heap.size n 0 X (w.alloc (.cells (madeCells #[.string ByteArray.empty] n) 9)) := by
  refine ⟨_, heap_new w _ rfl, by simp [madeCells], fun j _ hj => ⟨ByteArray.empty, ?_⟩, fun j hj => by omega⟩
  have := toList_madeCells_one (.string ByteArray.empty) n
  rw [← Array.getElem?_toList, this, List.getElem?_replicate, if_pos hj]

theorem Tables.set_far {b H : Nat} {w : World} (h : Tables b 1 0 H w) {g : Nat} (hgb : g ≠ b) (hg : g < H) (i : Nat) (v : Value) : Tables b 1 0 H (w.setCell ⟨g, i, none⟩ v) := by
  obtain ⟨ao, am, bm, u, n, base, h1, h2, h3, h4, h5, n1, n2, n3, n4, m1, m2, m3, m4⟩ := h
  have hgs := grownBy_setCell' w g i v
  refine ⟨ao, am, bm, u, n, base, by rw [heap_set_far (Ne.symm hgb)]; exact h1, by rw [heap_set_far (by omega)]; exact h2, by rw [heap_set_far (by omega)]; exact h3, h4.kept hgs ?_, h5.kept hgs (by simp; omega), n1, n2, n3, n4, m1, m2, m3, m4⟩
  cases hu : u.ownBlock with
  | none => exact .inl rfl
  | some k => right; intro e; have := (h4.lt k hu).1; simp at e; omega

/-- What stands in every round of NamesOnce. -/
structure OnceAt (B b g n j : Nat) (X : ByteArray) (w wr : World) : Prop where
  env : Env B wr
  has : Has b (g + 1) wr
  done : 1 ≤ j → Tables b 1 0 (g + 1) wr
  row : Row g n j X wr
  grown : w.grownBy wr none

theorem once_step {B b g n j : Nat} {X : ByteArray} {w wr w6 : World} (hgr : w.grownBy wr none) (hg : wr.grownBy w6 (some b)) (hfar : w.heap.size ≤ b) (hfg : w.heap.size ≤ g) (he : Env B w6) (hBg : B ≤ g) (hT : Tables b 1 0 (g + 1) w6) (hgb : g ≠ b) (hR : Row g n j X w6) (hj : j < n) :
    OnceAt B b g n (j + 1) X w (w6.setCell ⟨g, j, none⟩ (.string X)) := by
  have hT' := hT.set_far hgb (by omega) j (.string X)
  refine ⟨he.set hBg j _, .inr hT', fun _ => hT', hR.set hj, ?_⟩
  exact grown_far (grown_far hgr hg hfar) (grownBy_setCell' w6 g j _) hfg

theorem once_kept {B b g n j : Nat} {X : ByteArray} {w wr : World} (h : OnceAt B b g n j X w wr) (cs : Array Value) : OnceAt B b g n j X w (wr.alloc (.cells cs 9)).drew := by
  have hg : wr.grownBy (wr.alloc (.cells cs 9)).drew none := grown_trans (World.grownBy_alloc wr (.cells cs 9) none) (drew_grown _ _)
  exact ⟨h.env.grown hg (by rintro k ⟨⟩), h.has.kept hg, fun hj => (h.done hj).kept hg, h.row.kept hg (by simp), grown_trans h.grown hg⟩

theorem make_lit {P : Program} {t e : TypeId} {i : TypeInfo} {z : Value} (ht : P.underlying t = some (.slice e)) (hi : P.info? e = some i) (hz : i.zero = some z) (n : Nat) (hb : (i.bytes : Int) * (n : Int) ≤ 281474976710656) (hn : n ≤ 1000000) (W : World) :
    (Instr.makeSlice t (.int .i64 (n : Int)) (.int .i64 (n : Int))).run P W = .ok (.slice (some ⟨W.heap.size, 0, none⟩) n n) (W.alloc (.cells (madeCells z.cells (n * i.size)) e)) := by
  have := run_make (P := P) W t e i z ht hi hz .i64 .i64 (n : Int) (n : Int) (by omega) (by omega) hb (by omega)
  simpa using this

set_option maxRecDepth 100000 in
set_option maxHeartbeats 3200000 in
theorem once_any (B : Nat) (m : Int) (hm0 : 0 ≤ m) (hm1 : m ≤ 255) (op : Int) (ho0 : 0 ≤ op) (ho1 : op ≤ 255) (w : World) (henv : Env B w) :
    Calls Tryd.prog 4 #[.int .u8 m, .int .u8 op] w fun e w' => e = .returned (.bool true) ∧ w.grownBy w' none := by
  obtain ⟨i0, hi, hz0, hz1, hz2⟩ := info_parts Tryd.info9
  go_enter Tryd.func4, Tryd.ntmps4
  go_wp2_with fail
  refine (awake_any B w henv).mono ?_
  rintro e w1 ⟨rfl, hg1⟩
  have he1 := henv.grown hg1 (by rintro k ⟨⟩)
  have hB := he1.size
  have hgg1 := hid hg1
  clear hg1 henv
  go_wp2_with fail
  refine (new_any w1).mono ?_
  rintro e w2 ⟨rfl, rfl⟩
  have hF := fresh_new w1
  have he2 := he1.alloc (.cells #[.int .u32 0, .int .i32 0, .int .u32 0, .int .i64 0, .slice none 0 0, .slice none 0 0, .slice none 0 0, .map none] 54)
  have hg2 := World.grownBy_alloc w1 (.cells #[.int .u32 0, .int .i32 0, .int .u32 0, .int .i64 0, .slice none 0 0, .slice none 0 0, .slice none 0 0, .map none] 54) none
  generalize w1.alloc (.cells #[.int .u32 0, .int .i32 0, .int .u32 0, .int .i64 0, .slice none 0 0, .slice none 0 0, .slice none 0 0, .map none] 54) = w2 at hF he2 hg2 ⊢
  have hw1 := hgg1.out.size
  have hgg2 := hid (grown_trans hgg1.out hg2)
  clear hg2 he1 hgg1
  obtain ⟨n, hn, hn1, hn2⟩ : ∃ n : Nat, 1 + m % 20 = n ∧ 1 ≤ n ∧ n ≤ 20 := ⟨(1 + m % 20).toNat, by omega, by omega, by omega⟩
  have hmk : ∀ W : World, (Instr.makeSlice 26 (.int .i64 n) (.int .i64 n)).run Tryd.prog W = .ok (.slice (some ⟨W.heap.size, 0, none⟩) n n) (W.alloc (.cells (madeCells #[.string ByteArray.empty] n) 9)) := fun W => by
    have := make_lit (P := Tryd.prog) (t := 26) Tryd.underlying26 hi hz0 n (by rw [hz2]; omega) (by omega) W
    rw [hz1, Nat.mul_one] at this
    exact this
  go_upto_region 7 with fail
  generalize hX0 : wordAt opWords (1 + op % 8) = X
  have hX := hid hX0
  clear hX0
  generalize hbb : w1.heap.size = b at hF ⊢
  have hO : OnceAt B b w2.heap.size n 0 X w (w2.alloc (.cells (madeCells #[.string ByteArray.empty] n) 9)) :=
    ⟨he2.alloc _, .inl ⟨hF.kept (World.grownBy_alloc w2 _ none) (by simp), by simp⟩, fun h => by omega, Row.new w2 n X, grown_trans hgg2.out (World.grownBy_alloc w2 _ none)⟩
  have hbw2 : b < w2.heap.size := (Array.getElem?_eq_some_iff.1 hF).1
  have hgb : w2.heap.size ≠ b := by omega
  have hfg : w.heap.size ≤ w2.heap.size := by omega
  have hBg : B ≤ w2.heap.size := by omega
  have hbB : B ≤ b := by omega
  have hfar : w.heap.size ≤ b := by omega
  have hOO := hid hO
  clear hO hF he2 hgg2 hB hw1 hbb hbw2
  go_wp2_with fail
  generalize w2.alloc (.cells (madeCells #[.string ByteArray.empty] n) 9) = w3 at hOO ⊢
  generalize w2.heap.size = g at hOO hgb hfg hBg ⊢
  clear hmk
  go_loopw [8] (fun s wr => ∃ j : Nat, j ≤ n ∧ s = .int .i64 j ∧ OnceAt B b g n j X w wr) (fun s _ => n - (intOf s).toNat)
  case atStart => exact ⟨0, by omega, rfl, hOO.out⟩
  case round =>
    obtain ⟨j, hj, rfl, hT⟩ := hrel
    clear hOO
    by_cases hlt : j < n
    · have he := hT.env
      have hh := hT.has
      have hrw := hT.row
      have hgr := hid hT.grown
      clear hT
      have h3 : (j : Int) % 3 = 0 ∨ (j : Int) % 3 = 1 ∨ (j : Int) % 3 = 2 := by omega
      rcases h3 with h3 | h3 | h3
      · have t0 : (((j : Int) % 3) == 0) = true := by simp [h3]
        clear h3
        go_wp2_with fail
        refine (mode_any B b j (by omega) (by omega) wr he hbB hh).mono ?_
        rintro e w5 ⟨rfl, hT5, hg5⟩
        have he5 := he.grown hg5 (by rintro k ⟨⟩; exact hbB)
        have hrw5 : Row g n j X w5 := hrw.kept hg5 (by simp; omega)
        have hgg5 := hid hg5
        clear hg5 he hrw hh
        go_wp2_with fail
        refine (op_any B b (1 + op % 8) (by omega) (by omega) w5 he5 hbB (.inr hT5)).mono ?_
        rintro e w6 ⟨rfl, hT6, hg6⟩
        have he6 := he5.grown hg6 (by rintro k ⟨⟩; exact hbB)
        have hrw6 : Row g n j X w6 := hrw5.kept hg6 (by simp; omega)
        have hgg6 := hid (grown_trans hgg5.out hg6)
        clear hg6 hgg5 he5 hT5 hrw5
        rw [hX.out]
        obtain ⟨s0, hs0⟩ := hrw6.cell hlt
        have hf0 := hrw6.free j
        have hR6 := hid hrw6
        have hT66 := hid hT6
        clear hrw6 hT6
        go_wp2_with fail
        go_roundw
        case rel => exact ⟨j + 1, by omega, by go_num, once_step hgr.out hgg6.out hfar hfg he6 hBg hT66.out hgb hR6.out hlt⟩
        case measure => simp [intOf]; omega
      · have t0 : (((j : Int) % 3) == 0) = false := by simp [h3]
        have t1 : (((j : Int) % 3) == 1) = true := by simp [h3]
        clear h3
        go_wp2_with fail
        refine (number_any B b ⟨#[116, 105, 99, 107]⟩ (by decide) wr he hbB hh).mono ?_
        rintro e w5 ⟨rfl, hT5, hg5⟩
        have he5 := he.grown hg5 (by rintro k ⟨⟩; exact hbB)
        have hrw5 : Row g n j X w5 := hrw.kept hg5 (by simp; omega)
        have hgg5 := hid hg5
        clear hg5 he hrw hh
        go_wp2_with fail
        refine (op_any B b (1 + op % 8) (by omega) (by omega) w5 he5 hbB (.inr hT5)).mono ?_
        rintro e w6 ⟨rfl, hT6, hg6⟩
        have he6 := he5.grown hg6 (by rintro k ⟨⟩; exact hbB)
        have hrw6 : Row g n j X w6 := hrw5.kept hg6 (by simp; omega)
        have hgg6 := hid (grown_trans hgg5.out hg6)
        clear hg6 hgg5 he5 hT5 hrw5
        rw [hX.out]
        obtain ⟨s0, hs0⟩ := hrw6.cell hlt
        have hf0 := hrw6.free j
        have hR6 := hid hrw6
        have hT66 := hid hT6
        clear hrw6 hT6
        go_wp2_with fail
        go_roundw
        case rel => exact ⟨j + 1, by omega, by go_num, once_step hgr.out hgg6.out hfar hfg he6 hBg hT66.out hgb hR6.out hlt⟩
        case measure => simp [intOf]; omega
      · have t0 : (((j : Int) % 3) == 0) = false := by simp [h3]
        have t1 : (((j : Int) % 3) == 1) = false := by simp [h3]
        clear h3
        go_wp2_with fail
        refine (err_any B b j (by omega) (by omega) wr he hbB hh).mono ?_
        rintro e w5 ⟨rfl, hT5, hg5⟩
        have he5 := he.grown hg5 (by rintro k ⟨⟩; exact hbB)
        have hrw5 : Row g n j X w5 := hrw.kept hg5 (by simp; omega)
        have hgg5 := hid hg5
        clear hg5 he hrw hh
        go_wp2_with fail
        refine (op_any B b (1 + op % 8) (by omega) (by omega) w5 he5 hbB (.inr hT5)).mono ?_
        rintro e w6 ⟨rfl, hT6, hg6⟩
        have he6 := he5.grown hg6 (by rintro k ⟨⟩; exact hbB)
        have hrw6 : Row g n j X w6 := hrw5.kept hg6 (by simp; omega)
        have hgg6 := hid (grown_trans hgg5.out hg6)
        clear hg6 hgg5 he5 hT5 hrw5
        rw [hX.out]
        obtain ⟨s0, hs0⟩ := hrw6.cell hlt
        have hf0 := hrw6.free j
        have hR6 := hid hrw6
        have hT66 := hid hT6
        clear hrw6 hT6
        go_wp2_with fail
        go_roundw
        case rel => exact ⟨j + 1, by omega, by go_num, once_step hgr.out hgg6.out hfar hfg he6 hBg hT66.out hgb hR6.out hlt⟩
        case measure => simp [intOf]; omega
    · obtain rfl : j = n := by omega
      clear hlt hj
      have hTT := hid hT
      clear hT
      go_wp2_with fail
      go_loopw [9] (fun s wr' => ∃ i : Nat, i ≤ j ∧ s = .int .i64 i ∧ OnceAt B b g j j X w wr') (fun s _ => j - (intOf s).toNat)
      case atStart => exact ⟨0, by omega, rfl, hTT.out⟩
      case round =>
        obtain ⟨i, hi', rfl, hT⟩ := hrel
        clear hTT
        by_cases hlt : i < j
        · have hc := hT.row.at hlt
          have hTT := hid hT
          clear hT
          have hwc : ∀ W : World, (W.alloc (.cells (wordCells lawWords) 9)).cell? ⟨W.heap.size, (1 + op % 8).toNat, none⟩ = some (.string X) := fun W => by
            rw [cell_of_heap (heap_new W _ rfl), law_word _ (by omega), law_word_at _ (by omega) (by omega), ← hX.out]
            congr 2
            rw [Int.toNat_of_nonneg (by omega)]
          go_upto_region 21 with fail
          have q00 : IntKind.i64.wrap op = op := IntWalk.i64_in _ (by omega)
          have q01 : op.tmod 8 = op % 8 := Int.tmod_eq_emod_of_nonneg ho0
          have q02 : IntKind.i64.wrap (op % 8) = op % 8 := IntWalk.i64_in _ (by omega)
          have q1 : IntKind.i64.wrap (1 + op % 8) = 1 + op % 8 := IntWalk.i64_in _ (by omega)
          have q2 : (0 : Int) ≤ 1 + op % 8 := by omega
          have q3 : 1 + op % 8 < (9 : Int) := by omega
          have hc' : ∀ o, (wr.alloc o).cell? ⟨g, i, none⟩ = some (.string X) := fun o => kc_alloc hc o
          have hwr := hwc wr
          go_region_with (go_at_call 10; ((with_reducible refine (words_any _).mono ?_)); rintro e w' ⟨rfl, rfl⟩)
          all_goals
            clear q00 q01 q02 q1 q2 q3 hc hc' hwr hwc
            go_wp2_with fail
            go_roundw
            case rel => exact ⟨i + 1, by omega, by go_num, once_kept hTT.out _⟩
            case measure => simp [intOf]; omega
        · have hD := hT.done hn1
          have hTT := hid hT
          clear hT
          go_wp2_with fail
          refine (made_done b wr hD).mono ?_
          rintro e w9 ⟨rfl, rfl⟩
          go_wp2_with fail
          go_ret
          exact ⟨rfl, hTT.out.grown⟩
end Go.Proofs.YtdndckkfdlchpaaDoor
