/-
  NamesKnown: the walk.
-/
import Derived.Test.YtdndckkfdlchpaaDoorTellWalk
import Derived.Deep.QuietTactic
import Derived.BigQuiet
import Derived.IntWalk
namespace Go.Proofs.YtdndckkfdlchpaaDoor
open Go.Proofs
open Go.RowKit Go.WideMaps

theorem Tables.kept_far {b H : Nat} {w w' : World} (h : Tables b 1 0 H w) {g : Nat} (hg : w.grownBy w' (some g)) (hgb : g ≠ b) (hgH : g < H) : Tables b 1 0 H w' := by
  obtain ⟨ao, am, bm, u, n, base, h1, h2, h3, h4, h5, n1, n2, n3, n4, m1, m2, m3, m4⟩ := h
  have far : ∀ {k : Nat} {o : Obj}, k ≠ g → w.heap[k]? = some o → w'.heap[k]? = some o := fun hk h => (hg.block _ (Array.getElem?_eq_some_iff.1 h).1 (by simp; exact hk)).trans h
  refine ⟨ao, am, bm, u, n, base, far (Ne.symm hgb) h1, far (by omega) h2, far (by omega) h3, h4.kept hg ?_, h5.kept hg (by simp; omega), n1, n2, n3, n4, m1, m2, m3, m4⟩
  cases hu : u.ownBlock with
  | none => exact .inl rfl
  | some k => right; intro e; have := (h4.lt k hu).1; simp at e; omega

/-- What stands in every round: the object a, asked or not; b, not asked. -/
structure KnownAt (B a b : Nat) (w wr : World) : Prop where
  env : Env B wr
  has : Has a (b + 1) wr
  fresh : Fresh b wr
  grown : w.grownBy wr none

def sixModes : List ByteArray := (⟨#[]⟩ :: modeWords) ++ [⟨#[]⟩]
theorem six_at (j : Nat) (h : j < 6) : (wordCells sixModes)[j]? = some (.string (wordAt modeWords j)) := by
  have hh : ∀ k : Fin 6, sixModes.getD k.val ByteArray.empty = wordAt modeWords k.val := by decide +kernel
  have : sixModes.length = 6 := rfl
  rw [← hh ⟨j, h⟩]
  simp [wordCells, List.getElem?_map, List.getD, List.getElem?_eq_getElem (show j < sixModes.length by omega)]

set_option maxRecDepth 100000 in
set_option maxHeartbeats 3200000 in
theorem known_any (B : Nat) (w : World) (henv : Env B w) :
    Calls Tryd.prog 5 #[] w fun e w' => e = .returned (.bool true) ∧ w.grownBy w' none := by
  go_enter Tryd.func5, Tryd.ntmps5
  go_wp2_with fail
  refine (awake_any B w henv).mono ?_
  rintro e w1 ⟨rfl, hg1⟩
  have he1 := henv.grown hg1 (by rintro k ⟨⟩)
  have hB := he1.size
  have hgg1 := hid hg1
  clear hg1 henv
  go_wp2_with fail
  refine (new_any w1).mono ?_
  rintro e w2 ⟨rfl, rfl⟩
  have hF := fresh_new w1
  have he2 := he1.alloc (.cells #[.int .u32 0, .int .i32 0, .int .u32 0, .int .i64 0, .slice none 0 0, .slice none 0 0, .slice none 0 0, .map none] 54)
  have hg2 := World.grownBy_alloc w1 (.cells #[.int .u32 0, .int .i32 0, .int .u32 0, .int .i64 0, .slice none 0 0, .slice none 0 0, .slice none 0 0, .map none] 54) none
  generalize w1.alloc (.cells #[.int .u32 0, .int .i32 0, .int .u32 0, .int .i64 0, .slice none 0 0, .slice none 0 0, .slice none 0 0, .map none] 54) = w2 at hF he2 hg2 ⊢
  have hw1 := hgg1.out.size
  have hgg2 := hid (grown_trans hgg1.out hg2)
  clear hg2 he1 hgg1
  generalize haa : w1.heap.size = a at hF ⊢
  go_wp2_with fail
  refine (new_any w2).mono ?_
  rintro e w3 ⟨rfl, rfl⟩
  have hK : KnownAt B a w2.heap.size w (w2.alloc (.cells #[.int .u32 0, .int .i32 0, .int .u32 0, .int .i64 0, .slice none 0 0, .slice none 0 0, .slice none 0 0, .map none] 54)) :=
    ⟨he2.alloc _, .inl ⟨hF.kept (World.grownBy_alloc w2 _ none) (by simp), by simp⟩, fresh_new w2, grown_trans hgg2.out (World.grownBy_alloc w2 _ none)⟩
  have hab : a < w2.heap.size := (Array.getElem?_eq_some_iff.1 hF).1
  have hBa : B ≤ a := by omega
  have hwa : w.heap.size ≤ a := by omega
  generalize w2.alloc (.cells #[.int .u32 0, .int .i32 0, .int .u32 0, .int .i64 0, .slice none 0 0, .slice none 0 0, .slice none 0 0, .map none] 54) = w3 at hK ⊢
  generalize w2.heap.size = b at hK hab ⊢
  have hKK := hid hK
  clear hK hF he2 hgg2 hB hw1 haa
  go_wp2_with fail
  go_loopw [3] (fun s wr => ∃ j : Nat, j ≤ 8 ∧ s = .int .i64 ((j : Int) + 1) ∧ KnownAt B a b w wr) (fun s _ => 9 - (intOf s).toNat)
  case atStart => exact ⟨0, by omega, rfl, hKK.out⟩
  case round =>
    obtain ⟨j, hj, rfl, hK⟩ := hrel
    clear hKK
    by_cases hlt : j < 8
    · have he := hK.env
      have hh := hK.has
      have hf := hK.fresh
      have hgr := hid hK.grown
      clear hK
      have hsz := wordAt_size ((j : Int) + 1)
      have hnum := num_of_word (j + 1) (by omega) (by omega)
      have hw9 := law_word_at (j + 1) (by omega) (by omega)
      rw [Int.natCast_add, show ((1 : Nat) : Int) = 1 from rfl] at hnum hw9
      generalize hx : wordAt opWords ((j : Int) + 1) = x at hsz hnum hw9
      have hX := hid hx
      have hN := hid hnum
      have hW := hid hw9
      have hS := hid hsz
      clear hx hnum hw9 hsz
      go_wp2_with fail
      refine (op_any B a ((j : Int) + 1) (by omega) (by omega) wr he hBa hh).mono ?_
      rintro e w4 ⟨rfl, hT4, hg4⟩
      rw [hX.out]
      have he4 := he.grown hg4 (by rintro k ⟨⟩; exact hBa)
      have hf4 := hf.kept hg4 (by simp; omega)
      have hgg4 := hid hg4
      clear hg4 he hh hf
      go_wp2_with fail
      refine (number_any B a x hS.out w4 he4 hBa (.inr hT4)).mono ?_
      rintro e w5 ⟨rfl, hT5, hg5⟩
      rw [hN.out, show decide (0 < j + 1) = true from by simp]
      have he5 := he4.grown hg5 (by rintro k ⟨⟩; exact hBa)
      have hf5 := hf4.kept hg5 (by simp; omega)
      have hgg5 := hid (grown_trans hgg4.out hg5)
      clear hg5 hgg4 he4 hf4 hT4
      go_wp2_with fail
      refine (op_any B a ((j : Int) + 1) (by omega) (by omega) w5 he5 hBa (.inr hT5)).mono ?_
      rintro e w6 ⟨rfl, hT6, hg6⟩
      rw [hX.out]
      have he6 := he5.grown hg6 (by rintro k ⟨⟩; exact hBa)
      have hf6 := hf5.kept hg6 (by simp; omega)
      have hgg6 := hid (grown_trans hgg5.out hg6)
      clear hg6 hgg5 he5 hf5 hT5
      go_wp2_with fail
      refine (words_any w6).mono ?_
      rintro e w7 ⟨rfl, rfl⟩
      have hc : (w6.alloc (.cells (wordCells lawWords) 9)).cell? ⟨w6.heap.size, j + 1, none⟩ = some (.string x) := by
        rw [cell_of_heap (heap_new w6 _ rfl), law_word _ (by omega), hW.out]
      go_wp2_with fail
      go_round
      case rel =>
        have hga := World.grownBy_alloc w6 (.cells (wordCells lawWords) 9) none
        exact ⟨j + 1, by omega, by go_num, he6.grown hga (by rintro k ⟨⟩), .inr (hT6.kept hga), hf6.kept hga (by simp), grown_trans (grown_far hgr.out hgg6.out hwa) hga⟩
      case measure => simp [intOf]; omega
    · obtain rfl : j = 8 := by omega
      rw [show ((8 : Nat) : Int) + 1 = 9 from rfl]
      have hga := World.grownBy_alloc wr (.cells #[.string ⟨#[]⟩, .string ⟨#[112, 102, 97, 105, 114]⟩, .string ⟨#[101, 97, 114, 108, 121]⟩, .string ⟨#[119, 114, 97, 112]⟩, .string ⟨#[116, 119, 105, 110]⟩, .string ⟨#[]⟩] 9) none
      have hK2 : KnownAt B a b w (wr.alloc (.cells #[.string ⟨#[]⟩, .string ⟨#[112, 102, 97, 105, 114]⟩, .string ⟨#[101, 97, 114, 108, 121]⟩, .string ⟨#[119, 114, 97, 112]⟩, .string ⟨#[116, 119, 105, 110]⟩, .string ⟨#[]⟩] 9)) := ⟨hK.env.grown hga (by rintro k ⟨⟩), hK.has.kept hga, hK.fresh.kept hga (by simp), grown_trans hK.grown hga⟩
      have hm := heap_new wr (.cells #[.string ⟨#[]⟩, .string ⟨#[112, 102, 97, 105, 114]⟩, .string ⟨#[101, 97, 114, 108, 121]⟩, .string ⟨#[119, 114, 97, 112]⟩, .string ⟨#[116, 119, 105, 110]⟩, .string ⟨#[]⟩] 9) rfl
      have hbm : b < wr.heap.size := (Array.getElem?_eq_some_iff.1 hK.fresh).1
      have hKK := hid hK2
      clear hga hK2 hK
      go_wp2_with fail
      generalize wr.alloc (.cells #[.string ⟨#[]⟩, .string ⟨#[112, 102, 97, 105, 114]⟩, .string ⟨#[101, 97, 114, 108, 121]⟩, .string ⟨#[119, 114, 97, 112]⟩, .string ⟨#[116, 119, 105, 110]⟩, .string ⟨#[]⟩] 9) = w4 at hm hKK ⊢
      generalize wr.heap.size = mm at hm hbm ⊢
      have hM0 : w4.heap[mm]? = some (.cells (wordCells sixModes) 9 (0, 0)) := hm
      have hMM := hid hM0
      clear hm hM0 hlt hj
      go_loopw [7] (fun s wx => ∃ i : Nat, i ≤ 6 ∧ s = .int .i64 i ∧ KnownAt B a b w wx ∧ (1 ≤ i → Tables a 1 0 (b + 1) wx) ∧ wx.heap[mm]? = some (.cells (wordCells sixModes) 9 (0, 0))) (fun s _ => 6 - (intOf s).toNat)
      case atStart => exact ⟨0, by omega, rfl, hKK.out, fun h => by omega, hMM.out⟩
      case round =>
        obtain ⟨i, hi, rfl, hK, hTT, hm⟩ := hrel
        clear hKK hMM
        by_cases hlt : i < 6
        · have he := hK.env
          have hh := hK.has
          have hf := hK.fresh
          have hgr := hid hK.grown
          clear hK hTT
          have hc : wr.cell? ⟨mm, i, none⟩ = some (.string (wordAt modeWords i)) := by rw [cell_of_heap hm, six_at i hlt]
          generalize hx : wordAt modeWords i = x at hc
          have hX := hid hx
          have hmm := hid hm
          clear hx hm
          go_upto_region 16 with fail
          have hed := he.grown (drew_grown wr none) (by rintro k ⟨⟩)
          have hhd := hh.kept (drew_grown wr none)
          go_region_with (go_at_call 13; ((refine (mode_any B a i (by omega) (by omega) wr.drew hed hBa hhd).mono ?_)); rintro e w5 ⟨rfl, hT5, hg5'⟩; rw [hX.out]; have hg5 := grown_trans (drew_grown wr (some a)) hg5'; have hc5 : w5.cell? ⟨mm, i, none⟩ = some (.string x) := by rw [hg5.cell_far ⟨mm, i, none⟩ (World.block_lt_of_cell? _ _ hc) (by simp; omega)]; exact hc)
          all_goals
            have he5 := he.grown hg5 (by rintro k ⟨⟩; exact hBa)
            have hf5 := hf.kept hg5 (by simp; omega)
            have hgg5 := hid (grown_far hgr.out hg5 hwa)
            have hm5 := hid ((hg5.block mm (World.block_lt_of_cell? _ _ hc) (by simp; omega)).trans hmm.out)
            clear hg5 he hh hf hc hed hhd
            go_wp2_with fail
            go_roundw
            case rel => exact ⟨i + 1, by omega, by go_num, ⟨he5, .inr hT5, hf5, hgg5.out⟩, fun _ => hT5, hm5.out⟩
            case measure => simp [intOf]; omega
        · obtain rfl : i = 6 := by omega
          have he := hK.env
          have hT := hTT (by omega)
          have hf := hK.fresh
          have hgr := hid hK.grown
          clear hK hTT hm hlt hi
          go_wp2_with fail
          refine (number_any B a ⟨#[]⟩ (by decide) wr he hBa (.inr hT)).mono ?_
          rintro e w5 ⟨rfl, hT5, hg5⟩
          rw [num_none, show decide (0 < 0) = false from by decide]
          have he5 := he.grown hg5 (by rintro k ⟨⟩; exact hBa)
          have hf5 := hf.kept hg5 (by simp; omega)
          have hgg5 := hid (grown_far hgr.out hg5 hwa)
          clear hg5 he hf hT hgr
          go_wp2_with fail
          refine (made_done a w5 hT5).mono ?_
          rintro e w6 ⟨rfl, rfl⟩
          go_wp2_with fail
          refine (made_fresh b w5 hf5).mono ?_
          rintro e w6 ⟨rfl, rfl⟩
          go_wp2_with fail
          refine (err_any B b (H := 0) 99 (by decide) (by decide) w5 he5 (by omega) (.inl ⟨hf5, Nat.zero_le _⟩)).mono ?_
          rintro e w6 ⟨rfl, hU6, hg6⟩
          rw [show errWord 99 = ⟨#[101, 114, 114, 111, 114]⟩ from by decide]
          have he6 := he5.grown hg6 (by rintro k ⟨⟩; omega)
          have hT6 := hT5.kept_far hg6 (by omega) (by omega)
          have hgg6 := hid (grown_far hgg5.out hg6 (by omega))
          clear hg6 he5 hf5 hT5 hgg5
          go_wp2_with fail
          refine (made_done b w6 hU6).mono ?_
          rintro e w7 ⟨rfl, rfl⟩
          clear hU6
          go_wp2_with fail
          refine (op_any B a 0 (by decide) (by decide) w6 he6 hBa (.inr hT6)).mono ?_
          rintro e w7 ⟨rfl, hT7, hg7⟩
          rw [show wordAt opWords 0 = ⟨#[]⟩ from by decide]
          have he7 := he6.grown hg7 (by rintro k ⟨⟩; exact hBa)
          have hgg7 := hid (grown_far hgg6.out hg7 hwa)
          clear hg7 he6 hT6 hgg6
          go_wp2_with fail
          refine (op_any B a 9 (by decide) (by decide) w7 he7 hBa (.inr hT7)).mono ?_
          rintro e w8 ⟨rfl, hT8, hg8⟩
          rw [show wordAt opWords 9 = ⟨#[]⟩ from by decide]
          have he8 := he7.grown hg8 (by rintro k ⟨⟩; exact hBa)
          have hgg8 := hid (grown_far hgg7.out hg8 hwa)
          clear hg8 he7 hT7 hgg7
          go_wp2_with fail
          refine (op_any B a (-1) (by decide) (by decide) w8 he8 hBa (.inr hT8)).mono ?_
          rintro e w9 ⟨rfl, hT9, hg9⟩
          rw [show wordAt opWords (-1) = ⟨#[]⟩ from by decide]
          have he9 := he8.grown hg9 (by rintro k ⟨⟩; exact hBa)
          have hgg9 := hid (grown_far hgg8.out hg9 hwa)
          clear hg9 he8 hT8 hgg8
          go_wp2_with fail
          refine (err_any B a 0 (by decide) (by decide) w9 he9 hBa (.inr hT9)).mono ?_
          rintro e w10 ⟨rfl, hT10, hg10⟩
          rw [show errWord 0 = ⟨#[111, 107]⟩ from by decide]
          have he10 := he9.grown hg10 (by rintro k ⟨⟩; exact hBa)
          have hgg10 := hid (grown_far hgg9.out hg10 hwa)
          clear hg10 he9 hT9 hgg9
          go_wp2_with fail
          refine (err_any B a (-3) (by decide) (by decide) w10 he10 hBa (.inr hT10)).mono ?_
          rintro e w11 ⟨rfl, hT11, hg11⟩
          rw [show errWord (-3) = ⟨#[101, 114, 114, 111, 114]⟩ from by decide]
          have hgg11 := hid (grown_far hgg10.out hg11 hwa)
          clear hg11 he10 hT10 hT11 hgg10
          go_wp2_with fail
          go_ret
          exact ⟨rfl, hgg11.out⟩
end Go.Proofs.YtdndckkfdlchpaaDoor
