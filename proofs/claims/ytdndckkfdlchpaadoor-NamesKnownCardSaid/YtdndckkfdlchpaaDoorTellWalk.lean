/-
  NamesTell: the walk.
-/
import Derived.Test.YtdndckkfdlchpaaDoorBackWalk
namespace Go.Proofs.YtdndckkfdlchpaaDoor
open Go.Proofs
open Go.RowKit Go.WideMaps

theorem str_eq {a b : ByteArray} (h : a = b) : (a.toList == b.toList) = true := by subst h; simp
theorem str_ne {a b : ByteArray} (h : ¬ a = b) : (a.toList == b.toList) = false := by
  rw [ByteArray.toList_eq, ByteArray.toList_eq]
  simp only [beq_eq_false_iff_ne, ne_eq]
  exact fun e => h (bytes_ext e)
theorem law_word (j : Nat) (h : j < 9) : (wordCells lawWords)[j]? = some (.string (lawWords.getD j ByteArray.empty)) := by
  have : lawWords.length = 9 := rfl
  simp [wordCells, List.getElem?_map, List.getD, List.getElem?_eq_getElem (show j < lawWords.length by omega)]
theorem law_word_at (j : Nat) (h1 : 1 ≤ j) (h : j ≤ 8) : lawWords.getD j ByteArray.empty = wordAt opWords j := by
  have : ∀ k : Fin 9, 1 ≤ k.val → lawWords.getD k.val ByteArray.empty = wordAt opWords k.val := by decide +kernel
  exact this ⟨j, by omega⟩ h1
theorem law_word_succ (j : Nat) : lawWords.getD (j + 1) ByteArray.empty = opWords.getD j ByteArray.empty := rfl
def lawModes : List ByteArray := ⟨#[]⟩ :: modeWords
theorem law_mode (j : Nat) (h : j < 5) : (wordCells lawModes)[j]? = some (.string (lawModes.getD j ByteArray.empty)) := by
  have : lawModes.length = 5 := rfl
  simp [wordCells, List.getElem?_map, List.getD, List.getElem?_eq_getElem (show j < lawModes.length by omega)]
theorem law_mode_at (j : Nat) (h1 : 1 ≤ j) (h : j ≤ 4) : lawModes.getD j ByteArray.empty = wordAt modeWords j := by
  have : ∀ k : Fin 5, 1 ≤ k.val → lawModes.getD k.val ByteArray.empty = wordAt modeWords k.val := by decide +kernel
  exact this ⟨j, by omega⟩ h1
theorem mode_none (k : Int) (h : k < 1 ∨ 4 < k) : wordAt modeWords k = ⟨#[]⟩ := by
  have hl : modeWords.length = 4 := rfl
  unfold wordAt
  rw [if_pos (by omega)]

/-- What stands in every round: the object, asked or not; what lay ahead of the call is as it was. -/
structure TellAt (B b : Nat) (w wr : World) : Prop where
  env : Env B wr
  has : Has b 0 wr
  grown : w.grownBy wr none
  far : w.heap.size ≤ b

theorem grown_far {a b c : World} {k : Nat} (h : a.grownBy b none) (g : b.grownBy c (some k)) (hk : a.heap.size ≤ k) : a.grownBy c none :=
  ⟨g.os.trans h.os, g.tape.trans h.tape, g.output.trans h.output, Nat.le_trans h.size g.size, fun i hi _ => (g.block i (Nat.lt_of_lt_of_le hi h.size) (by simp; omega)).trans (h.block i hi (by simp))⟩
theorem Has.kept {b H : Nat} {w w' : World} (h : Has b H w) (hg : w.grownBy w' none) : Has b H w' := by
  rcases h with ⟨h, hle⟩ | h
  · exact .inl ⟨h.kept hg (by simp), Nat.le_trans hle hg.size⟩
  · exact .inr (h.kept hg)

set_option maxRecDepth 100000 in
set_option maxHeartbeats 3200000 in
theorem tell_any (B : Nat) (op : Int) (ho1 : -9223372036854775808 ≤ op) (ho2 : op ≤ 9223372036854775807) (s : ByteArray) (hs : s.size ≤ maxLen) (t : Int) (ht0 : 0 ≤ t) (ht1 : t ≤ 255) (w : World) (henv : Env B w) :
    Calls Tryd.prog 3 #[.int .i64 op, .string s, .int .u8 t] w fun e w' => e = .returned (.bool true) ∧ w.grownBy w' none := by
  have hs2 : s.size ≤ 9223372036854775807 := by unfold maxLen at hs; omega
  have hhs := hid hs
  clear hs
  go_enter Tryd.func3, Tryd.ntmps3
  go_wp2_with fail
  refine (awake_any B w henv).mono ?_
  rintro e w1 ⟨rfl, hg1⟩
  have he1 := henv.grown hg1 (by rintro k ⟨⟩)
  have hB := he1.size
  have hgg1 := hid hg1
  clear hg1 henv
  by_cases hlen : 100 < s.size
  · have hl : (100 : Int) < (s.size : Int) := by omega
    go_wp2_with fail
    go_ret
    exact ⟨rfl, hgg1.out⟩
  have hl : (s.size : Int) ≤ 100 := by omega
  go_wp2_with fail
  refine (new_any w1).mono ?_
  rintro e w2 ⟨rfl, rfl⟩
  have hF := fresh_new w1
  have he2 := he1.alloc (.cells #[.int .u32 0, .int .i32 0, .int .u32 0, .int .i64 0, .slice none 0 0, .slice none 0 0, .slice none 0 0, .map none] 54)
  have hg2 := World.grownBy_alloc w1 (.cells #[.int .u32 0, .int .i32 0, .int .u32 0, .int .i64 0, .slice none 0 0, .slice none 0 0, .slice none 0 0, .map none] 54) none
  generalize w1.alloc (.cells #[.int .u32 0, .int .i32 0, .int .u32 0, .int .i64 0, .slice none 0 0, .slice none 0 0, .slice none 0 0, .map none] 54) = w2 at hF he2 hg2 ⊢
  have hw1 := hgg1.out.size
  have hgg2 := hid (grown_trans hgg1.out hg2)
  clear hg2 he1 hgg1
  go_wp2_with fail
  refine (made_fresh w1.heap.size w2 hF).mono ?_
  rintro e w3 ⟨rfl, rfl⟩
  go_wp2_with fail
  refine (words_any w2).mono ?_
  rintro e w3 ⟨rfl, rfl⟩
  generalize hbb : w1.heap.size = b at hF ⊢
  have hT : TellAt B b w (w2.alloc (.cells (wordCells lawWords) 9)) := ⟨he2.alloc _, .inl ⟨hF.kept (World.grownBy_alloc w2 _ none) (by simp), Nat.zero_le _⟩, grown_trans hgg2.out (World.grownBy_alloc w2 _ none), by omega⟩
  have hW := heap_new w2 (.cells (wordCells lawWords) 9) rfl
  generalize w2.alloc (.cells (wordCells lawWords) 9) = w3 at hT hW ⊢
  generalize w2.heap.size = aw at hW ⊢
  have hcw : ∀ j : Nat, j < 9 → w3.cell? ⟨aw, j, none⟩ = some (.string (lawWords.getD j ByteArray.empty)) := fun j hj => by rw [cell_of_heap hW]; exact law_word j hj
  have hTT := hid hT
  have hbB : B ≤ b := by omega
  clear hT hW hF he2 hgg2 hlen hw1 hB hbb
  have hcc := hid hcw
  clear hcw
  have hmodes := heap_new w3 (.cells (wordCells lawModes) 9) rfl
  have hmc : ∀ j : Nat, j < 5 → (w3.alloc (.cells #[.string ⟨#[]⟩, .string ⟨#[112, 102, 97, 105, 114]⟩, .string ⟨#[101, 97, 114, 108, 121]⟩, .string ⟨#[119, 114, 97, 112]⟩, .string ⟨#[116, 119, 105, 110]⟩] 9)).cell? ⟨w3.heap.size, j, none⟩ = some (.string (lawModes.getD j ByteArray.empty)) := fun j hj => (cell_of_heap hmodes j).trans (law_mode j hj)
  have hmm := hid hmc
  clear hmodes hmc
  have hcase : ∃ x y, wordAt opWords op = x ∧ wordAt modeWords op = y ∧ ((op < 1 ∧ x = ⟨#[]⟩ ∧ y = ⟨#[]⟩) ∨ (8 < op ∧ x = ⟨#[]⟩ ∧ y = ⟨#[]⟩) ∨ (4 < op ∧ op ≤ 8 ∧ y = ⟨#[]⟩) ∨ (1 ≤ op ∧ op ≤ 4)) := by
    refine ⟨_, _, rfl, rfl, ?_⟩
    by_cases h1 : op < 1
    · exact .inl ⟨h1, word_none op (by omega), mode_none op (by omega)⟩
    by_cases h2 : 8 < op
    · exact .inr (.inl ⟨h2, word_none op (by omega), mode_none op (by omega)⟩)
    by_cases h3 : 4 < op
    · exact .inr (.inr (.inl ⟨h3, by omega, mode_none op (by omega)⟩))
    · exact .inr (.inr (.inr ⟨by omega, by omega⟩))
  obtain ⟨x, y, hx, hy, hcs⟩ := hcase
  have hX := hid hx
  have hY := hid hy
  clear hx hy
  have hT3 := hid (show TellAt B b w (w3.alloc (.cells #[.string ⟨#[]⟩, .string ⟨#[112, 102, 97, 105, 114]⟩, .string ⟨#[101, 97, 114, 108, 121]⟩, .string ⟨#[119, 114, 97, 112]⟩, .string ⟨#[116, 119, 105, 110]⟩] 9)) from ⟨hTT.out.env.alloc _, hTT.out.has.kept (World.grownBy_alloc w3 _ none), grown_trans hTT.out.grown (World.grownBy_alloc w3 _ none), hTT.out.far⟩)
  clear hTT
  rcases hcs with ⟨c1, rfl, rfl⟩ | ⟨c1, rfl, rfl⟩ | ⟨c1, c2, rfl⟩ | ⟨c1, c2⟩
  · go_wp2_with fail
    go_loop [10, 11] (fun s10 s11 => ∃ i : Nat, i ≤ 8 ∧ s11 = .int .i64 ((i : Int) + 1) ∧ s10 = .int .i64 (numUpTo i s.data.toList)) (fun _ s11 => 9 - (intOf s11).toNat)
    case atStart => exact ⟨0, by omega, rfl, rfl⟩
    case round =>
      obtain ⟨i, hi, rfl, rfl⟩ := hrel
      by_cases hlt : i < 8
      · have hci := hcc.out (i + 1) (by omega)
        rw [law_word_succ i] at hci
        have hsucc : numUpTo (i + 1) s.data.toList = if s.data.toList = (opWords.getD i ByteArray.empty).data.toList then i + 1 else numUpTo i s.data.toList := rfl
        generalize opWords.getD i ByteArray.empty = z at hci hsucc
        generalize numUpTo i s.data.toList = n0 at hsucc ⊢
        have hS := hid hsucc
        clear hsucc
        by_cases hz : z = s
        · have hze := str_eq hz
          have hn : numUpTo (i + 1) s.data.toList = i + 1 := by rw [hS.out, if_pos (by rw [hz])]
          have hN := hid hn
          clear hn hz
          go_wp2_with fail
          go_round
          case rel => exact ⟨i + 1, by omega, by go_num, by rw [hN.out]; go_num⟩
          case measure => simp [intOf]; omega
        · have hze := str_ne hz
          have hn : numUpTo (i + 1) s.data.toList = n0 := by rw [hS.out, if_neg (fun e => hz (bytes_ext e.symm))]
          have hN := hid hn
          clear hn hz
          go_wp2_with fail
          go_round
          case rel => exact ⟨i + 1, by omega, by go_num, by rw [hN.out]⟩
          case measure => simp [intOf]; omega
      · obtain rfl : i = 8 := by omega
        rw [show ((8 : Nat) : Int) + 1 = 9 from rfl, show numUpTo 8 s.data.toList = numOf s from rfl]
        clear hlt hi
        go_wp2_with fail
        go_loopw [14] (fun s14 wr => ∃ k : Nat, k ≤ 8 ∧ s14 = .int .i64 k ∧ TellAt B b w wr) (fun s14 _ => 8 - (intOf s14).toNat)
        case atStart => exact ⟨0, by omega, rfl, hT3.out⟩
        case round =>
          obtain ⟨k, hk, rfl, hT⟩ := hrel
          have ht7 : t % 8 ≤ 7 := by omega
          have ht7' : 0 ≤ t % 8 := by omega
          by_cases hlt : (k : Int) ≤ t % 8
          · have he := hT.env
            have hh := hT.has
            have hgr := hid hT.grown
            have hfar := hT.far
            clear hT hcc hmm hT3
            go_wp2_with fail
            refine (number_any B b s hhs.out wr he hbB hh).mono ?_
            rintro e w5 ⟨rfl, hT5, hg5⟩
            have he5 := he.grown hg5 (by rintro k ⟨⟩; exact hbB)
            have hgg5 := hid hg5
            clear hg5 he hh
            rw [show decide (0 < numOf s) = decide ((0 : Int) < (numOf s : Int)) from by simp]
            go_wp2_with fail
            refine (op_any B b op ho1 ho2 w5 he5 hbB (.inr hT5)).mono ?_
            rintro e w6 ⟨rfl, hT6, hg6⟩
            have he6 := he5.grown hg6 (by rintro k ⟨⟩; exact hbB)
            have hgg6 := hid (grown_trans hgg5.out hg6)
            clear hg6 hgg5 he5 hT5
            rw [hX.out]
            go_wp2_with fail
            refine (mode_any B b op ho1 ho2 w6 he6 hbB (.inr hT6)).mono ?_
            rintro e w7 ⟨rfl, hT7, hg7⟩
            have he7 := he6.grown hg7 (by rintro k ⟨⟩; exact hbB)
            have hgg7 := hid (grown_trans hgg6.out hg7)
            clear hg7 hgg6 he6 hT6
            rw [hY.out]
            go_wp2_with fail
            refine (err_any B b op ho1 ho2 w7 he7 hbB (.inr hT7)).mono ?_
            rintro e w8 ⟨rfl, hT8, hg8⟩
            have he8 := he7.grown hg8 (by rintro k ⟨⟩; exact hbB)
            have hgg8 := hid (grown_trans hgg7.out hg8)
            clear hg8 hgg7 he7 hT7
            go_wp2_with fail
            refine (error_any op w8).mono ?_
            rintro e w9 ⟨rfl, rfl⟩
            go_wp2_with fail
            refine (made_done b w8 hT8).mono ?_
            rintro e w9 ⟨rfl, rfl⟩
            go_wp2_with fail
            go_roundw
            case rel => exact ⟨k + 1, by omega, by go_num, he8, .inr hT8, grown_far hgr.out hgg8.out hfar, hfar⟩
            case measure => simp [intOf]; omega
          · have hgr := hid hT.grown
            clear hT hcc hmm hT3
            go_wp2_with fail
            go_ret
            exact ⟨rfl, hgr.out⟩
  · go_wp2_with fail
    go_loop [10, 11] (fun s10 s11 => ∃ i : Nat, i ≤ 8 ∧ s11 = .int .i64 ((i : Int) + 1) ∧ s10 = .int .i64 (numUpTo i s.data.toList)) (fun _ s11 => 9 - (intOf s11).toNat)
    case atStart => exact ⟨0, by omega, rfl, rfl⟩
    case round =>
      obtain ⟨i, hi, rfl, rfl⟩ := hrel
      by_cases hlt : i < 8
      · have hci := hcc.out (i + 1) (by omega)
        rw [law_word_succ i] at hci
        have hsucc : numUpTo (i + 1) s.data.toList = if s.data.toList = (opWords.getD i ByteArray.empty).data.toList then i + 1 else numUpTo i s.data.toList := rfl
        generalize opWords.getD i ByteArray.empty = z at hci hsucc
        generalize numUpTo i s.data.toList = n0 at hsucc ⊢
        have hS := hid hsucc
        clear hsucc
        by_cases hz : z = s
        · have hze := str_eq hz
          have hn : numUpTo (i + 1) s.data.toList = i + 1 := by rw [hS.out, if_pos (by rw [hz])]
          have hN := hid hn
          clear hn hz
          go_wp2_with fail
          go_round
          case rel => exact ⟨i + 1, by omega, by go_num, by rw [hN.out]; go_num⟩
          case measure => simp [intOf]; omega
        · have hze := str_ne hz
          have hn : numUpTo (i + 1) s.data.toList = n0 := by rw [hS.out, if_neg (fun e => hz (bytes_ext e.symm))]
          have hN := hid hn
          clear hn hz
          go_wp2_with fail
          go_round
          case rel => exact ⟨i + 1, by omega, by go_num, by rw [hN.out]⟩
          case measure => simp [intOf]; omega
      · obtain rfl : i = 8 := by omega
        rw [show ((8 : Nat) : Int) + 1 = 9 from rfl, show numUpTo 8 s.data.toList = numOf s from rfl]
        clear hlt hi
        go_wp2_with fail
        go_loopw [14] (fun s14 wr => ∃ k : Nat, k ≤ 8 ∧ s14 = .int .i64 k ∧ TellAt B b w wr) (fun s14 _ => 8 - (intOf s14).toNat)
        case atStart => exact ⟨0, by omega, rfl, hT3.out⟩
        case round =>
          obtain ⟨k, hk, rfl, hT⟩ := hrel
          have ht7 : t % 8 ≤ 7 := by omega
          have ht7' : 0 ≤ t % 8 := by omega
          by_cases hlt : (k : Int) ≤ t % 8
          · have he := hT.env
            have hh := hT.has
            have hgr := hid hT.grown
            have hfar := hT.far
            clear hT hcc hmm hT3
            go_wp2_with fail
            refine (number_any B b s hhs.out wr he hbB hh).mono ?_
            rintro e w5 ⟨rfl, hT5, hg5⟩
            have he5 := he.grown hg5 (by rintro k ⟨⟩; exact hbB)
            have hgg5 := hid hg5
            clear hg5 he hh
            rw [show decide (0 < numOf s) = decide ((0 : Int) < (numOf s : Int)) from by simp]
            go_wp2_with fail
            refine (op_any B b op ho1 ho2 w5 he5 hbB (.inr hT5)).mono ?_
            rintro e w6 ⟨rfl, hT6, hg6⟩
            have he6 := he5.grown hg6 (by rintro k ⟨⟩; exact hbB)
            have hgg6 := hid (grown_trans hgg5.out hg6)
            clear hg6 hgg5 he5 hT5
            rw [hX.out]
            go_wp2_with fail
            refine (mode_any B b op ho1 ho2 w6 he6 hbB (.inr hT6)).mono ?_
            rintro e w7 ⟨rfl, hT7, hg7⟩
            have he7 := he6.grown hg7 (by rintro k ⟨⟩; exact hbB)
            have hgg7 := hid (grown_trans hgg6.out hg7)
            clear hg7 hgg6 he6 hT6
            rw [hY.out]
            go_wp2_with fail
            refine (err_any B b op ho1 ho2 w7 he7 hbB (.inr hT7)).mono ?_
            rintro e w8 ⟨rfl, hT8, hg8⟩
            have he8 := he7.grown hg8 (by rintro k ⟨⟩; exact hbB)
            have hgg8 := hid (grown_trans hgg7.out hg8)
            clear hg8 hgg7 he7 hT7
            go_wp2_with fail
            refine (error_any op w8).mono ?_
            rintro e w9 ⟨rfl, rfl⟩
            go_wp2_with fail
            refine (made_done b w8 hT8).mono ?_
            rintro e w9 ⟨rfl, rfl⟩
            go_wp2_with fail
            go_roundw
            case rel => exact ⟨k + 1, by omega, by go_num, he8, .inr hT8, grown_far hgr.out hgg8.out hfar, hfar⟩
            case measure => simp [intOf]; omega
          · have hgr := hid hT.grown
            clear hT hcc hmm hT3
            go_wp2_with fail
            go_ret
            exact ⟨rfl, hgr.out⟩
  · obtain ⟨op, rfl⟩ := Int.eq_ofNat_of_zero_le (show 0 ≤ op by omega)
    have hc := hcc.out op (by omega)
    rw [law_word_at op (by omega) (by omega), hX.out] at hc
    go_wp2_with fail
    go_loop [10, 11] (fun s10 s11 => ∃ i : Nat, i ≤ 8 ∧ s11 = .int .i64 ((i : Int) + 1) ∧ s10 = .int .i64 (numUpTo i s.data.toList)) (fun _ s11 => 9 - (intOf s11).toNat)
    case atStart => exact ⟨0, by omega, rfl, rfl⟩
    case round =>
      obtain ⟨i, hi, rfl, rfl⟩ := hrel
      by_cases hlt : i < 8
      · have hci := hcc.out (i + 1) (by omega)
        rw [law_word_succ i] at hci
        have hsucc : numUpTo (i + 1) s.data.toList = if s.data.toList = (opWords.getD i ByteArray.empty).data.toList then i + 1 else numUpTo i s.data.toList := rfl
        generalize opWords.getD i ByteArray.empty = z at hci hsucc
        generalize numUpTo i s.data.toList = n0 at hsucc ⊢
        have hS := hid hsucc
        clear hsucc
        by_cases hz : z = s
        · have hze := str_eq hz
          have hn : numUpTo (i + 1) s.data.toList = i + 1 := by rw [hS.out, if_pos (by rw [hz])]
          have hN := hid hn
          clear hn hz
          go_wp2_with fail
          go_round
          case rel => exact ⟨i + 1, by omega, by go_num, by rw [hN.out]; go_num⟩
          case measure => simp [intOf]; omega
        · have hze := str_ne hz
          have hn : numUpTo (i + 1) s.data.toList = n0 := by rw [hS.out, if_neg (fun e => hz (bytes_ext e.symm))]
          have hN := hid hn
          clear hn hz
          go_wp2_with fail
          go_round
          case rel => exact ⟨i + 1, by omega, by go_num, by rw [hN.out]⟩
          case measure => simp [intOf]; omega
      · obtain rfl : i = 8 := by omega
        rw [show ((8 : Nat) : Int) + 1 = 9 from rfl, show numUpTo 8 s.data.toList = numOf s from rfl]
        clear hlt hi
        go_wp2_with fail
        go_loopw [14] (fun s14 wr => ∃ k : Nat, k ≤ 8 ∧ s14 = .int .i64 k ∧ TellAt B b w wr) (fun s14 _ => 8 - (intOf s14).toNat)
        case atStart => exact ⟨0, by omega, rfl, hT3.out⟩
        case round =>
          obtain ⟨k, hk, rfl, hT⟩ := hrel
          have ht7 : t % 8 ≤ 7 := by omega
          have ht7' : 0 ≤ t % 8 := by omega
          by_cases hlt : (k : Int) ≤ t % 8
          · have he := hT.env
            have hh := hT.has
            have hgr := hid hT.grown
            have hfar := hT.far
            clear hT hcc hmm hT3
            go_wp2_with fail
            refine (number_any B b s hhs.out wr he hbB hh).mono ?_
            rintro e w5 ⟨rfl, hT5, hg5⟩
            have he5 := he.grown hg5 (by rintro k ⟨⟩; exact hbB)
            have hgg5 := hid hg5
            clear hg5 he hh
            rw [show decide (0 < numOf s) = decide ((0 : Int) < (numOf s : Int)) from by simp]
            go_wp2_with fail
            refine (op_any B b op ho1 ho2 w5 he5 hbB (.inr hT5)).mono ?_
            rintro e w6 ⟨rfl, hT6, hg6⟩
            have he6 := he5.grown hg6 (by rintro k ⟨⟩; exact hbB)
            have hgg6 := hid (grown_trans hgg5.out hg6)
            clear hg6 hgg5 he5 hT5
            rw [hX.out]
            go_wp2_with fail
            refine (mode_any B b op ho1 ho2 w6 he6 hbB (.inr hT6)).mono ?_
            rintro e w7 ⟨rfl, hT7, hg7⟩
            have he7 := he6.grown hg7 (by rintro k ⟨⟩; exact hbB)
            have hgg7 := hid (grown_trans hgg6.out hg7)
            clear hg7 hgg6 he6 hT6
            rw [hY.out]
            go_wp2_with fail
            refine (err_any B b op ho1 ho2 w7 he7 hbB (.inr hT7)).mono ?_
            rintro e w8 ⟨rfl, hT8, hg8⟩
            have he8 := he7.grown hg8 (by rintro k ⟨⟩; exact hbB)
            have hgg8 := hid (grown_trans hgg7.out hg8)
            clear hg8 hgg7 he7 hT7
            go_wp2_with fail
            refine (error_any op w8).mono ?_
            rintro e w9 ⟨rfl, rfl⟩
            go_wp2_with fail
            refine (made_done b w8 hT8).mono ?_
            rintro e w9 ⟨rfl, rfl⟩
            go_wp2_with fail
            go_roundw
            case rel => exact ⟨k + 1, by omega, by go_num, he8, .inr hT8, grown_far hgr.out hgg8.out hfar, hfar⟩
            case measure => simp [intOf]; omega
          · have hgr := hid hT.grown
            clear hT hcc hmm hT3
            go_wp2_with fail
            go_ret
            exact ⟨rfl, hgr.out⟩
  · obtain ⟨op, rfl⟩ := Int.eq_ofNat_of_zero_le (show 0 ≤ op by omega)
    have hc := hcc.out op (by omega)
    rw [law_word_at op (by omega) (by omega), hX.out] at hc
    have hm := hmm.out op (by omega)
    rw [law_mode_at op (by omega) (by omega), hY.out] at hm
    go_wp2_with fail
    go_loop [10, 11] (fun s10 s11 => ∃ i : Nat, i ≤ 8 ∧ s11 = .int .i64 ((i : Int) + 1) ∧ s10 = .int .i64 (numUpTo i s.data.toList)) (fun _ s11 => 9 - (intOf s11).toNat)
    case atStart => exact ⟨0, by omega, rfl, rfl⟩
    case round =>
      obtain ⟨i, hi, rfl, rfl⟩ := hrel
      by_cases hlt : i < 8
      · have hci := hcc.out (i + 1) (by omega)
        rw [law_word_succ i] at hci
        have hsucc : numUpTo (i + 1) s.data.toList = if s.data.toList = (opWords.getD i ByteArray.empty).data.toList then i + 1 else numUpTo i s.data.toList := rfl
        generalize opWords.getD i ByteArray.empty = z at hci hsucc
        generalize numUpTo i s.data.toList = n0 at hsucc ⊢
        have hS := hid hsucc
        clear hsucc
        by_cases hz : z = s
        · have hze := str_eq hz
          have hn : numUpTo (i + 1) s.data.toList = i + 1 := by rw [hS.out, if_pos (by rw [hz])]
          have hN := hid hn
          clear hn hz
          go_wp2_with fail
          go_round
          case rel => exact ⟨i + 1, by omega, by go_num, by rw [hN.out]; go_num⟩
          case measure => simp [intOf]; omega
        · have hze := str_ne hz
          have hn : numUpTo (i + 1) s.data.toList = n0 := by rw [hS.out, if_neg (fun e => hz (bytes_ext e.symm))]
          have hN := hid hn
          clear hn hz
          go_wp2_with fail
          go_round
          case rel => exact ⟨i + 1, by omega, by go_num, by rw [hN.out]⟩
          case measure => simp [intOf]; omega
      · obtain rfl : i = 8 := by omega
        rw [show ((8 : Nat) : Int) + 1 = 9 from rfl, show numUpTo 8 s.data.toList = numOf s from rfl]
        clear hlt hi
        go_wp2_with fail
        go_loopw [14] (fun s14 wr => ∃ k : Nat, k ≤ 8 ∧ s14 = .int .i64 k ∧ TellAt B b w wr) (fun s14 _ => 8 - (intOf s14).toNat)
        case atStart => exact ⟨0, by omega, rfl, hT3.out⟩
        case round =>
          obtain ⟨k, hk, rfl, hT⟩ := hrel
          have ht7 : t % 8 ≤ 7 := by omega
          have ht7' : 0 ≤ t % 8 := by omega
          by_cases hlt : (k : Int) ≤ t % 8
          · have he := hT.env
            have hh := hT.has
            have hgr := hid hT.grown
            have hfar := hT.far
            clear hT hcc hmm hT3
            go_wp2_with fail
            refine (number_any B b s hhs.out wr he hbB hh).mono ?_
            rintro e w5 ⟨rfl, hT5, hg5⟩
            have he5 := he.grown hg5 (by rintro k ⟨⟩; exact hbB)
            have hgg5 := hid hg5
            clear hg5 he hh
            rw [show decide (0 < numOf s) = decide ((0 : Int) < (numOf s : Int)) from by simp]
            go_wp2_with fail
            refine (op_any B b op ho1 ho2 w5 he5 hbB (.inr hT5)).mono ?_
            rintro e w6 ⟨rfl, hT6, hg6⟩
            have he6 := he5.grown hg6 (by rintro k ⟨⟩; exact hbB)
            have hgg6 := hid (grown_trans hgg5.out hg6)
            clear hg6 hgg5 he5 hT5
            rw [hX.out]
            go_wp2_with fail
            refine (mode_any B b op ho1 ho2 w6 he6 hbB (.inr hT6)).mono ?_
            rintro e w7 ⟨rfl, hT7, hg7⟩
            have he7 := he6.grown hg7 (by rintro k ⟨⟩; exact hbB)
            have hgg7 := hid (grown_trans hgg6.out hg7)
            clear hg7 hgg6 he6 hT6
            rw [hY.out]
            go_wp2_with fail
            refine (err_any B b op ho1 ho2 w7 he7 hbB (.inr hT7)).mono ?_
            rintro e w8 ⟨rfl, hT8, hg8⟩
            have he8 := he7.grown hg8 (by rintro k ⟨⟩; exact hbB)
            have hgg8 := hid (grown_trans hgg7.out hg8)
            clear hg8 hgg7 he7 hT7
            go_wp2_with fail
            refine (error_any op w8).mono ?_
            rintro e w9 ⟨rfl, rfl⟩
            go_wp2_with fail
            refine (made_done b w8 hT8).mono ?_
            rintro e w9 ⟨rfl, rfl⟩
            go_wp2_with fail
            go_roundw
            case rel => exact ⟨k + 1, by omega, by go_num, he8, .inr hT8, grown_far hgr.out hgg8.out hfar, hfar⟩
            case measure => simp [intOf]; omega
          · have hgr := hid hT.grown
            clear hT hcc hmm hT3
            go_wp2_with fail
            go_ret
            exact ⟨rfl, hgr.out⟩
end Go.Proofs.YtdndckkfdlchpaaDoor
