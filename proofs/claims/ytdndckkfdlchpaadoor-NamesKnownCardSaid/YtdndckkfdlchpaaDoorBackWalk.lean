/-
  NamesBack: the walk, and the plain facts on words and numbers that it wants.
-/
import Derived.Test.YtdndckkfdlchpaaDoorAwake
namespace Go.Proofs.YtdndckkfdlchpaaDoor
open Go.Proofs
open Go.RowKit Go.WideMaps

theorem numUpTo_le (l : List UInt8) : ∀ j, numUpTo j l ≤ j
  | 0 => Nat.le_refl _
  | j + 1 => by
    have := numUpTo_le l j
    unfold numUpTo
    split <;> omega

/-- A word that has a number is the word of that number. -/
theorem numUpTo_word (l : List UInt8) : ∀ j, 0 < numUpTo j l → (opWords.getD (numUpTo j l - 1) ByteArray.empty).data.toList = l
  | 0, h => by simp [numUpTo] at h
  | j + 1, h => by
    by_cases e : l = (opWords.getD j ByteArray.empty).data.toList
    · simp only [numUpTo, if_pos e, Nat.add_sub_cancel]; exact e.symm
    · simp only [numUpTo, if_neg e] at h ⊢; exact numUpTo_word l j h

theorem bytes_ext {a b : ByteArray} (h : a.data.toList = b.data.toList) : a = b := by
  cases a; cases b; simp at h; rw [h]

theorem word_of_num (s : ByteArray) (h : 0 < numOf s) : wordAt opWords (numOf s) = s := by
  have h8 := numUpTo_le s.data.toList 8
  have : numOf s ≤ 8 := h8
  have hl : opWords.length = 8 := rfl
  unfold wordAt
  rw [if_neg (by omega)]
  refine bytes_ext ?_
  have := numUpTo_word s.data.toList 8 h
  rw [show ((numOf s : Int)).toNat = numUpTo 8 s.data.toList from by simp [numOf]]
  exact this

theorem num_of_word (k : Nat) (h1 : 1 ≤ k) (h8 : k ≤ 8) : numOf (wordAt opWords k) = k := by
  have : ∀ k : Fin 9, 1 ≤ k.val → numOf (wordAt opWords k.val) = k.val := by decide +kernel
  exact this ⟨k, by omega⟩ h1
theorem word_ne (k : Nat) (h1 : 1 ≤ k) (h8 : k ≤ 8) : (wordAt opWords k != (⟨#[]⟩ : ByteArray)) = true := by
  have : ∀ k : Fin 9, 1 ≤ k.val → (wordAt opWords k.val != (⟨#[]⟩ : ByteArray)) = true := by decide +kernel
  exact this ⟨k, by omega⟩ h1
theorem word_ne2 (k : Nat) (h1 : 1 ≤ k) (h8 : k ≤ 8) : (wordAt opWords k).toList.isEmpty = false := by
  have : ∀ k : Fin 9, 1 ≤ k.val → (wordAt opWords k.val).toList.isEmpty = false := by decide +kernel
  exact this ⟨k, by omega⟩ h1
theorem word_none (k : Int) (h : k < 1 ∨ 8 < k) : wordAt opWords k = ⟨#[]⟩ := by
  have hl : opWords.length = 8 := rfl
  unfold wordAt
  rw [if_pos (by omega)]
theorem num_none : numOf ⟨#[]⟩ = 0 := by decide +kernel

theorem wordAt_size (k : Int) : (wordAt opWords k).size ≤ maxLen := by
  unfold wordAt maxLen
  split
  · exact Nat.zero_le _
  · have : ∀ x ∈ opWords, x.size ≤ 10 := by decide +kernel
    rename_i h
    have h2 := this (opWords.getD (k.toNat - 1) ByteArray.empty) (by rw [List.getD, List.getElem?_eq_getElem (by omega)]; exact List.getElem_mem _)
    omega

set_option maxRecDepth 100000 in
set_option maxHeartbeats 1600000 in
theorem back_any (B : Nat) (s : ByteArray) (hs : s.size ≤ maxLen) (op : Int) (h0 : 0 ≤ op) (h1 : op ≤ 255) (w : World) (henv : Env B w) :
    Calls Tryd.prog 6 #[.string s, .int .u8 op] w fun e w' => e = .returned (.bool true) ∧ w.grownBy w' none := by
  have hs2 : s.size ≤ 9223372036854775807 := by unfold maxLen at hs; omega
  have hhs := hid hs
  clear hs
  go_enter Tryd.func6, Tryd.ntmps6
  go_wp2_with fail
  refine (awake_any B w henv).mono ?_
  rintro e w1 ⟨rfl, hg1⟩
  have he1 := henv.grown hg1 (by rintro k ⟨⟩)
  have hB := he1.size
  have hgg1 := hid hg1
  clear hg1 henv
  go_wp2_with fail
  refine (new_any w1).mono ?_
  rintro e w2 ⟨rfl, rfl⟩
  have hF := fresh_new w1
  have he2 := he1.alloc (.cells #[.int .u32 0, .int .i32 0, .int .u32 0, .int .i64 0, .slice none 0 0, .slice none 0 0, .slice none 0 0, .map none] 54)
  have hg2 := World.grownBy_alloc w1 (.cells #[.int .u32 0, .int .i32 0, .int .u32 0, .int .i64 0, .slice none 0 0, .slice none 0 0, .slice none 0 0, .map none] 54) (some w1.heap.size)
  generalize w1.alloc (.cells #[.int .u32 0, .int .i32 0, .int .u32 0, .int .i64 0, .slice none 0 0, .slice none 0 0, .slice none 0 0, .map none] 54) = w2 at hF he2 hg2 ⊢
  have hgg2 := hid hg2
  clear hg2 he1
  by_cases hlen : 200 < s.size
  · have hl : (200 : Int) < (s.size : Int) := by omega
    go_wp2_with fail
    go_ret
    exact ⟨rfl, grown_trans hgg1.out (grown_new hgg2.out)⟩
  · have hl : (s.size : Int) ≤ 200 := by omega
    go_wp2_with fail
    refine (number_any B w1.heap.size s hhs.out w2 he2 hB (.inl ⟨hF, Nat.zero_le _⟩)).mono ?_
    rintro e w3 ⟨rfl, hT3, hg3⟩
    have he3 := he2.grown hg3 (by rintro k ⟨⟩; exact hB)
    have hgg3 := hid (grown_trans hgg2.out hg3)
    clear hg3 hgg2 hF he2
    have hnle : numOf s ≤ 8 := numUpTo_le _ 8
    by_cases hn : 0 < numOf s
    · have hd : decide (0 < numOf s) = true := by simpa using hn
      have hi1 : (1 : Int) ≤ (numOf s : Int) := by omega
      have hi2 : (numOf s : Int) ≤ 8 := by omega
      have hword := hid (word_of_num s hn)
      rw [hd]
      go_wp2_with fail
      refine (op_any B w1.heap.size (numOf s) (by omega) (by omega) w3 he3 hB (.inr hT3)).mono ?_
      rintro e w4 ⟨rfl, hT4, hg4⟩
      have he4 := he3.grown hg4 (by rintro k ⟨⟩; exact hB)
      have hgg4 := hid (grown_trans hgg3.out hg4)
      clear hg4 hgg3 hT3 he3
      rw [hword.out]
      clear hd
      go_wp2_with fail
      refine (op_any B w1.heap.size op (by omega) (by omega) w4 he4 hB (.inr hT4)).mono ?_
      rintro e w5 ⟨rfl, hT5, hg5⟩
      have he5 := he4.grown hg5 (by rintro k ⟨⟩; exact hB)
      have hgg5 := hid (grown_trans hgg4.out hg5)
      have hsz := hid (wordAt_size op)
      clear hg5 hgg4 hT4 he4
      go_wp2_with fail
      refine (number_any B w1.heap.size (wordAt opWords op) hsz.out w5 he5 hB (.inr hT5)).mono ?_
      rintro e w6 ⟨rfl, hT6, hg6⟩
      have hgg6 := hid (grown_trans hgg5.out hg6)
      clear hg6 hgg5 hT5 he5 hT6
      by_cases ho : 1 ≤ op ∧ op ≤ 8
      · obtain ⟨j, rfl⟩ := Int.eq_ofNat_of_zero_le (show 0 ≤ op by omega)
        have e1 := num_of_word j (by omega) (by omega)
        have e2 := word_ne2 j (by omega) (by omega)
        have hj : 0 < j := by omega
        have hd : decide (0 < j) = true := by simpa using hj
        rw [e1, hd]
        clear e1 hd
        go_wp2
        go_ret
        exact ⟨rfl, grown_trans hgg1.out (grown_new hgg6.out)⟩
      · rw [word_none op (by omega), num_none]
        simp only [Nat.lt_irrefl, decide_false]
        go_wp2
        go_ret
        exact ⟨rfl, grown_trans hgg1.out (grown_new hgg6.out)⟩
    · have h00 : numOf s = 0 := by omega
      rw [h00]
      simp only [Nat.lt_irrefl, decide_false]
      clear h00
      go_wp2_with fail
      refine (op_any B w1.heap.size op (by omega) (by omega) w3 he3 hB (.inr hT3)).mono ?_
      rintro e w5 ⟨rfl, hT5, hg5⟩
      have he5 := he3.grown hg5 (by rintro k ⟨⟩; exact hB)
      have hgg5 := hid (grown_trans hgg3.out hg5)
      have hsz := hid (wordAt_size op)
      clear hg5 hgg3 hT3 he3
      go_wp2_with fail
      refine (number_any B w1.heap.size (wordAt opWords op) hsz.out w5 he5 hB (.inr hT5)).mono ?_
      rintro e w6 ⟨rfl, hT6, hg6⟩
      have hgg6 := hid (grown_trans hgg5.out hg6)
      clear hg6 hgg5 hT5 he5 hT6
      by_cases ho : 1 ≤ op ∧ op ≤ 8
      · obtain ⟨j, rfl⟩ := Int.eq_ofNat_of_zero_le (show 0 ≤ op by omega)
        have e1 := num_of_word j (by omega) (by omega)
        have e2 := word_ne2 j (by omega) (by omega)
        have hj : 0 < j := by omega
        have hd : decide (0 < j) = true := by simpa using hj
        rw [e1, hd]
        clear e1 hd
        go_wp2
        go_ret
        exact ⟨rfl, grown_trans hgg1.out (grown_new hgg6.out)⟩
      · rw [word_none op (by omega), num_none]
        simp only [Nat.lt_irrefl, decide_false]
        go_wp2
        go_ret
        exact ⟨rfl, grown_trans hgg1.out (grown_new hgg6.out)⟩
end Go.Proofs.YtdndckkfdlchpaaDoor
