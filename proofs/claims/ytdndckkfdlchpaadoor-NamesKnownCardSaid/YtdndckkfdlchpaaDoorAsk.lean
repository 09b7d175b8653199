/-
  What the tables answer: each query's contract.
-/
import Derived.Test.YtdndckkfdlchpaaDoorDo
import Derived.BigQuiet
namespace Go.Proofs.YtdndckkfdlchpaaDoor
open Go.Proofs
open Go.RowKit Go.WideMaps

/-- The word of number k, from 1 on; none: the empty one. -/
def wordAt (ws : List ByteArray) (k : Int) : ByteArray := if k < 1 ∨ (ws.length : Int) < k then ⟨#[]⟩ else ws.getD (k.toNat - 1) ByteArray.empty

theorem new_any (w : World) : Calls Tryd.prog 8 #[] w fun e w' => e = .returned (.pointer (some ⟨w.heap.size, 0, none⟩)) ∧
    w.alloc (.cells #[.int .u32 0, .int .i32 0, .int .u32 0, .int .i64 0, .slice none 0 0, .slice none 0 0, .slice none 0 0, .map none] 54) = w' := by
  go_enter Tryd.func8, Tryd.ntmps8
  go_wp2
  go_ret
  exact ⟨rfl, rfl⟩

set_option maxRecDepth 100000 in
theorem made_fresh (b : Nat) (w : World) (h : Fresh b w) : Calls Tryd.prog 9 #[.pointer (some ⟨b, 0, none⟩)] w fun e w' => e = .returned (.int .i64 0) ∧ w = w' := by
  have h3 : w.cell? ⟨b, 3, none⟩ = some (.int .i64 0) := by rw [cell_of_heap h]; rfl
  have hl := run_call_load (P := Tryd.prog) Tryd.func19 (by kernel_rfl) (by kernel_rfl) (by kernel_rfl) .i64 (by kernel_rfl) h3
  go_enter Tryd.func9, Tryd.ntmps9
  go_wp2
  go_ret
  exact ⟨rfl, rfl⟩

set_option maxRecDepth 100000 in
theorem made_done (b : Nat) {H : Nat} (w : World) (h : Tables b 1 0 H w) : Calls Tryd.prog 9 #[.pointer (some ⟨b, 0, none⟩)] w fun e w' => e = .returned (.int .i64 1) ∧ w = w' := by
  have h3 : w.cell? ⟨b, 3, none⟩ = some (.int .i64 1) := by
    obtain ⟨ao, am, bm, v, n, base, h1, _⟩ := h
    rw [cell_of_heap h1]; rfl
  have hl := run_call_load (P := Tryd.prog) Tryd.func19 (by kernel_rfl) (by kernel_rfl) (by kernel_rfl) .i64 (by kernel_rfl) h3
  go_enter Tryd.func9, Tryd.ntmps9
  go_wp2
  go_ret
  exact ⟨rfl, rfl⟩

set_option maxRecDepth 100000 in
theorem word_any (ws : List ByteArray) (a cap : Nat) (k : Int) (hk : -9223372036854775808 ≤ k) (hk2 : k ≤ 9223372036854775807) (w : World) (h : ∀ j, j < ws.length → w.cell? ⟨a, j, none⟩ = some (.string (ws.getD j ByteArray.empty))) :
    Calls Tryd.prog 18 #[.slice (some ⟨a, 0, none⟩) ws.length cap, .int .i64 k] w fun e w' => e = .returned (.string (wordAt ws k)) ∧ w = w' := by
  by_cases h1 : k < 1
  · have hH := hid (show wordAt ws k = ⟨#[]⟩ by simp [wordAt, h1])
    go_enter Tryd.func18, Tryd.ntmps18
    go_wp2
    go_ret
    exact ⟨ret_str hH.out.symm, rfl⟩
  · by_cases h2 : (ws.length : Int) < k
    · have hH := hid (show wordAt ws k = ⟨#[]⟩ by simp [wordAt, h2])
      go_enter Tryd.func18, Tryd.ntmps18
      go_wp2
      go_ret
      exact ⟨ret_str hH.out.symm, rfl⟩
    · have hfin : wordAt ws k = ws.getD (k.toNat - 1) ByteArray.empty := by unfold wordAt; rw [if_neg (by omega)]
      have hc := h (k.toNat - 1) (by omega)
      have i1 : (0 : Int) ≤ k - 1 := by omega
      have i2 : k - 1 < (ws.length : Int) := by omega
      generalize ws.getD (k.toNat - 1) ByteArray.empty = s at hc hfin
      have hH := hid hfin
      clear hfin h
      go_enter Tryd.func18, Tryd.ntmps18
      go_wp2
      go_ret
      exact ⟨ret_str hH.out.symm, rfl⟩

set_option maxRecDepth 100000 in
set_option maxHeartbeats 800000 in
/-- '(*Names).Op'. -/
theorem op_any (B b : Nat) {H : Nat} (k : Int) (hk : -9223372036854775808 ≤ k) (hk2 : k ≤ 9223372036854775807) (w : World) (henv : Env B w) (hB : B ≤ b) (h : Has b H w) :
    Calls Tryd.prog 12 #[.pointer (some ⟨b, 0, none⟩), .int .i64 k] w fun e w' => e = .returned (.string (wordAt opWords k)) ∧ Tables b 1 0 H w' ∧ w.grownBy w' (some b) := by
  go_enter Tryd.func12, Tryd.ntmps12
  go_wp2_with fail
  refine (tables_any B b H w henv hB h).mono ?_
  rintro e w1 ⟨rfl, hT, hg⟩
  have hTT := hid hT
  obtain ⟨ao, am, bm, v, n, base, h1, h2, _⟩ := hT
  have h4 : w1.cell? ⟨b, 4, none⟩ = some (.slice (some ⟨ao, 0, none⟩) 8 8) := by rw [cell_of_heap h1]; rfl
  have hw : ∀ j, j < opWords.length → w1.cell? ⟨ao, j, none⟩ = some (.string (opWords.getD j ByteArray.empty)) := fun j hj => by rw [cell_of_heap h2]; exact word_at j hj
  have hgg := hid hg
  have hww := hid hw
  clear hg hw h1 h2
  go_wp2_with fail
  refine (word_any opWords ao 8 k hk hk2 w1 hww.out).mono ?_
  rintro e w2 ⟨rfl, rfl⟩
  go_wp2
  go_ret
  exact ⟨rfl, hTT.out, hgg.out⟩

theorem mode_at (j : Nat) (h : j < 4) : (wordCells modeWords)[j]? = some (.string (modeWords.getD j ByteArray.empty)) := by
  have : modeWords.length = 4 := rfl
  simp [wordCells, List.getElem?_map, List.getD, List.getElem?_eq_getElem (show j < modeWords.length by omega)]

set_option maxRecDepth 100000 in
set_option maxHeartbeats 800000 in
/-- '(*Names).Mode'. -/
theorem mode_any (B b : Nat) {H : Nat} (k : Int) (hk : -9223372036854775808 ≤ k) (hk2 : k ≤ 9223372036854775807) (w : World) (henv : Env B w) (hB : B ≤ b) (h : Has b H w) :
    Calls Tryd.prog 13 #[.pointer (some ⟨b, 0, none⟩), .int .i64 k] w fun e w' => e = .returned (.string (wordAt modeWords k)) ∧ Tables b 1 0 H w' ∧ w.grownBy w' (some b) := by
  go_enter Tryd.func13, Tryd.ntmps13
  go_wp2_with fail
  refine (tables_any B b H w henv hB h).mono ?_
  rintro e w1 ⟨rfl, hT, hg⟩
  have hTT := hid hT
  obtain ⟨ao, am, bm, v, n, base, h1, _, h2, _⟩ := hT
  have h4 : w1.cell? ⟨b, 5, none⟩ = some (.slice (some ⟨am, 0, none⟩) 4 4) := by rw [cell_of_heap h1]; rfl
  have hw : ∀ j, j < modeWords.length → w1.cell? ⟨am, j, none⟩ = some (.string (modeWords.getD j ByteArray.empty)) := fun j hj => by rw [cell_of_heap h2]; exact mode_at j hj
  have hgg := hid hg
  have hww := hid hw
  clear hg hw h1 h2
  go_wp2_with fail
  refine (word_any modeWords am 4 k hk hk2 w1 hww.out).mono ?_
  rintro e w2 ⟨rfl, rfl⟩
  go_wp2
  go_ret
  exact ⟨rfl, hTT.out, hgg.out⟩

theorem errVals_at (j : Nat) (h : j < 15) : (errVals 15)[j]? = some (.string (errWord j)) := by
  simp [errVals, h]

set_option maxRecDepth 100000 in
set_option maxHeartbeats 800000 in
/-- '(*Names).Err'. -/
theorem err_any (B b : Nat) {H : Nat} (k : Int) (hk : -9223372036854775808 ≤ k) (hk2 : k ≤ 9223372036854775807) (w : World) (henv : Env B w) (hB : B ≤ b) (h : Has b H w) :
    Calls Tryd.prog 14 #[.pointer (some ⟨b, 0, none⟩), .int .i64 k] w fun e w' => e = .returned (.string (errWord k)) ∧ Tables b 1 0 H w' ∧ w.grownBy w' (some b) := by
  go_enter Tryd.func14, Tryd.ntmps14
  go_wp2_with fail
  refine (tables_any B b H w henv hB h).mono ?_
  rintro e w1 ⟨rfl, hT, hg⟩
  have hTT := hid hT
  obtain ⟨ao, am, bm, v, n, base, h1, _, _, hr, _⟩ := hT
  obtain ⟨g, cap, hv, _, _⟩ := hr.form (by omega)
  rw [hv] at h1 hr
  have h6 : w1.cell? ⟨b, 6, none⟩ = some (.slice (some ⟨g, 0, none⟩) 15 cap) := by rw [cell_of_heap h1]; rfl
  have hw : ∀ j : Nat, j < 15 → w1.cell? ⟨g, j, none⟩ = some (.string (errWord j)) := fun j hj => by
    have := hr.cells (g := g) rfl j _ (errVals_at j hj)
    have hadd : (⟨g, 0, none⟩ : Addr).add j = ⟨g, j, none⟩ := by unfold Addr.add; split <;> simp_all
    rwa [hadd] at this
  have hgg := hid hg
  clear hg h1 hr hv
  by_cases h1 : k < 0
  · have hH := hid (show errWord k = ⟨#[101, 114, 114, 111, 114]⟩ by unfold errWord; repeat rw [if_neg (by omega)])
    clear hw
    go_wp2
    go_ret
    exact ⟨ret_str hH.out.symm, hTT.out, hgg.out⟩
  · by_cases h2 : 15 ≤ k
    · have hH := hid (show errWord k = ⟨#[101, 114, 114, 111, 114]⟩ by unfold errWord; repeat rw [if_neg (by omega)])
      clear hw
      go_wp2
      go_ret
      exact ⟨ret_str hH.out.symm, hTT.out, hgg.out⟩
    · obtain ⟨j, rfl⟩ := Int.eq_ofNat_of_zero_le (show 0 ≤ k by omega)
      have hc := hw j (by omega)
      have i1 : (j : Int) < 15 := by omega
      clear hw
      go_wp2
      go_ret
      exact ⟨rfl, hTT.out, hgg.out⟩

/-- The command of a word; 0: of none. -/
def numUpTo : Nat → List UInt8 → Nat
  | 0, _ => 0
  | j + 1, l => if l = (opWords.getD j ByteArray.empty).data.toList then j + 1 else numUpTo j l

theorem isMap_upTo (j : Nat) : Maps.IsMap (mapUpTo j) := by
  cases j with
  | zero => exact ⟨[], rfl⟩
  | succ j => exact (show Maps.IsMap (mapUpTo (j + 1)) from (isMap_upTo j).put _ _)

theorem map_num (l : List UInt8) : ∀ j, (mapUpTo j).atKey (.string l) (.lit (.int .i64 0)) = .lit (.int .i64 (numUpTo j l)) ∧ Maps.has (mapUpTo j) (.string l) = decide (0 < numUpTo j l)
  | 0 => ⟨rfl, rfl⟩
  | j + 1 => by
    obtain ⟨h1, h2⟩ := map_num l j
    by_cases e : l = (opWords.getD j ByteArray.empty).data.toList
    · have ek : (Lit.string l) = opKey j := by unfold opKey; rw [← e]
      have hk : WideAt.IsKeyLit (opKey j) := by unfold opKey; trivial
      refine ⟨?_, ?_⟩
      · rw [ek]
        show ((mapUpTo j).put (opKey j) _).atKey (opKey j) _ = _
        rw [Maps.atKey_put_same (isMap_upTo j) hk]
        simp only [numUpTo, if_pos e]; rfl
      · rw [ek]
        show Maps.has ((mapUpTo j).put (opKey j) _) (opKey j) = _
        rw [Maps.has_put_same (isMap_upTo j) hk]
        simp only [numUpTo, if_pos e]; simp
    · have ek : (Lit.string l) ≠ opKey j := by unfold opKey; intro h; injection h with h; exact e h
      refine ⟨?_, ?_⟩
      · show ((mapUpTo j).put (opKey j) _).atKey (.string l) _ = _
        rw [Maps.atKey_put_other ek, h1]
        simp only [numUpTo, if_neg e]
      · show Maps.has ((mapUpTo j).put (opKey j) _) (.string l) = _
        rw [Maps.has_put_other ek, h2]
        simp only [numUpTo, if_neg e]

theorem zero3 (w : World) : (zeroValue 3).run Tryd.prog w = .ok (.int .i64 0) w := by kernel_rfl

def numOf (s : ByteArray) : Nat := numUpTo 8 s.data.toList

set_option maxRecDepth 100000 in
set_option maxHeartbeats 800000 in
/-- '(*Names).Number'. -/
theorem number_any (B b : Nat) {H : Nat} (s : ByteArray) (hs : s.size ≤ maxLen) (w : World) (henv : Env B w) (hB : B ≤ b) (h : Has b H w) :
    Calls Tryd.prog 11 #[.pointer (some ⟨b, 0, none⟩), .string s] w fun e w' => e = .returned (.tuple #[.int .i64 (numOf s), .bool (decide (0 < numOf s))]) ∧ Tables b 1 0 H w' ∧ w.grownBy w' (some b) := by
  go_enter Tryd.func11, Tryd.ntmps11
  go_wp2_with fail
  refine (tables_any B b H w henv hB h).mono ?_
  rintro e w1 ⟨rfl, hT, hg⟩
  have hTT := hid hT
  obtain ⟨ao, am, bm, v, n, base, h1, _, _, _, hm, _⟩ := hT
  have h7 : w1.cell? ⟨b, 7, none⟩ = some (.map (some bm)) := by rw [cell_of_heap h1]; rfl
  have hkey : keyOf Tryd.prog 9 (.string s) = some (.string s.data.toList) := keyOf_string_mk Tryd.underlying9 hs
  obtain ⟨hn1, hn2⟩ := map_num s.data.toList 8
  have hgg := hid hg
  have hnn := hid hn1
  have hnm := hid hn2
  clear hg h1 hn1 hn2
  go_wp2_with (at_lookup; refine wpList_lookup_own_ok_int _ rfl _ _ 52 rfl 9 3 .i64 (Maps.string_keyed Tryd.underlying9) Tryd.underlying52 Tryd.underlying3 (zero3 _) bm _ _ rfl hm _ _ rfl hkey ?_; intro c hat hwc)
  have hc : c = (numOf s : Int) := by
    have := hat.symm.trans hnn.out
    injection this with this
    injection this
  have he : Ending.returned (.tuple #[.int .i64 c, .bool (Maps.has (mapUpTo 8) (.string s.data.toList))]) = .returned (.tuple #[.int .i64 (numOf s), .bool (decide (0 < numOf s))]) := by rw [hc, hnm.out]; rfl
  clear hat hc
  go_ret2
  exact ⟨he, hTT.out, hgg.out⟩

def lawWords : List ByteArray := ⟨#[]⟩ :: opWords

/-- The statement's own row of words. -/
theorem words_any (w : World) : Calls Tryd.prog 10 #[] w fun e w' => e = .returned (.slice (some ⟨w.heap.size, 0, none⟩) 9 9) ∧ w.alloc (.cells (wordCells lawWords) 9) = w' := by
  go_enter Tryd.func10, Tryd.ntmps10
  go_wp2
  go_ret
  exact ⟨rfl, rfl⟩
end Go.Proofs.YtdndckkfdlchpaaDoor
