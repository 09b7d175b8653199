/-
  container/heap over slots.free: whatever order the heap keeps, what it holds is a permutation of what was put in.
-/
import Derived.Test.YtajlilcodnkfdaaBase
import Derived.Test.YtajlilcodnkfdaaProg
namespace Go.Proofs.Ytajlilcodnkfdaa
open Go.Proofs
open Go.RowKit Go.WideMaps

/-- The free slots: pf's one cell is a slice at the head of block g, which holds F. -/
structure FreeAt (pf g cap n : Nat) (F : List Int) (w : World) : Prop where
  box : w.heap[pf]? = some (.cells #[.slice (some ⟨g, 0, none⟩) n cap] 76 (0, 0))
  row : ∃ cur, w.heap[g]? = some (.cells cur 3 (0, 0)) ∧ cur.size = cap ∧ cur.toList.take n = F.map (Value.int .i64)
  len : F.length = n
  fits : n ≤ cap
  small : cap ≤ maxLen
  low : n ≤ 4096
  apart : pf ≠ g

theorem FreeAt.cell {pf g cap n : Nat} {F : List Int} {w : World} (h : FreeAt pf g cap n F w) {i : Nat} (hi : i < n) : w.cell? ⟨g, i, none⟩ = some (.int .i64 (F.getD i 0)) := by
  obtain ⟨cur, h1, h2, h3⟩ := h.row
  have hl := h.len
  rw [cell_of_heap h1]
  have := congrArg (fun l => l[i]?) h3
  simp only [List.getElem?_take, if_pos hi, List.getElem?_map] at this
  rw [← Array.getElem?_toList, this, List.getElem?_eq_getElem (by omega)]
  simp [List.getD, List.getElem?_eq_getElem (show i < F.length by omega)]
theorem FreeAt.free {pf g cap n : Nat} {F : List Int} {w : World} (h : FreeAt pf g cap n F w) (i : Nat) : w.frozen? ⟨g, i, none⟩ = false := by
  obtain ⟨cur, h1, _⟩ := h.row
  exact free_of_heap h1 i
theorem FreeAt.boxed {pf g cap n : Nat} {F : List Int} {w : World} (h : FreeAt pf g cap n F w) : w.cell? ⟨pf, 0, none⟩ = some (.slice (some ⟨g, 0, none⟩) n cap) := by
  rw [cell_of_heap h.box]; rfl
theorem FreeAt.box_free {pf g cap n : Nat} {F : List Int} {w : World} (h : FreeAt pf g cap n F w) : w.frozen? ⟨pf, 0, none⟩ = false := free_of_heap h.box 0
theorem FreeAt.kept {pf g cap n : Nat} {F : List Int} {w w' : World} (h : FreeAt pf g cap n F w) {S : Nat → Prop} (hf : Fr S w w') (h1 : ¬ S pf) (h2 : ¬ S g) : FreeAt pf g cap n F w' :=
  ⟨hf.heap h.box h1, by obtain ⟨cur, h3, h4, h5⟩ := h.row; exact ⟨cur, hf.heap h3 h2, h4, h5⟩, h.len, h.fits, h.small, h.low, h.apart⟩
theorem FreeAt.drew {pf g cap n : Nat} {F : List Int} {w : World} (h : FreeAt pf g cap n F w) (q : Nat) : FreeAt pf g cap n F (w.drewN q) := h.kept (S := fun _ => False) (Fr.drewN _ _ _) id id
theorem FreeAt.put {pf g cap n : Nat} {F : List Int} {w : World} (h : FreeAt pf g cap n F w) (i : Nat) (x : Int) : FreeAt pf g cap n (F.set i x) (w.setCell ⟨g, i, none⟩ (.int .i64 x)) := by
  obtain ⟨cur, h1, h2, h3⟩ := h.row
  refine ⟨?_, ⟨cur.setIfInBounds i (.int .i64 x), heap_set h1 i _, by simp [h2], ?_⟩, by simpa using h.len, h.fits, h.small, h.low, h.apart⟩
  · rw [heap_set_far h.apart]; exact h.box
  · rw [Array.toList_setIfInBounds, List.take_set, h3, List.map_set]

theorem less_any {pf g cap n : Nat} {F : List Int} (i j : Nat) (hi : i < n) (hj : j < n) (w : World) (h : FreeAt pf g cap n F w) :
    Calls Try.prog 86 #[.slice (some ⟨g, 0, none⟩) n cap, .int .i64 i, .int .i64 j] w fun e w' => ∃ b, e = .returned (.bool b) ∧ ∃ q, w' = w.drewN q := by
  have h0 := h.fits
  have h9 := h.low
  have h1 : (0 : Int) ≤ (i : Int) := by omega
  have h2 : (i : Int) < (n : Int) := by omega
  have h3 : (0 : Int) ≤ (j : Int) := by omega
  have h4 : (j : Int) < (n : Int) := by omega
  have hx := h.cell hi
  have hy := h.cell hj
  clear h h0 h9
  go_enter Try.func86, Try.ntmps86
  go_wp2_with fail
  go_quiet (fail)
  go_wp2
  go_ret
  exact ⟨_, rfl, _, rfl⟩

theorem swap_any {pf g cap n : Nat} {F : List Int} (i j : Nat) (hi : i < n) (hj : j < n) (w : World) (h : FreeAt pf g cap n F w) :
    Calls Try.prog 89 #[.slice (some ⟨g, 0, none⟩) n cap, .int .i64 i, .int .i64 j] w fun e w' => e = .returned (.tuple #[]) ∧ ∃ F', F'.Perm F ∧ FreeAt pf g cap n F' w' ∧ Fr (fun k => k = g) w w' := by
  have h0 := h.fits
  have h9 := h.low
  have hl := h.len
  have h1 : (0 : Int) ≤ (i : Int) := by omega
  have h2 : (i : Int) < (n : Int) := by omega
  have h3 : (0 : Int) ≤ (j : Int) := by omega
  have h4 : (j : Int) < (n : Int) := by omega
  have hx := h.cell hi
  have hy := h.cell hj
  have hi' : i < F.length := by omega
  have hj' : j < F.length := by omega
  have hgx : F.getD i 0 = F[i] := by simp [List.getD, hi']
  have hgy : F.getD j 0 = F[j] := by simp [List.getD, hj']
  rw [hgx] at hx
  rw [hgy] at hy
  have hfi := h.free i
  have hfj := h.free j
  have hy' : (w.setCell ⟨g, i, none⟩ (.int .i64 F[j])).cell? ⟨g, j, none⟩ = some (.int .i64 F[j]) := by
    obtain ⟨cur, k1, _, _⟩ := h.row
    rw [cell_of_heap (heap_set k1 i _)]
    rw [cell_of_heap k1] at hy
    rw [Array.getElem?_setIfInBounds]
    split
    · next e => subst e; rw [if_pos (Array.getElem?_eq_some_iff.1 hy).1]
    · exact hy
  have hres : FreeAt pf g cap n ((F.set i F[j]).set j F[i]) ((w.setCell ⟨g, i, none⟩ (.int .i64 F[j])).setCell ⟨g, j, none⟩ (.int .i64 F[i])).drew := by
    have := (h.put i F[j]).put j F[i]
    exact this.kept (S := fun _ => False) (Fr.drew _ _) id id
  have hfr : Fr (fun k => k = g) w ((w.setCell ⟨g, i, none⟩ (.int .i64 F[j])).setCell ⟨g, j, none⟩ (.int .i64 F[i])).drew :=
    ((Fr.set (S := fun k => k = g) w rfl i _).trans (Fr.set (S := fun k => k = g) _ rfl j _)).trans (Fr.drew _ _)
  have hperm : ((F.set i F[j]).set j F[i]).Perm F := List.set_set_perm hi' hj'
  have HR := hid hres
  have HF := hid hfr
  have HP := hid hperm
  clear h hgx hgy hres hfr hperm hl h0 h9
  generalize (F.set i F[j]).set j F[i] = F' at *
  generalize F[i] = x at *
  generalize F[j] = y at *
  go_enter Try.func89, Try.ntmps89
  go_wp2_with fail
  go_region
  go_end0
  exact ⟨rfl, F', HP.out, HR.out, HF.out⟩

/-- The methods behind the interface value. -/
theorem method_less (pf : Nat) (x : Value) (w : World) (h : w.cell? ⟨pf, 0, none⟩ = some x) : (method 235 75 (.pointer (some ⟨pf, 0, none⟩)) "Less").run Try.prog w = .ok (86, x) w := by
  have hn : (method 235 75 (.pointer (some ⟨pf, 0, none⟩)) "Less").run Try.prog w = ((load ⟨pf, 0, none⟩ >>= fun v => pure (86, v)) : Sem (Nat × Value)).run Try.prog w := by kernel_rfl
  rw [hn]
  simp [h]
theorem method_swap (pf : Nat) (x : Value) (w : World) (h : w.cell? ⟨pf, 0, none⟩ = some x) : (method 235 75 (.pointer (some ⟨pf, 0, none⟩)) "Swap").run Try.prog w = .ok (89, x) w := by
  have hn : (method 235 75 (.pointer (some ⟨pf, 0, none⟩)) "Swap").run Try.prog w = ((load ⟨pf, 0, none⟩ >>= fun v => pure (89, v)) : Sem (Nat × Value)).run Try.prog w := by kernel_rfl
  rw [hn]
  simp [h]
theorem method_len (pf : Nat) (x : Value) (w : World) (h : w.cell? ⟨pf, 0, none⟩ = some x) : (method 235 75 (.pointer (some ⟨pf, 0, none⟩)) "Len").run Try.prog w = .ok (36, x) w := by
  have hn : (method 235 75 (.pointer (some ⟨pf, 0, none⟩)) "Len").run Try.prog w = ((load ⟨pf, 0, none⟩ >>= fun v => pure (36, v)) : Sem (Nat × Value)).run Try.prog w := by kernel_rfl
  rw [hn]
  simp [h]
theorem method_pop (pf : Nat) (w : World) : (method 235 75 (.pointer (some ⟨pf, 0, none⟩)) "Pop").run Try.prog w = .ok (87, .pointer (some ⟨pf, 0, none⟩)) w := by kernel_rfl
theorem method_push (pf : Nat) (w : World) : (method 235 75 (.pointer (some ⟨pf, 0, none⟩)) "Push").run Try.prog w = .ok (88, .pointer (some ⟨pf, 0, none⟩)) w := by kernel_rfl

set_option maxRecDepth 100000 in
theorem up_any {pf g cap n : Nat} {F : List Int} (j : Nat) (hj : j < n) (w : World) (h : FreeAt pf g cap n F w) :
    Calls Try.prog 42 #[.iface 75 (.pointer (some ⟨pf, 0, none⟩)), .int .i64 j] w fun e w' => e = .returned (.tuple #[]) ∧ ∃ F', F'.Perm F ∧ FreeAt pf g cap n F' w' ∧ Fr (fun k => k = g) w w' := by
  have HH := hid h
  have h0 := h.fits
  have h9 := h.low
  clear h
  go_enter Try.func42, Try.ntmps42
  go_wp2_with fail
  go_loopw [1] (fun s wx => ∃ (j : Nat) (F' : List Int), j < n ∧ s = .int .i64 j ∧ F'.Perm F ∧ FreeAt pf g cap n F' wx ∧ Fr (fun k => k = g) w wx) (fun s _ => (intOf s).toNat)
  case atStart => exact ⟨j, F, hj, rfl, List.Perm.refl _, HH.out, Fr.refl _ _⟩
  case round =>
    obtain ⟨j, F', hj, rfl, hp, hF, hfr⟩ := hrel
    clear HH
    go_upto_region 1 with fail
    have hd : ((j : Int) - 1).tdiv 2 = (((j - 1) / 2 : Nat) : Int) := by
      rcases Nat.eq_zero_or_pos j with h | h
      · subst h; rfl
      · rw [Int.tdiv_eq_ediv_of_nonneg (by omega)]; omega
    rw [hd]
    have HF := hid hF
    have HR := hid hfr
    have HP := hid hp
    rcases Nat.eq_zero_or_pos j with h | h
    · subst h
      clear hF hfr hp
      go_wp2_with fail
      go_end0
      exact ⟨rfl, F', HP.out, HF.out, HR.out⟩
    · have hlt : (j - 1) / 2 < j := by omega
      have hb : ((((j - 1) / 2 : Nat) : Int) == (j : Int)) = false := by simp; omega
      generalize (j - 1) / 2 = i at *
      have hm := method_less pf _ wr hF.boxed
      clear hF hfr hp
      go_upto_block 1 with fail
      refine (less_any j i (by omega) (by omega) wr HF.out).mono ?_
      rintro e w1 ⟨b, rfl, q, rfl⟩
      cases b
      · go_wp2_with fail
        go_end0
        exact ⟨rfl, F', HP.out, HF.out.drew q, HR.out.trans (Fr.drewN _ _ q)⟩
      · have hm2 := method_swap pf _ (wr.drewN q) (HF.out.drew q).boxed
        go_wp2_with fail
        refine (swap_any i j (by omega) (by omega) _ (HF.out.drew q)).mono ?_
        rintro e w2 ⟨rfl, F2, hp2, hF2, hR2⟩
        have HF2 := hid hF2
        have HR2 := hid hR2
        have HP2 := hid hp2
        clear hF2 hR2 hp2
        go_wp2_with fail
        go_roundw
        case rel => exact ⟨i, F2, by omega, rfl, HP2.out.trans HP.out, HF2.out, HR.out.trans ((Fr.drewN _ _ q).trans HR2.out)⟩
        case measure => simp [intOf]; omega

def SaidBool (e : Ending) : Prop := ∃ b, e = .returned (.bool b)

set_option maxHeartbeats 1000000 in
set_option maxRecDepth 100000 in
theorem down_any {pf g cap n : Nat} {F : List Int} (m : Nat) (hm : m < n) (w : World) (h : FreeAt pf g cap n F w) :
    Calls Try.prog 43 #[.iface 75 (.pointer (some ⟨pf, 0, none⟩)), .int .i64 0, .int .i64 m] w fun e w' => SaidBool e ∧ ∃ F', F'.Perm F ∧ FreeAt pf g cap n F' w' ∧ Fr (fun k => k = g) w w' := by
  have HH := hid h
  have h0 := h.fits
  have h9 := h.low
  clear h
  go_enter Try.func43, Try.ntmps43
  go_wp2_with fail
  go_loopw [7] (fun s wx => ∃ (j : Nat) (F' : List Int), j ≤ m ∧ s = .int .i64 j ∧ F'.Perm F ∧ FreeAt pf g cap n F' wx ∧ Fr (fun k => k = g) w wx) (fun s _ => m - (intOf s).toNat)
  case atStart => exact ⟨0, F, by omega, rfl, List.Perm.refl _, HH.out, Fr.refl _ _⟩
  case round =>
    obtain ⟨i, F', hj, rfl, hp, hF, hfr⟩ := hrel
    clear HH
    have HF := hid hF
    have HR := hid hfr
    have HP := hid hp
    clear hF hfr hp
    by_cases hlt : 2 * i + 1 < m
    · have hm := method_less pf _ wr HF.out.boxed
      go_upto_region 6 with fail
      go_cut [33] (fun s wx => ∃ b, s = .bool b ∧ (b = true → 2 * i + 2 < m) ∧ ∃ q, wx = wr.drewN q)
      case first =>
        by_cases hlt2 : 2 * i + 2 < m
        · go_wp2_with fail
          rw [show (2 * (i : Int) + 1 + 1) = ((2 * i + 2 : Nat) : Int) by omega, show (2 * (i : Int) + 1) = ((2 * i + 1 : Nat) : Int) by omega]
          refine (less_any (2 * i + 2) (2 * i + 1) (by omega) (by omega) wr HF.out).mono ?_
          rintro e w1 ⟨b, rfl, q, rfl⟩
          rw [show ((2 * i + 2 : Nat) : Int) = (2 * (i : Int) + 1 + 1) by omega, show ((2 * i + 1 : Nat) : Int) = (2 * (i : Int) + 1) by omega]
          go_wp2_with fail
          go_meet
          case rel => exact ⟨b, rfl, fun _ => hlt2, q, rfl⟩
        · go_wp2_with fail
          go_meet
          case rel => exact ⟨false, rfl, fun h => (by cases h), 0, rfl⟩
      case rest =>
        obtain ⟨b, rfl, hb, q, rfl⟩ := hcut
        have hm1 := method_less pf _ (wr.drewN q) (HF.out.drew q).boxed
        clear hm
        cases b
        · have hj : 2 * i + 1 < m := hlt
          go_upto_region 8 with fail
          have h : 2 * (i : Int) + 1 = ((2 * i + 1 : Nat) : Int) := by omega
          rw [h]
          generalize hk : 2 * i + 1 = j at *
          have hij : i < j := by omega
          clear h
          go_wp2_with fail
          refine (less_any j i (by omega) (by omega) _ (HF.out.drew q)).mono ?_
          rintro e w1 ⟨b, rfl, q2, rfl⟩
          cases b
          · go_wp2_with fail
            go_ret
            exact ⟨⟨_, rfl⟩, F', HP.out, HF.out.drew (q + q2), HR.out.trans (Fr.drewN _ _ (q + q2))⟩
          · have hm2 := method_swap pf _ (wr.drewN (q + q2)) (HF.out.drew (q + q2)).boxed
            go_wp2_with fail
            refine (swap_any i j (by omega) (by omega) _ (HF.out.drew (q + q2))).mono ?_
            rintro e w2 ⟨rfl, F2, hp2, hF2, hR2⟩
            have HF2 := hid hF2
            have HR2 := hid hR2
            have HP2 := hid hp2
            clear hF2 hR2 hp2
            go_wp2_with fail
            go_roundw
            case rel => exact ⟨j, F2, by omega, rfl, HP2.out.trans HP.out, HF2.out, HR.out.trans ((Fr.drewN _ _ (q + q2)).trans HR2.out)⟩
            case measure => simp [intOf]; omega
        · have hj : 2 * i + 2 < m := hb rfl
          go_upto_region 8 with fail
          have h : 2 * (i : Int) + 1 + 1 = ((2 * i + 2 : Nat) : Int) := by omega
          rw [h]
          generalize hk : 2 * i + 2 = j at *
          have hij : i < j := by omega
          clear h
          go_wp2_with fail
          refine (less_any j i (by omega) (by omega) _ (HF.out.drew q)).mono ?_
          rintro e w1 ⟨b, rfl, q2, rfl⟩
          cases b
          · go_wp2_with fail
            go_ret
            exact ⟨⟨_, rfl⟩, F', HP.out, HF.out.drew (q + q2), HR.out.trans (Fr.drewN _ _ (q + q2))⟩
          · have hm2 := method_swap pf _ (wr.drewN (q + q2)) (HF.out.drew (q + q2)).boxed
            go_wp2_with fail
            refine (swap_any i j (by omega) (by omega) _ (HF.out.drew (q + q2))).mono ?_
            rintro e w2 ⟨rfl, F2, hp2, hF2, hR2⟩
            have HF2 := hid hF2
            have HR2 := hid hR2
            have HP2 := hid hp2
            clear hF2 hR2 hp2
            go_wp2_with fail
            go_roundw
            case rel => exact ⟨j, F2, by omega, rfl, HP2.out.trans HP.out, HF2.out, HR.out.trans ((Fr.drewN _ _ (q + q2)).trans HR2.out)⟩
            case measure => simp [intOf]; omega
    · go_wp2_with fail
      go_ret
      exact ⟨⟨_, rfl⟩, F', HP.out, HF.out, HR.out⟩

/-- free.Push and free.Pop -/
theorem free_pop_any {pf g cap n : Nat} {F : List Int} (w : World) (h : FreeAt pf g cap (n + 1) F w) :
    Calls Try.prog 87 #[.pointer (some ⟨pf, 0, none⟩)] w fun e w' => ∃ F' x, (F' ++ [x]) = F ∧ e = .returned (.iface 3 (.int .i64 x)) ∧ FreeAt pf g cap n F' w' ∧ Fr (fun k => k = pf) w w' := by
  obtain ⟨F', x, rfl⟩ : ∃ F' x, F = F' ++ [x] := by
    have := h.len
    exact ⟨F.dropLast, F.getLast (by intro e; subst e; simp at this), (List.dropLast_concat_getLast _).symm⟩
  have hl : F'.length = n := by simpa using h.len
  have hx := h.cell (i := n) (by omega)
  rw [show (F' ++ [x]).getD n 0 = x by simp [List.getD, ← hl]] at hx
  have hb := h.boxed
  have hbf := h.box_free
  have h0 := h.fits
  have h9 := h.low
  have HH := hid h
  clear h
  have hres : FreeAt pf g cap n F' (w.setCell ⟨pf, 0, none⟩ (.slice (some ⟨g, 0, none⟩) n cap)) := by
    have := HH.out
    obtain ⟨cur, k1, k2, k3⟩ := this.row
    refine ⟨by rw [heap_set this.box 0]; rfl, ⟨cur, by rw [heap_set_far this.apart.symm]; exact k1, k2, ?_⟩, hl, by omega, this.small, by omega, this.apart⟩
    have := congrArg (List.take n) k3
    rw [List.take_take, Nat.min_eq_left (by omega)] at this
    rw [this, ← List.map_take, List.take_left' hl]
  have HR := hid hres
  clear hres
  go_enter Try.func87, Try.ntmps87
  go_wp2_with fail
  go_ret
  exact ⟨F', x, rfl, rfl, HR.out, Fr.set (S := fun k => k = pf) _ rfl 0 _⟩
theorem int_info : (Try.prog.info? 3).map (fun i => (i.zero, i.size, i.bytes)) = some (some (.int .i64 0), 1, 8) := by kernel_rfl
theorem assert_int (x : Int) (w : World) : (Instr.typeAssert (.iface 3 (.int .i64 x)) 20 3 true).run Try.prog w = .ok (.tuple #[.int .i64 x, .bool true]) w := by kernel_rfl
theorem FreeAt.own {pf g cap n : Nat} {F : List Int} {w : World} (h : FreeAt pf g cap n F w) : w.ownsRow 0 3 1 (.slice (some ⟨g, 0, none⟩) n cap) n (F.map (Value.int .i64)) := by
  obtain ⟨cur, k1, k2, k3⟩ := h.row
  exact ⟨by simp [h.len], .inr ⟨g, cap, cur, rfl, Nat.zero_le _, k1, h.fits, h.small, by simp [k2], by simpa using k3⟩⟩
theorem FreeAt.of_own {pf g cap n : Nat} {F : List Int} {w : World} (hb : w.heap[pf]? = some (.cells #[.slice (some ⟨g, 0, none⟩) n cap] 76 (0, 0))) (hl : F.length = n) (hn : n ≤ 4096) (ha : pf ≠ g)
    (h : w.ownsRow 0 3 1 (.slice (some ⟨g, 0, none⟩) n cap) n (F.map (Value.int .i64))) : FreeAt pf g cap n F w := by
  rcases h.2 with ⟨h', _⟩ | ⟨g', cap', cur, h', _, hg, hnc, hcm, hcs, htake⟩
  · simp at h'
  · simp only [Value.slice.injEq, Option.some.injEq, Addr.mk.injEq, and_true, true_and] at h'
    obtain ⟨rfl, rfl⟩ := h'
    exact ⟨hb, ⟨cur, hg, by simpa using hcs, by simpa using htake⟩, hl, hnc, hcm, hn, ha⟩

set_option maxRecDepth 100000 in
theorem free_push_any {pf g cap n : Nat} {F : List Int} (x : Int) (w : World) (h : FreeAt pf g cap n F w) (hn : n < 4096) :
    Calls Try.prog 88 #[.pointer (some ⟨pf, 0, none⟩), .iface 3 (.int .i64 x)] w fun e w' => e = .returned (.tuple #[]) ∧ ∃ g' cap', FreeAt pf g' cap' (n + 1) (F ++ [x]) w' ∧ (g' = g ∨ w.heap.size ≤ g') ∧ Fr (fun k => k = pf ∨ k = g) w w' := by
  have hb := h.boxed
  have hbf := h.box_free
  have hown := h.own
  have hlt := lt_of_heap h.box
  have hap := h.apart
  have HH := hid h
  have hta := assert_int x
  have hmx : n + 1 ≤ maxLen := by unfold maxLen; omega
  clear h
  go_enter Try.func88, Try.ntmps88
  obtain ⟨i0, hi, hz0, hz1, hz2⟩ := info_parts int_info
  go_upto_region 2 with fail
  go_wp2_with (at_builtin; refine wpList_append_lies _ rfl (.tmp 15) (.tmp 17) 76 rfl 0 3 i0 (.int .i64 0) 1 8 Try.underlying76 hi hz0 hz1 hz2 rfl (by decide) _ _ _ rfl (hown.alloc _) ⟨w.heap.size, 0, none⟩ 1 1 [.int .i64 x] rfl rfl ?c1 ?c2 ?c3 ?c4 ?c5 ?c6 _ rfl ?_)
  case c1 => exact World.news_of_block (cs := #[.int .i64 x]) (t := 3) (fr := (0, 0)) (heap_alloc_new w _)
  case c2 => simp [Value.oneCell']
  case c3 => omega
  case c4 => omega
  case c5 => omega
  case c6 => simp
  intro g' cap' w1 hown1 hg1 hat hlt1
  have hbl : w1.heap[pf]? = some (.cells #[.slice (some ⟨g, 0, none⟩) n cap] 76 (0, 0)) := by
    rw [hg1.block pf (by simp; omega) (by simp [Value.ownBlock]; exact hap)]
    exact heap_alloc' _ HH.out.box
  have hbf1 : w1.frozen? ⟨pf, 0, none⟩ = false := free_of_heap hbl 0
  have hb1 : w1.cell? ⟨pf, 0, none⟩ = some (.slice (some ⟨g, 0, none⟩) n cap) := by rw [cell_of_heap hbl]; rfl
  have hat' : g' = g ∨ g' = w.heap.size + 1 := by
    rcases hat with h | h
    · left; simpa [Value.ownBlock] using h.symm
    · exact .inr h
  have hpg : pf ≠ g' := by rcases hat' with h | h <;> omega
  have hfr : Fr (fun k => k = pf ∨ k = g) w (w1.setCell ⟨pf, 0, none⟩ (.slice (some ⟨g', 0, none⟩) (n + 1) cap')) := by
    have f1 : Fr (fun k => k = pf ∨ k = g) w (w.alloc (Obj.cells #[Value.int IntKind.i64 x] 3)) := Fr.alloc _ _ _
    have f2 : Fr (fun k => k = pf ∨ k = g) (w.alloc (Obj.cells #[Value.int IntKind.i64 x] 3)) w1 := Fr.of_grown hg1 (by rintro k hk; right; simpa [Value.ownBlock] using hk.symm)
    exact (f1.trans f2).trans (Fr.set (S := fun k => k = pf ∨ k = g) _ (.inl rfl) 0 _)
  have hres : FreeAt pf g' cap' (n + 1) (F ++ [x]) (w1.setCell ⟨pf, 0, none⟩ (.slice (some ⟨g', 0, none⟩) (n + 1) cap')) := by
    refine FreeAt.of_own ?_ (by simp [HH.out.len]) (by omega) hpg ?_
    · rw [heap_set hbl 0]; rfl
    · rw [List.map_append, List.map_singleton]
      exact ownsRow_setCell_other hown1 (by simp [Value.ownBlock]; omega) _
  have HR := hid hres
  have HF := hid hfr
  clear hres hfr hat hg1 hown1 hown hbl
  go_wp2_with fail
  go_end0
  exact ⟨rfl, g', cap', HR.out, by omega, HF.out⟩

theorem free_len_any (v : Option Addr) (n cap : Nat) (w : World) : Calls Try.prog 36 #[.slice v n cap] w fun e w' => e = .returned (.int .i64 n) ∧ w' = w := by
  go_enter Try.func36, Try.ntmps36
  go_wp2_with fail
  go_ret
  exact ⟨rfl, rfl⟩

set_option maxRecDepth 100000 in
theorem heap_push_any {pf g cap n : Nat} {F : List Int} (x : Int) (w : World) (h : FreeAt pf g cap n F w) (hn : n < 4096) :
    Calls Try.prog 35 #[.iface 75 (.pointer (some ⟨pf, 0, none⟩)), .iface 3 (.int .i64 x)] w fun e w' => e = .returned (.tuple #[]) ∧ ∃ F' g' cap', F'.Perm (F ++ [x]) ∧ FreeAt pf g' cap' (n + 1) F' w' ∧ (g' = g ∨ w.heap.size ≤ g') ∧ Fr (fun k => k = pf ∨ k = g) w w' := by
  have HH := hid h
  clear h
  have hm1 := method_push pf
  go_enter Try.func35, Try.ntmps35
  go_wp2_with fail
  refine (free_push_any x w HH.out hn).mono ?_
  rintro e w1 ⟨rfl, g', cap', hF, hat, hfr⟩
  have hm2 := method_len pf _ w1 hF.boxed
  have HF := hid hF
  have HR := hid hfr
  clear hF hfr hm1
  go_wp2_with fail
  refine (free_len_any _ _ _ w1).mono ?_
  rintro e w2 ⟨rfl, rfl⟩
  go_wp2_with fail
  refine (up_any n (by omega) w2 HF.out).mono ?_
  rintro e w3 ⟨rfl, F3, hp3, hF3, hfr3⟩
  have HF3 := hid hF3
  have HR3 := hid hfr3
  have HP3 := hid hp3
  clear hF3 hfr3 hp3 hm2
  go_wp2_with fail
  go_end0
  exact ⟨rfl, F3, g', cap', HP3.out, HF3.out, hat, HR.out.then HR3.out (by rintro i rfl; rcases hat with h | h; exact .inl (.inr h); exact .inr h)⟩

set_option maxRecDepth 100000 in
theorem heap_pop_any {pf g cap n : Nat} {F : List Int} (w : World) (h : FreeAt pf g cap (n + 1) F w) :
    Calls Try.prog 37 #[.iface 75 (.pointer (some ⟨pf, 0, none⟩))] w fun e w' => ∃ F' x, (x :: F').Perm F ∧ e = .returned (.iface 3 (.int .i64 x)) ∧ FreeAt pf g cap n F' w' ∧ Fr (fun k => k = pf ∨ k = g) w w' := by
  have HH := hid h
  have h0 := h.low
  have hm2 := method_len pf _ w h.boxed
  have hm3 := method_swap pf _ w h.boxed
  clear h
  go_enter Try.func37, Try.ntmps37
  go_wp2_with fail
  refine (free_len_any _ _ _ w).mono ?_
  rintro e w2 ⟨rfl, rfl⟩
  go_wp2_with fail
  refine (swap_any (n := n + 1) 0 n (by omega) (by omega) _ HH.out).mono ?_
  rintro e w3 ⟨rfl, F3, hp3, hF3, hfr3⟩
  have HF3 := hid hF3
  have HR3 := hid hfr3
  have HP3 := hid hp3
  clear hF3 hfr3 hp3 hm2 hm3
  go_wp2_with fail
  refine (down_any (n := n + 1) n (by omega) _ HF3.out).mono ?_
  rintro e w4 ⟨⟨b, rfl⟩, F4, hp4, hF4, hfr4⟩
  have HF4 := hid hF4
  have HR4 := hid hfr4
  have HP4 := hid hp4
  clear hF4 hfr4 hp4
  have hm5 := method_pop pf
  go_wp2_with fail
  refine (free_pop_any w4 HF4.out).mono ?_
  rintro e w5 ⟨F5, x, hx5, rfl, hF5, hfr5⟩
  have HF5 := hid hF5
  have HR5 := hid hfr5
  have HX5 := hid hx5
  clear hF5 hfr5 hx5 hm5
  go_wp2_with fail
  go_ret
  refine ⟨F5, x, ?_, rfl, HF5.out, ((HR3.out.trans HR4.out).mono (fun k _ h => .inr h)).trans (HR5.out.mono (fun k _ h => .inl h))⟩
  refine List.Perm.trans ?_ (HP4.out.trans HP3.out)
  rw [← HX5.out]
  exact List.perm_append_singleton _ _ |>.symm
end Go.Proofs.Ytajlilcodnkfdaa
