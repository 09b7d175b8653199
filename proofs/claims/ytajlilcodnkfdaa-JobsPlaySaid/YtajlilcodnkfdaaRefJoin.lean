/-
  The reference's jobs: Join.
-/
import Derived.Test.YtajlilcodnkfdaaRefLeave
namespace Go.Proofs.Ytajlilcodnkfdaa
open Go.Proofs
open Go.RowKit Go.WideMaps

set_option linter.unusedSimpArgs false

theorem may_yes (e p : Int) (h1 : 1 ≤ e) (h2 : e ≤ p) (h3 : p ≤ 1048575) (w : World) : Calls Try.prog 31 #[.int .i64 e, .int .i64 p] w fun x w' => x = .returned (.bool true) ∧ w' = w := by
  have h4 : 1 ≤ p := by omega
  go_enter Try.func31, Try.ntmps31
  go_wp2_with fail
  go_ret
  exact ⟨rfl, rfl⟩
theorem may_no (e p : Int) (h : e < 1 ∨ p < e ∨ 1048575 < p) (w : World) : Calls Try.prog 31 #[.int .i64 e, .int .i64 p] w fun x w' => x = .returned (.bool false) ∧ w' = w := by
  by_cases h1 : 1 ≤ p
  · by_cases h2 : p ≤ 1048575
    · by_cases h3 : 1 ≤ e
      · have h4 : ¬ e ≤ p := by omega
        clear h
        go_enter Try.func31, Try.ntmps31
        go_wp2_with fail
        go_ret
        exact ⟨rfl, rfl⟩
      · clear h
        go_enter Try.func31, Try.ntmps31
        go_wp2_with fail
        go_ret
        exact ⟨rfl, rfl⟩
    · clear h
      go_enter Try.func31, Try.ntmps31
      go_wp2_with fail
      go_ret
      exact ⟨rfl, rfl⟩
  · clear h
    go_enter Try.func31, Try.ntmps31
    go_wp2_with fail
    go_ret
    exact ⟨rfl, rfl⟩

theorem insT_split {x : T} : ∀ M : List T, find M x.ID = none → ∃ A B, M = A ++ B ∧ insT M x = A ++ x :: B ∧ (∀ y ∈ A, y.ID < x.ID) ∧ ∀ y r, B = y :: r → ¬ y.ID < x.ID
  | [], _ => ⟨[], [], rfl, rfl, fun _ h => (by cases h), fun _ _ h => (by cases h)⟩
  | y :: r, h => by
    have hy := find_none h (t := y) (by simp)
    have hr : find r x.ID = none := by
      simp only [find, List.find?_eq_none] at h ⊢
      exact fun p hp => h p (List.mem_cons_of_mem _ hp)
    by_cases hlt : x.ID < y.ID
    · exact ⟨[], y :: r, rfl, by simp [insT, hlt], fun _ h => (by cases h), fun z q h => by cases h; omega⟩
    · obtain ⟨A, B, h1, h2, h3, h4⟩ := insT_split r hr
      refine ⟨y :: A, B, by rw [h1]; rfl, by rw [insT, if_neg hlt, h2]; rfl, fun z hz => ?_, h4⟩
      rcases List.mem_cons.1 hz with rfl | hz
      · omega
      · exact h3 z hz

theorem wp_new {P : Program} {c : Code} {K : Exit → Act → World → Prop} {a : Act} {wr : World} {o : Obj} (h : ∀ wq, Fr (fun _ => False) wr wq → wq.heap[wr.heap.size]? = some o → Code.wp P c K a wq) : Code.wp P c K a (wr.alloc o) := h _ (Fr.alloc _ _ _) (heap_new wr o rfl)
theorem src_front {bm n lo : Nat} {A B : List T} {ao : Option Addr} {cap : Nat} {w : World} (h : RefAt bm n (.slice ao (A ++ B).length cap) (A ++ B) lo w) (hne : ao ≠ none) (c : Nat) : ∀ X, Fr (fun _ => False) w X → Src 11 X (.slice ao A.length c) A.length (flat A) := by
  intro X hf
  obtain ⟨g, h1 | ⟨h1, h2⟩⟩ := RefAt.front h
  · exact absurd h1.1 hne
  · exact .inr ⟨_, _, by rw [h1], flat_length A, fun j u hu => hf.cell (h2 j u hu) _root_.id⟩
theorem src_behind {bm n lo : Nat} {A B : List T} {g : Nat} {cap : Nat} {w : World} (h : RefAt bm n (.slice (some ⟨g, 0, none⟩) (A ++ B).length cap) (A ++ B) lo w) (c : Nat) : ∀ X, Fr (fun _ => False) w X → Src 11 X (.slice (some ⟨g, A.length * 11, none⟩) B.length c) B.length (flat B) := by
  intro X hf
  exact .inr ⟨_, _, rfl, flat_length B, fun j u hu => hf.cell (RefAt.behind h j u hu) _root_.id⟩
theorem src_none {g o c : Nat} (X : World) : Src 11 X (.slice (some ⟨g, o, none⟩) 0 c) 0 [] := .inr ⟨_, _, rfl, rfl, fun j u hu => by simp at hu⟩

theorem elem45 : Try.prog.underlying 45 = some (.slice (Try.prog.elem 45)) := by kernel_rfl
theorem size45 (W : World) : (sizeOf (Try.prog.elem 45)).run Try.prog W = .ok 11 W := by kernel_rfl
theorem slice_h (ao : Option Addr) (N cap a : Nat) (h : a ≤ cap) (W : World) : (Instr.slice 45 (.slice ao N cap) none (some (.int .i64 (a : Int))) none).run Try.prog W = .ok (sliced ao 0 a cap 11) W := by
  rw [run_slice_h W 45 ao N cap elem45 .i64 a (by omega) (by omega), size45]
  rfl
theorem slice_l (ao : Option Addr) (N cap a : Nat) (h : a ≤ N) (W : World) : (Instr.slice 45 (.slice ao N cap) (some (.int .i64 (a : Int))) none none).run Try.prog W = .ok (sliced ao a N cap 11) W := by
  rw [run_slice_l W 45 ao N cap elem45 .i64 a (by omega) (by omega), size45]
  rfl
theorem src_a {bm n lo : Nat} {A B : List T} {ao : Option Addr} {cap : Nat} {w : World} (h : RefAt bm n (.slice ao (A ++ B).length cap) (A ++ B) lo w) : ∀ X, Fr (fun _ => False) w X → Src 11 X (sliced ao 0 A.length cap 11) A.length (flat A) := by
  intro X hf
  obtain ⟨g, ⟨h1, h2⟩ | ⟨h1, h2⟩⟩ := RefAt.front h
  · subst h1
    obtain ⟨rfl, rfl⟩ := List.append_eq_nil_iff.1 h2
    have hc : cap = 0 := by
      rcases h.row.2 with ⟨e, _⟩ | ⟨g, _, _, e, _⟩
      · exact (Value.slice.inj e).2.2
      · cases (Value.slice.inj e).1
    subst hc
    exact .inl ⟨rfl, rfl, rfl⟩
  · subst h1
    refine .inr ⟨⟨g, 0, none⟩, cap, ?_, flat_length A, fun j u hu => hf.cell (h2 j u hu) _root_.id⟩
    unfold sliced
    split <;> simp [Addr.add]
theorem src_b {bm n lo : Nat} {A B : List T} {ao : Option Addr} {cap : Nat} {w : World} (h : RefAt bm n (.slice ao (A ++ B).length cap) (A ++ B) lo w) : ∀ X, Fr (fun _ => False) w X → Src 11 X (sliced ao A.length (A ++ B).length cap 11) B.length (flat B) := by
  intro X hf
  obtain ⟨g, ⟨h1, h2⟩ | ⟨h1, h2⟩⟩ := RefAt.front h
  · subst h1
    obtain ⟨rfl, rfl⟩ := List.append_eq_nil_iff.1 h2
    have hc : cap = 0 := by
      rcases h.row.2 with ⟨e, _⟩ | ⟨g, _, _, e, _⟩
      · exact (Value.slice.inj e).2.2
      · cases (Value.slice.inj e).1
    subst hc
    exact .inl ⟨rfl, rfl, rfl⟩
  · subst h1
    have hlen : (A ++ B).length - A.length = B.length := by simp
    by_cases hc : cap = A.length
    · have hb : B.length = 0 := by
        obtain ⟨ao, cap', hr⟩ := h.open
        have := hr.lecap
        have := (Value.slice.inj hr.val).2.2
        simp only [List.length_append] at *
        omega
      refine .inr ⟨⟨g, 0, none⟩, cap - A.length, ?_, flat_length B, fun j u hu => ?_⟩
      · unfold sliced
        rw [if_pos hc, hlen]
      · rw [List.eq_nil_of_length_eq_zero hb] at hu
        simp [flat] at hu
    · refine .inr ⟨⟨g, A.length * 11, none⟩, cap - A.length, ?_, flat_length B, fun j u hu => hf.cell (RefAt.behind h j u hu) _root_.id⟩
      unfold sliced
      rw [if_neg hc, hlen, Option.map_some, Go.Addr.add_mid, Nat.zero_add]

set_option maxRecDepth 100000 in
set_option maxHeartbeats 12800000 in
theorem join_ref {bm n lo : Nat} {v : Value} {M : List T} (id E P : Int) (sp : Bool) (hn : n ≤ 4096) (w : World) (h : RefAt bm n v M lo w) :
    Calls Try.prog 16 #[.pointer (some ⟨bm, 0, none⟩), .int .i64 id, .int .i64 E, .int .i64 P, .bool sp] w fun e w' => e = .returned (.int .i64 (mJoin n M id E P sp).1) ∧ ∃ v', RefAt bm n v' (mJoin n M id E P sp).2 lo w' ∧ RefWent bm v v' w w' := by
  have H := hid h
  by_cases hbad : E < 1 ∨ P < E ∨ 1048575 < P
  · have hm : mJoin n M id E P sp = (2, M) := by simp only [mJoin, if_pos hbad]
    rw [hm]
    have HB := hid hbad
    clear h hm hbad
    go_enter Try.func16, Try.ntmps16
    go_wp2_with fail
    refine (may_no E P HB.out w).mono ?_
    rintro e w' ⟨rfl, hw⟩
    have hw := hw.symm; subst hw
    go_wp2_with fail
    go_ret
    exact ⟨rfl, v, H.out, RefWent.refl _ _ _⟩
  · have HMY := hid (may_yes E P (by omega) (by omega) (by omega))
    cases hf : find M id with
    | some t =>
      obtain ⟨A, B, rfl, hno, hti⟩ := find_split hf
      have hm : mJoin n (A ++ t :: B) id E P sp = (4, A ++ t :: B) := by simp only [mJoin, if_neg hbad, hf, Option.isSome_some, if_true]
      rw [hm]
      have HNO := hid hno
      have HTI := hid hti
      clear h hm hbad hf hno hti
      go_enter Try.func16, Try.ntmps16
      go_wp2_with fail
      refine (HMY.out w).mono ?_
      rintro e w' ⟨rfl, hw⟩
      have hw := hw.symm; subst hw
      go_wp2_with fail
      refine (at_some HNO.out HTI.out w H.out).mono ?_
      rintro e w' ⟨rfl, hw⟩
      have hw := hw.symm; subst hw
      go_wp2_with fail
      go_ret
      exact ⟨rfl, v, H.out, RefWent.refl _ _ _⟩
    | none =>
      have hno : ∀ x ∈ M, x.ID ≠ id := fun x hx => find_none hf hx
      have HNO := hid hno
      have hc0 : w.cell? ⟨bm, 0, none⟩ = some (.int .i64 n) := by rw [cell_of_heap h.box]; rfl
      have hc1 : w.cell? ⟨bm, 1, none⟩ = some v := by rw [cell_of_heap h.box]; rfl
      obtain ⟨ao, cap, hrow⟩ := h.open
      have hval := hrow.val
      have hlec := hrow.lecap
      have hlow := h.low
      by_cases hfull : n ≤ M.length
      · have hm : mJoin n M id E P sp = (6, M) := by simp only [mJoin, if_neg hbad, hf, Option.isSome_none, if_pos hfull, Bool.false_eq_true, if_false]
        rw [hm]
        have HV := hid hval
        rw [hval] at hc1
        clear h hm hbad hf hno hrow hval
        go_enter Try.func16, Try.ntmps16
        go_wp2_with fail
        refine (HMY.out w).mono ?_
        rintro e w' ⟨rfl, hw⟩
        have hw := hw.symm; subst hw
        go_wp2_with fail
        refine (at_none id HNO.out w H.out).mono ?_
        rintro e w' ⟨rfl, hw⟩
        have hw := hw.symm; subst hw
        go_upto_region 5 with fail
        go_quiet (fail)
        go_wp2_with fail
        go_ret
        exact ⟨rfl, v, H.out.quiet (Fr.drewN _ _ _), (Fr.drewN _ _ _), fun _ h => .inl h⟩
      · have hm : mJoin n M id E P sp = (0, insT M (made id E P sp)) := by simp only [mJoin, if_neg hbad, hf, Option.isSome_none, if_neg hfull, Bool.false_eq_true, if_false]
        rw [hm]
        obtain ⟨A, B, hAB, hins, hlt, hge⟩ := insT_split (x := made id E P sp) M hf
        rw [hins]
        subst hval
        have hla : A.length + B.length = M.length := by rw [hAB]; simp
        have HR := hid hrow
        have HAB := hid hAB
        obtain ⟨a, hA⟩ : ∃ a, A.length = a := ⟨_, rfl⟩
        obtain ⟨b, hB⟩ : ∃ b, B.length = b := ⟨_, rfl⟩
        rw [hA, hB] at hla
        have hpre : ∀ i (h : i < a), (M[i]'(by omega)).ID < id := fun i hi => by
          subst hAB
          rw [List.getElem_append_left (by omega)]
          exact hlt _ (List.getElem_mem (by omega))
        have hnext : ∀ (h : a < M.length), ¬ (M[a]'h).ID < id := fun hi => by
          subst hAB
          subst hA
          cases B with
          | nil => simp at hi
          | cons y r =>
            rw [List.getElem_append_right (Nat.le_refl _)]
            simpa [made] using hge y r rfl
        have HPRE := hid hpre
        have HNEXT := hid hnext
        clear h hm hbad hf hno hrow hlt hge hins hpre hnext hAB
        go_enter Try.func16, Try.ntmps16
        go_wp2_with fail
        refine (HMY.out w).mono ?_
        rintro e w' ⟨rfl, hw⟩
        have hw := hw.symm; subst hw
        go_wp2_with fail
        refine (at_none id HNO.out w H.out).mono ?_
        rintro e w' ⟨rfl, hw⟩
        have hw := hw.symm; subst hw
        go_upto_region 5 with fail
        go_quiet (fail)
        go_upto_block 1 with fail
        refine wp_fr w (by repeat (first | exact Fr.refl _ _ | exact Fr.drewN _ _ _ | refine Fr.trans ?_ (Fr.drewN _ _ _))) ?_
        intro wp hwp
        have hc1' := hwp.cell hc1 _root_.id
        have HWP := hid hwp
        clear hc0 hc1 hwp
        go_cut [11] from 34 to 54 (fun s wx => s = .int .i64 a ∧ wx = wp)
        case first =>
          go_wp2_with fail
          go_loop [11] (fun s => ∃ i : Nat, i ≤ a ∧ s = .int .i64 i) (fun s => a - (intOf s).toNat)
          case atStart => exact ⟨0, Nat.zero_le _, rfl⟩
          case round =>
            obtain ⟨i, hi, rfl⟩ := hrel
            by_cases hia : i < a
            · have hiM : i < M.length := by omega
              obtain ⟨g, rfl, _, _, hcell⟩ := HR.out.cell i hiM
              have q0 : w.cell? ⟨g, i * 11, none⟩ = some (.int .i64 (M[i]'hiM).ID) := hcell 0 _ rfl
              have i0 : (0 : Int) ≤ (i : Int) := by omega
              have i1 : (i : Int) < (M.length : Int) := by omega
              have hl := HPRE.out i hia
              have q0 := HWP.out.cell q0 _root_.id
              obtain ⟨x, hx⟩ : ∃ x, (M[i]'hiM).ID = x := ⟨_, rfl⟩
              rw [hx] at q0 hl
              clear hcell hx
              go_wp2_with fail
              go_round
              case rel => exact ⟨i + 1, by omega, by go_num⟩
              case measure => simp [intOf]; omega
            · obtain rfl : i = a := by omega
              have i0 : (0 : Int) ≤ (i : Int) := by omega
              by_cases hend : i < M.length
              · obtain ⟨g, rfl, _, _, hcell⟩ := HR.out.cell i hend
                have q0 : w.cell? ⟨g, i * 11, none⟩ = some (.int .i64 (M[i]'hend).ID) := hcell 0 _ rfl
                have i1 : (i : Int) < (M.length : Int) := by omega
                have hl : ¬ (M[i]'hend).ID < id := by have := HNEXT.out hend; omega
                have q0 := HWP.out.cell q0 _root_.id
                obtain ⟨x, hx⟩ : ∃ x, (M[i]'hend).ID = x := ⟨_, rfl⟩
                rw [hx] at q0 hl
                clear hcell hx
                go_wp2_with fail
                go_meet
                case rel => exact ⟨rfl, rfl⟩
              · have i1 : (i : Int) = (M.length : Int) := by omega
                go_wp2_with fail
                go_meet
                case rel => exact ⟨by first | rfl | rw [i1], rfl⟩
        case rest =>
          obtain ⟨rfl, hwc⟩ := hcut
          have hfc : Fr (fun _ => False) w wc := by rw [hwc]; exact HWP.out
          rw [← hwc] at hc1'
          have H0 := H.out
          rw [HAB.out] at H0
          have hsa0 := src_a H0
          have hsb0 := src_b H0
          rw [← HAB.out, hA] at hsb0
          rw [hA] at hsa0
          rw [hB] at hsb0
          have hs1 := slice_h ao M.length cap a (by omega)
          have hs2 := slice_l ao M.length cap a (by omega)
          obtain ⟨sa, hsa⟩ : ∃ sa, sliced ao 0 a cap 11 = sa := ⟨_, rfl⟩
          obtain ⟨sb, hsb⟩ : ∃ sb, sliced ao a M.length cap 11 = sb := ⟨_, rfl⟩
          rw [hsa] at hsa0 hs1
          rw [hsb] at hsb0 hs2
          have HWC := hid hfc
          have HSA0 := hid hsa0
          have HSB0 := hid hsb0
          obtain ⟨v, hv⟩ : ∃ v, Value.slice ao M.length cap = v := ⟨_, rfl⟩
          rw [hv] at hc1' hs1 hs2
          clear hsa hsb hsa0 hsb0 hwc hfc H0 hv HR HPRE HNEXT HMY HNO HWP hw
          obtain ⟨i0', hi', hz0, hz1, hz2⟩ := info_parts info54
          go_upto_region 11 with fail
          refine wp_new ?_
          intro wq hwq hq
          have cb := hwq.cell hc1' _root_.id
          have ca0 := fun o => kc_alloc cb o
          have HQ := hid hq
          have s0 : _ = some (Value.int .i64 id) := (cell_of_heap hq 0).trans rfl
          have s1 : _ = some (Value.int .i64 E) := (cell_of_heap hq 1).trans rfl
          have s2 : _ = some (Value.int .i64 P) := (cell_of_heap hq 2).trans rfl
          have s3 : _ = some (Value.bool sp) := (cell_of_heap hq 3).trans rfl
          have s4 : _ = some (Value.bool false) := (cell_of_heap hq 4).trans rfl
          have s5 : _ = some (Value.bool false) := (cell_of_heap hq 5).trans rfl
          have s6 : _ = some (Value.bool false) := (cell_of_heap hq 6).trans rfl
          have s7 : _ = some (Value.int .i64 0) := (cell_of_heap hq 7).trans rfl
          have s8 : _ = some (Value.int .i64 0) := (cell_of_heap hq 8).trans rfl
          have s9 : _ = some (Value.bool false) := (cell_of_heap hq 9).trans rfl
          have s10 : _ = some (Value.int .i64 0) := (cell_of_heap hq 10).trans rfl
          have HW := hid (HWC.out.trans hwq)
          have hz := hwq.size
          have HSA : Hid (∀ X, Fr (fun _ => False) wq X → Src 11 X sa a (flat A)) := hid (fun X hX => HSA0.out X (HW.out.trans hX))
          have HSB : Hid (∀ X, Fr (fun _ => False) wq X → Src 11 X sb b (flat B)) := hid (fun X hX => HSB0.out X (HW.out.trans hX))
          clear hc1' hwq hq
          go_region_law (first
            | (refine step_append_src (by rfl) (.const (.slice none 0 0)) (.tmp 66) 45 (by rfl) w.heap.size 54 i0' _ 11 64 Try.underlying45 hi' hz0 hz1 hz2 (by rfl) (by omega) (.slice none 0 0) 0 [] (by rfl) (World.ownsRow_nil _ _ _ _) a (flat A) (HSA.out _ (by repeat (first | exact Fr.refl _ _ | exact Fr.drew _ _ | refine Fr.trans ?_ (Fr.alloc _ _ _) | refine Fr.trans ?_ (Fr.drew _ _)))) (flat_ones A) (by unfold maxLen; omega) (by omega) (Fr.size (HW.out.trans (by repeat (first | exact Fr.refl _ _ | exact Fr.drew _ _ | refine Fr.trans ?_ (Fr.alloc _ _ _) | refine Fr.trans ?_ (Fr.drew _ _))))) ?_
               intro ao1 cap1 w1 hown1 hg1 hat1
               simp only [Nat.zero_add, List.nil_append] at hown1
               have hx1 := Fr.of_grown (S := fun _ => False) hg1 (fun k hk => by cases hk)
               have hf1 : Fr (fun _ => False) wq w1 := Fr.trans (by repeat (first | exact Fr.refl _ _ | exact Fr.drew _ _ | refine Fr.trans ?_ (Fr.alloc _ _ _) | refine Fr.trans ?_ (Fr.drew _ _))) hx1
               have hnew1 : ∀ k, (Value.slice ao1 a cap1).ownBlock = some k → wq.heap.size ≤ k := fun k hk => by
                 rcases hat1 with e | e
                 · simp only [Nat.zero_add] at e
                   rw [e] at hk; cases hk
                 · simp only [Nat.zero_add] at e
                   rw [e] at hk
                   have h2 : k = _ := (Option.some.inj hk).symm
                   first | omega | (simp at h2; omega)
               have HNEW1 := hid hnew1
               have HO1 := hid hown1
               have HX1 := hid hx1
               have HF1 := hid hf1
               have cb1 := hf1.cell cb _root_.id
               have ca1 := fun o => kc_alloc cb1 o
               have hq1 := hf1.heap HQ.out _root_.id
               have r0 : _ = some (Value.int .i64 id) := (cell_of_heap hq1 0).trans rfl
               have r1 : _ = some (Value.int .i64 E) := (cell_of_heap hq1 1).trans rfl
               have r2 : _ = some (Value.int .i64 P) := (cell_of_heap hq1 2).trans rfl
               have r3 : _ = some (Value.bool sp) := (cell_of_heap hq1 3).trans rfl
               have r4 : _ = some (Value.bool false) := (cell_of_heap hq1 4).trans rfl
               have r5 : _ = some (Value.bool false) := (cell_of_heap hq1 5).trans rfl
               have r6 : _ = some (Value.bool false) := (cell_of_heap hq1 6).trans rfl
               have r7 : _ = some (Value.int .i64 0) := (cell_of_heap hq1 7).trans rfl
               have r8 : _ = some (Value.int .i64 0) := (cell_of_heap hq1 8).trans rfl
               have r9 : _ = some (Value.bool false) := (cell_of_heap hq1 9).trans rfl
               have r10 : _ = some (Value.int .i64 0) := (cell_of_heap hq1 10).trans rfl
               clear hown1 hf1 hx1 hg1 hat1 hq1 hnew1)
            | (refine step_append_src (by rfl) (.tmp 67) (.tmp 69) 45 (by rfl) w.heap.size 54 i0' _ 11 64 Try.underlying45 hi' hz0 hz1 hz2 (by rfl) (by omega) (.slice ao1 a cap1) a (flat A) (by rfl) (by first | exact HO1.out | exact row_kept HO1.out (Fr.alloc (fun _ => False) _ _) (fun _ _ => _root_.id)) 1 (made id E P sp).cells.toList (by first | exact .inr ⟨_, _, rfl, rfl, World.news_of_block (cs := (made id E P sp).cells) (t := 54) (fr := (0, 0)) (heap_new w1 _ rfl)⟩ | exact .inr ⟨_, _, rfl, rfl, World.news_of_block (cs := (made id E P sp).cells) (t := 54) (fr := (0, 0)) (HX1.out.heap (heap_new _ _ rfl) _root_.id)⟩) (fun u hu => (Array.all_eq_true_iff_forall_mem.1 (cells_one (made id E P sp))) u (by simpa using hu)) (by unfold maxLen; omega) (by omega) (by first | exact Fr.size (HW.out.trans HF1.out) | exact Fr.size ((HW.out.trans HF1.out).trans (Fr.alloc _ _ _))) ?_
               intro ao2 cap2 w2 hown2 hg2 hat2
               have hf2 : Fr (fun _ => False) wq w2 := Fr.then (S := fun _ => False) (T := fun k => w.heap.size ≤ k ∧ wq.heap.size ≤ k) (by first | exact HF1.out | exact HF1.out.trans (Fr.alloc _ _ _)) (Fr.of_grown hg2 (fun k hk => ⟨(HO1.out.lt k hk).1, HNEW1.out k hk⟩)) (fun k hk => .inr hk.2)
               have HO2 := hid hown2
               have HF2 := hid hf2
               have cb2 := hf2.cell cb _root_.id
               have hnew2 : ∀ k, (Value.slice ao2 (a + 1) cap2).ownBlock = some k → wq.heap.size ≤ k := fun k hk => by
                 rcases hat2 with e | e
                 · rw [e] at hk; exact HNEW1.out k hk
                 · rw [e] at hk
                   have h1 := HF1.out.size
                   have h2 : k = _ := (Option.some.inj hk).symm
                   first | omega | (simp at h2; omega)
               have HNEW2 := hid hnew2
               clear hown2 hf2 hg2 hat2 hnew2)
            | (refine step_append_src (by rfl) (.tmp 70) (.tmp 76) 45 (by rfl) w.heap.size 54 i0' _ 11 64 Try.underlying45 hi' hz0 hz1 hz2 (by rfl) (by omega) (.slice ao2 (a + 1) cap2) (a + 1) (flat A ++ (made id E P sp).cells.toList) (by rfl) HO2.out b (flat B) (HSB.out _ HF2.out) (flat_ones B) (by unfold maxLen; omega) (by omega) (Fr.size (HW.out.trans HF2.out)) ?_
               intro ao3 cap3 w3 hown3 hg3 hat3
               have hf3 : Fr (fun _ => False) wq w3 := HF2.out.then (Fr.of_grown (S := fun k => wq.heap.size ≤ k) hg3 (fun k hk => HNEW2.out k hk)) (fun k hk => .inr hk)
               have HO3 := hid hown3
               have HF3 := hid hf3
               have cb3 := hf3.cell cb _root_.id
               have zb3 : w3.frozen? ⟨bm, 1, none⟩ = false := free_of_heap ((HW.out.trans hf3).heap H.out.box _root_.id) 1
               clear hown3 hf3 hg3 hat3))
          all_goals
            go_wp2_with fail
            go_ret
            have hfin := ref_stored (M' := A ++ made id E P sp :: B) (v' := .slice ao3 (a + 1 + b) cap3) H.out (HW.out.trans HF3.out) (by
              have := HO3.out
              rw [List.append_assoc, ← flat_cons, ← flat_append] at this
              rw [show (A ++ made id E P sp :: B).length = a + 1 + b by simp; omega]
              exact this) (by simp; omega)
            exact ⟨rfl, _, hfin.1, hfin.2.1.mono (fun _ _ e => .inl e), fun k hk => .inr (hfin.2.2 k hk)⟩
end Go.Proofs.Ytajlilcodnkfdaa
