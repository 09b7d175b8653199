/-
  slots.New.
-/
import Derived.Test.YtajlilcodnkfdaaSlots
namespace Go.Proofs.Ytajlilcodnkfdaa
open Go.Proofs
open Go.RowKit Go.WideMaps

/-! ### New -/
theorem info3 : (Try.prog.info? 3).map (fun i => (i.zero, i.size, i.bytes)) = some (some (.int .i64 0), 1, 8) := by kernel_rfl
theorem info4 : (Try.prog.info? 4).map (fun i => (i.zero, i.size, i.bytes)) = some (some (.bool false), 1, 1) := by kernel_rfl

theorem at_top (w : World) (o : Obj) (k : Nat) (h : k = w.heap.size) : (w.alloc o).heap[k]? = some o := by subst h; exact heap_alloc_new w o
theorem new_mid {w w5 : World} {n bi bu bm pf ps : Nat} (hps : w5.heap.size = ps) (h1 : w5.heap[bi]? = some (.cells (madeCells #[.int .i64 0] n) 3)) (h2 : w5.heap[bu]? = some (.cells (madeCells #[.bool false] n) 4))
    (h3 : w5.heap[bm]? = some (.map #[] 0)) (h4 : ∃ g, w5.heap[pf]? = some (.cells #[.slice (some ⟨g, 0, none⟩) 0 0] 76) ∧ w5.heap[g]? = some (.cells #[] 3) ∧ [ps, bi, bu, bm, pf, g].Nodup ∧
      w.heap.size ≤ bi ∧ w.heap.size ≤ bu ∧ w.heap.size ≤ bm ∧ w.heap.size ≤ pf ∧ w.heap.size ≤ g ∧ w.heap.size ≤ ps) (hfr : Fr (fun _ => False) w w5) :
    ∃ b : SB, Value.pointer (some ⟨ps, 0, none⟩) = .pointer (some ⟨b.ps, 0, none⟩) ∧
      SlotsMid b n [] [] (w5.alloc (.cells #[.slice (some ⟨bi, 0, none⟩) n n, .slice (some ⟨bu, 0, none⟩) n n, .map (some bm), .pointer (some ⟨pf, 0, none⟩)] 78)).drew ∧ (∀ k, b.has k → w.heap.size ≤ k) ∧
      Fr (fun _ => False) w (w5.alloc (.cells #[.slice (some ⟨bi, 0, none⟩) n n, .slice (some ⟨bu, 0, none⟩) n n, .map (some bm), .pointer (some ⟨pf, 0, none⟩)] 78)).drew := by
  obtain ⟨g, h4, h5, hap, hge⟩ := h4
  refine ⟨⟨ps, bi, bu, bm, pf, g, 0⟩, rfl, ?_, fun k hk => by unfold SB.has at hk; simp only at hk; omega, (hfr.trans (Fr.alloc _ _ _)).trans (Fr.drew _ _)⟩
  refine SlotsMid.drew ⟨heap_new _ _ hps, ⟨_, heap_alloc' _ h1, size_madeCells _ _⟩, ⟨_, heap_alloc' _ h2, size_madeCells _ _⟩, ?_, ⟨heap_alloc' _ h4, ⟨_, heap_alloc' _ h5, rfl, rfl⟩, rfl, Nat.le_refl _, Nat.zero_le _, Nat.zero_le _, ?_⟩, hap⟩
  · exact ⟨#[], 0, heap_alloc' _ h3, ⟨by simp, Go.MapKept.stamped_empty 0, by simp⟩, Nat.le_refl _, rfl⟩
  · exact (nodup_six hap).2.2.2.2


set_option maxHeartbeats 8000000 in
theorem new_any (n : Nat) (hn : n ≤ 4096) (w : World) :
    Calls Try.prog 27 #[.int .i64 (n : Int)] w fun e w' => ∃ b : SB, e = .returned (.pointer (some ⟨b.ps, 0, none⟩)) ∧ SlotsAt b n [] w' ∧ (∀ k, b.has k → w.heap.size ≤ k) ∧ Fr (fun _ => False) w w' := by
  have hmm := @run_makeMap Try.prog
  have hm1 := make_of (P := Try.prog) Try.underlying28 info3 n (by omega) (by omega)
  have hm2 := make_of (P := Try.prog) Try.underlying40 info4 n (by omega) (by omega)
  go_enter Try.func27, Try.ntmps27
  go_upto_region 2 with fail
  rw [show min (n : Int) 4096 = n by omega]
  go_cut [3] (fun s wx => ∃ b : SB, s = .pointer (some ⟨b.ps, 0, none⟩) ∧ SlotsMid b n [] [] wx ∧ (∀ k, b.has k → w.heap.size ≤ k) ∧ Fr (fun _ => False) w wx)
  case first =>
    go_region
    all_goals (go_wp2_with fail; go_meet)
    all_goals
      (case rel =>
        refine new_mid (by simp) ?_ ?_ ?_ ?_ ?_
        · (repeat (first | exact at_top _ _ _ (by simp) | refine heap_alloc' _ ?_))
        · (repeat (first | exact at_top _ _ _ (by simp) | refine heap_alloc' _ ?_))
        · (repeat (first | exact at_top _ _ _ (by simp) | refine heap_alloc' _ ?_))
        · first
            | (exact ⟨(w.heap.size), by (repeat (first | exact at_top _ _ _ (by simp) | refine heap_alloc' _ ?_)), by (repeat (first | exact at_top _ _ _ (by simp) | refine heap_alloc' _ ?_)), by (simp only [List.nodup_cons, List.mem_cons, List.not_mem_nil, or_false, not_or, List.nodup_nil, and_true, not_false_eq_true]; omega), by omega⟩)
            | (exact ⟨(w.heap.size + 1), by (repeat (first | exact at_top _ _ _ (by simp) | refine heap_alloc' _ ?_)), by (repeat (first | exact at_top _ _ _ (by simp) | refine heap_alloc' _ ?_)), by (simp only [List.nodup_cons, List.mem_cons, List.not_mem_nil, or_false, not_or, List.nodup_nil, and_true, not_false_eq_true]; omega), by omega⟩)
            | (exact ⟨(w.heap.size + 1 + 1), by (repeat (first | exact at_top _ _ _ (by simp) | refine heap_alloc' _ ?_)), by (repeat (first | exact at_top _ _ _ (by simp) | refine heap_alloc' _ ?_)), by (simp only [List.nodup_cons, List.mem_cons, List.not_mem_nil, or_false, not_or, List.nodup_nil, and_true, not_false_eq_true]; omega), by omega⟩)
            | (exact ⟨(w.heap.size + 1 + 1 + 1), by (repeat (first | exact at_top _ _ _ (by simp) | refine heap_alloc' _ ?_)), by (repeat (first | exact at_top _ _ _ (by simp) | refine heap_alloc' _ ?_)), by (simp only [List.nodup_cons, List.mem_cons, List.not_mem_nil, or_false, not_or, List.nodup_nil, and_true, not_false_eq_true]; omega), by omega⟩)
        · repeat (first | exact Fr.refl _ _ | refine Fr.trans ?_ (Fr.alloc _ _ _)))
  case rest =>
    obtain ⟨b, rfl, hM, hge, hfr⟩ := hcut
    have HM := hid hM
    have HG := hid hge
    have HR := hid hfr
    clear hmm hm1 hm2 hM hge hfr
    go_wp2_with fail
    go_loopw [18] (fun s wx => ∃ (k : Nat) (F : List Int) (g' cap' : Nat), k ≤ n ∧ s = .int .i64 k ∧ F.Perm (nats k) ∧ SlotsMid { b with g := g', cap := cap' } n [] F wx ∧ w.heap.size ≤ g' ∧ Fr (fun _ => False) w wx) (fun s _ => n - (intOf s).toNat)
    case atStart => exact ⟨0, [], b.g, b.cap, Nat.zero_le _, rfl, List.Perm.refl _, HM.out, HG.out _ (.inr (.inr (.inr (.inr (.inr rfl))))), HR.out⟩
    case round =>
      obtain ⟨k, F, g', cap', hk, rfl, hp, hM, hg', hfr⟩ := hrel
      clear HM HR
      have HM := hid hM
      have HR := hid hfr
      have HP := hid hp
      have hc3 : wr.cell? ⟨b.ps, 3, none⟩ = some (.pointer (some ⟨b.pf, 0, none⟩)) := by rw [cell_of_heap hM.box]; rfl
      have hFl : F.length = k := by have := hp.length_eq; simpa [nats] using this
      clear hM hfr hp
      by_cases hlt : k < n
      · go_wp2_with fail
        refine (heap_push_any (k : Int) wr HM.out.free (by omega)).mono ?_
        rintro e w3 ⟨rfl, F', g2, cap2, hpF, hF', hg2, hfr3⟩
        have hM3 := HM.out.free_to hfr3 (by rw [hpF.length_eq, List.length_append]; exact hF') hg2
        have HM3 := hid hM3
        have hR3 : Fr (fun _ => False) w w3 := HR.out.then hfr3 (by
          have h1 := HG.out b.pf (.inr (.inr (.inr (.inr (.inl rfl)))))
          rintro i (rfl | rfl)
          · exact .inr h1
          · exact .inr hg')
        have hsz := HR.out.size
        have HR3 := hid hR3
        have HPF := hid hpF
        clear hM3 hR3 hpF hF' hfr3 hc3
        go_wp2_with fail
        go_roundw
        case rel =>
          refine ⟨k + 1, F', g2, cap2, hlt, by go_num, ?_, HM3.out, ?_, HR3.out⟩
          · refine HPF.out.trans ?_
            rw [nats, List.range_succ, List.map_append]
            exact HP.out.append_right _
          · rcases hg2 with h | h
            · rw [h]; exact hg'
            · omega
        case measure => simp [intOf]; omega
      · obtain rfl : k = n := by omega
        have hres : SlotsAt { b with g := g', cap := cap' } k [] wr := HM.out.whole (by simpa using HP.out) (by simp) (by simp) hn
        have HRES := hid hres
        have hge2 : ∀ i, ({ b with g := g', cap := cap' } : SB).has i → w.heap.size ≤ i := by
          intro i hi
          rcases hi with h | h | h | h | h | h
          · exact HG.out i (.inl h)
          · exact HG.out i (.inr (.inl h))
          · exact HG.out i (.inr (.inr (.inl h)))
          · exact HG.out i (.inr (.inr (.inr (.inl h))))
          · exact HG.out i (.inr (.inr (.inr (.inr (.inl h)))))
          · subst h; exact hg'
        have HG2 := hid hge2
        clear hres hge2
        go_wp2_with fail
        go_ret
        exact ⟨{ b with g := g', cap := cap' }, rfl, HRES.out, HG2.out, HR.out⟩
end Go.Proofs.Ytajlilcodnkfdaa
