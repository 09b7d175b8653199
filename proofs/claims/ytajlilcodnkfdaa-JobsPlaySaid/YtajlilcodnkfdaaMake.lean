/-
  jobs.New.
-/
import Derived.Test.YtajlilcodnkfdaaSettle
import Derived.Test.YtajlilcodnkfdaaNew
namespace Go.Proofs.Ytajlilcodnkfdaa
open Go.Proofs
open Go.RowKit Go.WideMaps

set_option linter.unusedSimpArgs false

theorem info35w : (Try.prog.info? 35).map (fun i => (i.zero, i.size, i.bytes)) = some (some (.agg #[.int .i64 0, .int .i64 0, .int .i64 0, .bool false, .bool false, .bool false, .bool false, .int .i64 0, .int .i64 0, .bool false, .int .i64 0]), 11, 64) := by kernel_rfl

theorem SlotsAt.has_lt {b : SB} {n : Nat} {A : List (Int × Nat)} {w : World} (h : SlotsAt b n A w) {k : Nat} (hk : b.has k) : k < w.heap.size := by
  obtain ⟨F, hF, _⟩ := h.free
  obtain ⟨ci, k1, _⟩ := h.ids
  obtain ⟨cu, k3, _⟩ := h.used
  obtain ⟨cf, k7, _⟩ := hF.row
  rcases hk with e | e | e | e | e | e <;> subst e
  · exact lt_of_heap h.box
  · exact lt_of_heap k1
  · exact lt_of_heap k3
  · exact h.map.lt
  · exact lt_of_heap hF.box
  · exact lt_of_heap k7
theorem new_jobs {w w2 : World} {s : SB} {bt n pj : Nat} {z : Array Value} (hpj : w2.heap.size = pj) (hS : SlotsAt s n [] w2) (ht : w2.heap[bt]? = some (.cells (madeCells z (n * 11)) 35 (0, 0))) (hne : ¬ s.has bt)
    (hge : ∀ k, s.has k → w.heap.size ≤ k) (hbt : w.heap.size ≤ bt) (hfr : Fr (fun _ => False) w w2) :
    ∃ b : JB, Ending.returned (Value.pointer (some ⟨pj, 0, none⟩)) = .returned (.pointer (some ⟨b.pj, 0, none⟩)) ∧ JobsIs b n [] (w2.alloc (.cells #[.pointer (some ⟨s.ps, 0, none⟩), .slice (some ⟨bt, 0, none⟩) n n] 65)) ∧ (∀ k, b.has k → w.heap.size ≤ k) ∧
      Fr (fun _ => False) w (w2.alloc (.cells #[.pointer (some ⟨s.ps, 0, none⟩), .slice (some ⟨bt, 0, none⟩) n n] 65)) := by
  have hlt := lt_of_heap ht
  refine ⟨⟨pj, bt, s⟩, rfl, ⟨[], rfl, heap_new _ _ hpj, hS.kept (Fr.alloc (fun _ => False) _ _) (fun _ _ => _root_.id), ⟨_, heap_alloc' _ ht, size_madeCells _ _, fun p hp => by cases hp⟩, ?_, fun h => ?_, hne⟩, ?_, hfr.trans (Fr.alloc _ _ _)⟩
  · simp only; omega
  · have := hS.has_lt h
    simp only at this; omega
  · rintro k (h | h | h)
    · have := hfr.size; simp only at h; omega
    · simp only at h; omega
    · exact hge k h

set_option maxHeartbeats 1600000 in
theorem jobs_new (x : Int) (n : Nat) (hn : n ≤ 4096) (hx : min (max x 0) 4096 = (n : Int)) (w : World) :
    Calls Try.prog 8 #[.int .i64 x] w fun e w' => ∃ b : JB, e = .returned (.pointer (some ⟨b.pj, 0, none⟩)) ∧ JobsIs b n [] w' ∧ (∀ k, b.has k → w.heap.size ≤ k) ∧ Fr (fun _ => False) w w' := by
  have hm1 := make_of (P := Try.prog) Try.underlying63 info35w n (by omega) (by omega)
  have HX := hid hx
  clear hx
  go_enter Try.func8, Try.ntmps8
  go_upto_region 2 with fail
  rw [HX.out]
  go_region_with (go_at_call 27; refine (new_any n hn _).mono ?_; rintro e w1 ⟨b, rfl, hS, hge, hfr⟩; have HS := hid hS; have HGE := hid hge; have HFR := hid hfr; clear hS hge hfr)
  all_goals (go_wp2_with fail; go_ret)
  · have h1 := HFR.out.size
    refine new_jobs (by simp) (HS.out.kept (Fr.alloc (fun _ => False) _ _) (fun _ _ => _root_.id)) (heap_new _ _ rfl) (fun h => ?_) HGE.out (by simp at h1; omega) ((Fr.drew _ _).trans (HFR.out.trans (Fr.alloc _ _ _)))
    have := HS.out.has_lt h
    omega
  · have h1 := HFR.out.size
    refine new_jobs rfl HS.out (HFR.out.heap (k := w.heap.size) (heap_new w.drew _ rfl) _root_.id) (fun h => ?_) (fun k hk => ?_) (Nat.le_refl _) (((Fr.drew _ _).trans (Fr.alloc _ _ _)).trans HFR.out)
    · have := HGE.out _ h
      simp at this; omega
    · have := HGE.out _ hk
      simp at this; omega
end Go.Proofs.Ytajlilcodnkfdaa
