/-
  sync.Once's slow road over the closure that makes the tables, and '(*Names).tables': behind it the tables are there.
-/
import Derived.Test.YtdndckkfdlchpaaDoorMake
namespace Go.Proofs.YtdndckkfdlchpaaDoor
open Go.Proofs
open Go.RowKit Go.WideMaps

/-- The object as New makes it. -/
def Fresh (b : Nat) (w : World) : Prop := w.heap[b]? = some (.cells #[.int .u32 0, .int .i32 0, .int .u32 0, .int .i64 0, .slice none 0 0, .slice none 0 0, .slice none 0 0, .map none] 54 (0, 0))

theorem drew_grown (w : World) (r : Option Nat) : w.grownBy w.drew r := ⟨rfl, rfl, rfl, Nat.le_refl _, fun _ _ _ => rfl⟩
theorem Fresh.lock {b : Nat} {w : World} (h : Fresh b w) : Raw b (w.setCell ⟨b, 1, none⟩ (.int .i32 1)) := heap_set h 1 _

theorem Tables.set0 {b : Nat} {d l : Int} {H : Nat} {w : World} (h : Tables b d l H w) (d' : Int) : Tables b d' l H (w.setCell ⟨b, 0, none⟩ (.int .u32 d')) := by
  obtain ⟨ao, am, bm, v, n, base, h1, h2, h3, h4, h5, n1, n2, n3, n4⟩ := h
  have hgs := grownBy_setCell' w b 0 (.int .u32 d')
  exact ⟨ao, am, bm, v, n, base, heap_set h1 0 _, by rw [heap_set_far n1]; exact h2, by rw [heap_set_far n2]; exact h3, h4.kept hgs (.inr n3), h5.kept hgs (by simpa using n4.1), n1, n2, n3, n4⟩
theorem Tables.set1 {b : Nat} {d l : Int} {H : Nat} {w : World} (h : Tables b d l H w) (l' : Int) : Tables b d l' H (w.setCell ⟨b, 1, none⟩ (.int .i32 l')) := by
  obtain ⟨ao, am, bm, v, n, base, h1, h2, h3, h4, h5, n1, n2, n3, n4⟩ := h
  have hgs := grownBy_setCell' w b 1 (.int .i32 l')
  exact ⟨ao, am, bm, v, n, base, heap_set h1 1 _, by rw [heap_set_far n1]; exact h2, by rw [heap_set_far n2]; exact h3, h4.kept hgs (.inr n3), h5.kept hgs (by simpa using n4.1), n1, n2, n3, n4⟩
theorem Tables.cell0 {b : Nat} {d l : Int} {H : Nat} {w : World} (h : Tables b d l H w) : w.cell? ⟨b, 0, none⟩ = some (.int .u32 d) := by
  obtain ⟨ao, am, bm, v, n, base, h1, _⟩ := h
  rw [cell_of_heap h1]; rfl
theorem Tables.cell1 {b : Nat} {d l : Int} {H : Nat} {w : World} (h : Tables b d l H w) : w.cell? ⟨b, 1, none⟩ = some (.int .i32 l) := by
  obtain ⟨ao, am, bm, v, n, base, h1, _⟩ := h
  rw [cell_of_heap h1]; rfl
theorem Tables.free {b : Nat} {d l : Int} {H : Nat} {w : World} (h : Tables b d l H w) (i : Nat) : w.frozen? ⟨b, i, none⟩ = false := by
  obtain ⟨ao, am, bm, v, n, base, h1, _⟩ := h
  simp [World.frozen?, h1]
theorem Tables.drew {b : Nat} {d l : Int} {H : Nat} {w : World} (h : Tables b d l H w) : Tables b d l H w.drew := h

theorem Env.set {B : Nat} {w : World} (h : Env B w) {b : Nat} (hb : B ≤ b) (i : Nat) (v : Value) : Env B (w.setCell ⟨b, i, none⟩ v) := by
  obtain ⟨g, hg, hlt⟩ := h.lies
  refine ⟨var?_below ((Below.refl B w).setCell (p := ⟨b, i, none⟩) hb v) hg hlt h.tab, by simpa using h.size, g, hg, hlt⟩

set_option maxRecDepth 100000 in
set_option maxHeartbeats 1600000 in
theorem slow_first (B b pl : Nat) (w : World) (henv : Env B w) (hB : B ≤ b) (hbl : b ≠ pl) (h : Fresh b w) (hp : w.heap[pl]? = some (.cells #[.pointer (some ⟨b, 0, none⟩)] 23 (0, 0))) :
    Calls Tryd.prog 25 #[.pointer (some ⟨b, 0, none⟩), .func (.func 21) #[] #[.pointer (some ⟨pl, 0, none⟩)]] w fun e w' => e = .returned (.tuple #[]) ∧ Tables b 1 0 w.heap.size w' ∧ w.grownBy w' (some b) := by
  have h0 : w.cell? ⟨b, 0, none⟩ = some (.int .u32 0) := by rw [cell_of_heap h]; rfl
  have h1 : w.cell? ⟨b, 1, none⟩ = some (.int .i32 0) := by rw [cell_of_heap h]; rfl
  have hz : ∀ i, w.frozen? ⟨b, i, none⟩ = false := by intro i; simp [World.frozen?, show w.heap[b]? = _ from h]
  have hl := run_call_load (P := Tryd.prog) Tryd.func29 (by kernel_rfl) (by kernel_rfl) (by kernel_rfl) .u32 (by kernel_rfl) (w := w.setCell ⟨b, 1, none⟩ (.int .i32 1)) (a := ⟨b, 0, none⟩) (x := 0) ((World.cell?_setCell_other _ ⟨b, 1, none⟩ ⟨b, 0, none⟩ _ (by simp)).trans h0)
  have hnot : ∀ (x : Bool) (w : World), (Op.unary .not (.bool x)).run Tryd.prog w = .ok (.bool (!x)) w := fun _ _ => rfl
  go_enter_defers Tryd.func25, Tryd.ntmps25
  go_wp2_with (first
    | (go_at_call 30; refine (lock_free ⟨b, 1, none⟩ _ (by go_simp) (by simp [hz])).mono ?_; rintro e w' ⟨rfl, rfl⟩)
    | (go_at_call 24; go_in))
  have hp' : (w.setCell ⟨b, 1, none⟩ (.int .i32 1)).heap[pl]? = some (.cells #[.pointer (some ⟨b, 0, none⟩)] 23 (0, 0)) := by rw [heap_set_far (Ne.symm hbl)]; exact hp
  refine (tables1 B b pl _ (henv.set hB 1 _) hbl h.lock hp').mono ?_
  rintro e w1 ⟨rfl, hT, hg⟩
  rw [World.size_setCell] at hT
  go_wp2
  refine leaves_cons (f := 32) (args := #[.pointer (some ⟨b, 0, none⟩), .bool true]) (by simp) (by simp [go_sem]) ?_
  refine (store_deferred ⟨b, 0, none⟩ (.int .u32 0) .returning _ hT.cell0 (hT.free 0)).mono ?_
  rintro e u' w'' ⟨rfl, rfl, rfl⟩
  refine leaves_cons (f := 31) (args := #[.pointer (some ⟨b, 1, none⟩)]) (by simp [settle]) (by simp [go_sem]) ?_
  refine (unlock_deferred ⟨b, 1, none⟩ _ _ (hT.drew.set0 1).cell1 ((hT.drew.set0 1).free 1)).mono ?_
  rintro e u' w'' ⟨rfl, rfl, rfl⟩
  simp [Leaves, settle, results, Tryd.results25]
  exact ⟨(hT.drew.set0 1).set1 0, grown_trans (grown_trans (grownBy_setCell' w b 1 _) hg) (grown_trans (grown_trans (drew_grown w1 _) (grownBy_setCell' w1.drew b 0 _)) (grownBy_setCell' _ b 1 _))⟩

set_option maxRecDepth 100000 in
set_option maxHeartbeats 1600000 in
theorem do_first (B b pl : Nat) (w : World) (henv : Env B w) (hB : B ≤ b) (hbl : b ≠ pl) (h : Fresh b w) (hp : w.heap[pl]? = some (.cells #[.pointer (some ⟨b, 0, none⟩)] 23 (0, 0))) :
    Calls Tryd.prog 20 #[.pointer (some ⟨b, 0, none⟩), .func (.func 21) #[] #[.pointer (some ⟨pl, 0, none⟩)]] w fun e w' => e = .returned (.tuple #[]) ∧ Tables b 1 0 w.heap.size w' ∧ w.grownBy w' (some b) := by
  have h0 : w.cell? ⟨b, 0, none⟩ = some (.int .u32 0) := by rw [cell_of_heap h]; rfl
  have hl := run_call_load (P := Tryd.prog) Tryd.func29 (by kernel_rfl) (by kernel_rfl) (by kernel_rfl) .u32 (by kernel_rfl) h0
  have hnot : ∀ (x : Bool) (w : World), (Op.unary .not (.bool x)).run Tryd.prog w = .ok (.bool (!x)) w := fun _ _ => rfl
  go_enter Tryd.func20, Tryd.ntmps20
  go_wp2_with (go_at_call 24; go_in)
  refine (slow_first B b pl w henv hB hbl h hp).mono ?_
  rintro e w1 ⟨rfl, hT, hg⟩
  go_wp2
  go_end0
  exact ⟨rfl, hT, hg⟩

/-- The object, asked or not yet. -/
def Has (b H : Nat) (w : World) : Prop := (Fresh b w ∧ H ≤ w.heap.size) ∨ Tables b 1 0 H w

theorem Tables.mono {b : Nat} {d l : Int} {H H' : Nat} {w : World} (h : Tables b d l H w) (hH : H' ≤ H) : Tables b d l H' w := by
  obtain ⟨ao, am, bm, v, n, base, h1, h2, h3, h4, h5, n1, n2, n3, n4, m1, m2, m3, m4⟩ := h
  exact ⟨ao, am, bm, v, n, base, h1, h2, h3, h4, h5, n1, n2, n3, n4, by omega, by omega, by omega, by omega⟩

theorem Tables.kept {b : Nat} {d l : Int} {H : Nat} {w w' : World} (h : Tables b d l H w) (hg : w.grownBy w' none) : Tables b d l H w' := by
  obtain ⟨ao, am, bm, v, n, base, h1, h2, h3, h4, h5, n1, n2, n3, n4⟩ := h
  have far : ∀ {k : Nat} {o : Obj}, w.heap[k]? = some o → w'.heap[k]? = some o := fun hk => (hg.block _ (Array.getElem?_eq_some_iff.1 hk).1 (by simp)).trans hk
  refine ⟨ao, am, bm, v, n, base, far h1, far h2, far h3, h4.kept hg ?_, h5.kept hg (by simp), n1, n2, n3, n4⟩
  cases v.ownBlock <;> simp
theorem Fresh.kept {b : Nat} {w w' : World} {r : Option Nat} (h : Fresh b w) (hg : w.grownBy w' r) (hr : some b ≠ r) : Fresh b w' := by
  rw [Fresh, hg.block b (Array.getElem?_eq_some_iff.1 h).1 hr]; exact h

set_option maxRecDepth 100000 in
set_option maxHeartbeats 1600000 in
theorem tables_fresh (B b H : Nat) (w : World) (henv : Env B w) (hB : B ≤ b) (h : Fresh b w) (hle : H ≤ w.heap.size) :
    Calls Tryd.prog 17 #[.pointer (some ⟨b, 0, none⟩)] w fun e w' => e = .returned (.tuple #[]) ∧ Tables b 1 0 H w' ∧ w.grownBy w' (some b) := by
  have hmf : ∀ (fn : Fn) (first cap : Array Value) (w : World), (Instr.makeFunc fn first cap).run Tryd.prog w = .ok (.func fn first cap) w := fun _ _ _ _ => rfl
  have hb : b < w.heap.size := (Array.getElem?_eq_some_iff.1 h).1
  have hga := World.grownBy_alloc w (.cells #[.pointer (some ⟨b, 0, none⟩)] 23) none
  have hp := heap_new w (.cells #[.pointer (some ⟨b, 0, none⟩)] 23) rfl
  have hf := h.kept hga (by simp)
  have he := henv.alloc (.cells #[.pointer (some ⟨b, 0, none⟩)] 23)
  have hH := hid hp
  clear hp
  go_enter Tryd.func17, Tryd.ntmps17
  go_wp2_with fail
  refine (do_first B b w.heap.size _ he hB (by omega) hf hH.out).mono ?_
  rintro e w1 ⟨rfl, hT, hg⟩
  go_wp2
  go_end0
  exact ⟨rfl, hT.mono (by simp; omega), grown_trans (World.grownBy_alloc w _ _) hg⟩

set_option maxRecDepth 100000 in
set_option maxHeartbeats 1600000 in
theorem tables_done (b H : Nat) (w : World) (h : Tables b 1 0 H w) :
    Calls Tryd.prog 17 #[.pointer (some ⟨b, 0, none⟩)] w fun e w' => e = .returned (.tuple #[]) ∧ Tables b 1 0 H w' ∧ w.grownBy w' (some b) := by
  have hmf : ∀ (fn : Fn) (first cap : Array Value) (w : World), (Instr.makeFunc fn first cap).run Tryd.prog w = .ok (.func fn first cap) w := fun _ _ _ _ => rfl
  have hc := kc_alloc h.cell0 (.cells #[.pointer (some ⟨b, 0, none⟩)] 23)
  go_enter Tryd.func17, Tryd.ntmps17
  go_wp2_with fail
  refine (do_done ⟨b, 0, none⟩ 1 (by decide) _ _ hc).mono ?_
  rintro e w1 ⟨rfl, rfl⟩
  go_wp2
  go_end0
  exact ⟨rfl, h.kept (World.grownBy_alloc w _ none), World.grownBy_alloc w _ _⟩

/-- '(*Names).tables': behind it the tables are there; nothing else that was there has turned. -/
theorem tables_any (B b H : Nat) (w : World) (henv : Env B w) (hB : B ≤ b) (h : Has b H w) :
    Calls Tryd.prog 17 #[.pointer (some ⟨b, 0, none⟩)] w fun e w' => e = .returned (.tuple #[]) ∧ Tables b 1 0 H w' ∧ w.grownBy w' (some b) := by
  rcases h with ⟨h, hle⟩ | h
  · exact tables_fresh B b H w henv hB h hle
  · exact tables_done b H w h
end Go.Proofs.YtdndckkfdlchpaaDoor
