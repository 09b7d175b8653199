/-
  The parts of sync.Once's and sync.Mutex's roads that Names.tables comes to (one goroutine): each a contract of its own.
-/
import Derived.Test.YtdndckkfdlchpaaDoorProg
import Derived.KernelRfl
import Derived.WalkKit
import Derived.Tactics
import Derived.Tactics2
import Derived.Defers
import Derived.Laws.Pointers
import Derived.Laws.LoneSync
import Derived.Laws.NewBlocks
import Derived.RegionTactic
import Derived.RegionCalls
import Derived.ChangeAlike
import Derived.WalkLawsBesides
import Derived.WalkSpells
namespace Go.Proofs.YtdndckkfdlchpaaDoor
open Go.Proofs

theorem disable (w : World) : (callFunc 40 #[]).run Tryd.prog w = .ok (.value (.tuple #[])) w := run_call_mark0 Tryd.func40 (by kernel_rfl) (by kernel_rfl) (by kernel_rfl) .disable (by kernel_rfl) w
theorem enable (w : World) : (callFunc 42 #[]).run Tryd.prog w = .ok (.value (.tuple #[])) w := run_call_mark0 Tryd.func42 (by kernel_rfl) (by kernel_rfl) (by kernel_rfl) .enable (by kernel_rfl) w
theorem acquire (a : Addr) (w : World) : (callFunc 43 #[.pointer (some a)]).run Tryd.prog w = .ok (.value (.tuple #[])) w := run_call_marked Tryd.func43 (by kernel_rfl) (by kernel_rfl) (by kernel_rfl) .acquire (by kernel_rfl) a w
theorem releaseMerge (a : Addr) (w : World) : (callFunc 45 #[.pointer (some a)]).run Tryd.prog w = .ok (.value (.tuple #[])) w := run_call_marked Tryd.func45 (by kernel_rfl) (by kernel_rfl) (by kernel_rfl) .releaseMerge (by kernel_rfl) a w

/-- '(*sync/atomic.Bool).Store(true)', ENTERED AS A DEFERRED CALL: the cell holds 1. -/
theorem store_deferred (a : Addr) (x : Value) (u : FrameMode) (w : World) (hc : w.cell? a = some x) (hz : w.frozen? a = false) :
    CallsD Tryd.prog 32 #[.pointer (some a), .bool true] u w fun e u' w' => u' = u ∧ (e = .returned (.tuple #[]) ∧ w' = w.drew.setCell a (.int .u32 1)) := by
  have hc' : w.drew.cell? a = some x := by go_simp
  have hz' : w.drew.frozen? a = false := by go_simp
  have hst := run_call_store (P := Tryd.prog) Tryd.func36 (by kernel_rfl) (by kernel_rfl) (by kernel_rfl) (by kernel_rfl) (k := .u32) (y := 1) hc' hz'
  go_enter_d Tryd.func32, Tryd.ntmps32
  go_wp2
  go_region_calls
  all_goals (go_end0; exact ⟨rfl, rfl⟩)

set_option maxRecDepth 100000 in
set_option maxHeartbeats 1600000 in
/-- '(*sync.Mutex).Unlock', ENTERED AS A DEFERRED CALL, the lock held and nobody waiting (state 1): state 0. -/
theorem unlock_deferred (a : Addr) (u : FrameMode) (w : World) (hc : w.cell? a = some (.int .i32 1)) (hz : w.frozen? a = false) :
    CallsD Tryd.prog 31 #[.pointer (some a)] u w fun e u' w' => u' = u ∧ (e = .returned (.tuple #[]) ∧ w' = w.setCell a (.int .i32 0)) := by
  have hd := disable
  have he := enable
  have hr := releaseMerge
  have hadd := run_call_add (P := Tryd.prog) Tryd.func46 (by kernel_rfl) (by kernel_rfl) (by kernel_rfl) .i32 (by kernel_rfl) (y := -1) (s := 0) hc hz (by simp [go_sem]; rfl)
  have hcv := run_convert_to_unsafe (P := Tryd.prog) (src := 91) (dst := 95) Tryd.underlying91 Tryd.underlying95 (by kernel_rfl) hc
  go_enter_d Tryd.func31, Tryd.ntmps31
  go_wp2
  go_end0
  go_wp2
  go_end0
  exact ⟨rfl, rfl⟩

set_option maxRecDepth 100000 in
set_option maxHeartbeats 1600000 in
/-- '(*sync.Mutex).Lock', the lock free (state 0): state 1. A CONTRACT, to be met at the call. -/
theorem lock_free (a : Addr) (w : World) (hc : w.cell? a = some (.int .i32 0)) (hz : w.frozen? a = false) :
    Calls Tryd.prog 30 #[.pointer (some a)] w fun e w' => e = .returned (.tuple #[]) ∧ w' = w.setCell a (.int .i32 1) := by
  have hd := disable
  have he := enable
  have ha := acquire
  have hcas := run_call_cas_hit (P := Tryd.prog) Tryd.func41 (by kernel_rfl) (by kernel_rfl) (by kernel_rfl) .i32 (by kernel_rfl) (y := 1) hc hz
  have hc' : (w.setCell a (.int .i32 1)).cell? a = some (.int .i32 1) := World.cell?_setCell_same w a _ hc
  have hcv := run_convert_to_unsafe (P := Tryd.prog) (src := 91) (dst := 95) Tryd.underlying91 Tryd.underlying95 (by kernel_rfl) hc'
  go_enter Tryd.func30, Tryd.ntmps30
  go_wp2
  first | go_end0 | (simp only [Exit.inBlock, Exit.then]; refine bodyPost_ret (results_none rfl _ _ _) rfl ?_) | refine bodyPost_ret (results_none rfl _ _ _) rfl ?_
  go_wp2
  go_end0
  exact ⟨rfl, rfl⟩

/-- '(*sync.Once).Do', done already: the function is not called. -/
theorem do_done (a : Addr) (d : Int) (hd : ¬ d = 0) (fv : Value) (w : World) (h0 : w.cell? a = some (.int .u32 d)) :
    Calls Tryd.prog 20 #[.pointer (some a), fv] w fun e w' => e = .returned (.tuple #[]) ∧ w' = w := by
  have hl := run_call_load (P := Tryd.prog) Tryd.func29 (by kernel_rfl) (by kernel_rfl) (by kernel_rfl) .u32 (by kernel_rfl) h0
  have hnot : ∀ (x : Bool) (w : World), (Op.unary .not (.bool x)).run Tryd.prog w = .ok (.bool (!x)) w := fun _ _ => rfl
  have hd' : (d != 0) = true := by simp [hd]
  go_enter Tryd.func20, Tryd.ntmps20
  go_wp2
  go_end0
  exact ⟨rfl, rfl⟩
end Go.Proofs.YtdndckkfdlchpaaDoor
