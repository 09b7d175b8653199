/-
  The example ahead of each statement ('awake').
-/
import Derived.Test.YtdndckkfdlchpaaDoorAsk
namespace Go.Proofs.YtdndckkfdlchpaaDoor
open Go.Proofs
open Go.RowKit Go.WideMaps

theorem Env.grown {B : Nat} {w w' : World} (h : Env B w) {r : Option Nat} (hg : w.grownBy w' r) (hr : ∀ k, r = some k → B ≤ k) : Env B w' := by
  obtain ⟨g, hgl, hlt⟩ := h.lies
  exact ⟨var?_below ((Below.refl B w).grown hg h.size hr) hgl hlt h.tab, Nat.le_trans h.size hg.size, g, hgl, hlt⟩

theorem fresh_new (w : World) : Fresh w.heap.size (w.alloc (.cells #[.int .u32 0, .int .i32 0, .int .u32 0, .int .i64 0, .slice none 0 0, .slice none 0 0, .slice none 0 0, .map none] 54)) := heap_new w _ rfl

theorem grown_new {w w' : World} (h : w.grownBy w' (some w.heap.size)) : w.grownBy w' none :=
  ⟨h.os, h.tape, h.output, h.size, fun k hk _ => h.block k hk (by simp; omega)⟩

set_option maxRecDepth 100000 in
set_option maxHeartbeats 1600000 in
theorem awake_any (B : Nat) (w : World) (henv : Env B w) : Calls Tryd.prog 7 #[] w fun e w' => e = .returned (.bool true) ∧ w.grownBy w' none := by
  go_enter Tryd.func7, Tryd.ntmps7
  go_wp2_with fail
  refine (new_any w).mono ?_
  rintro e w1 ⟨rfl, rfl⟩
  have hF := fresh_new w
  have he := henv.alloc (.cells #[.int .u32 0, .int .i32 0, .int .u32 0, .int .i64 0, .slice none 0 0, .slice none 0 0, .slice none 0 0, .map none] 54)
  have hg := World.grownBy_alloc w (.cells #[.int .u32 0, .int .i32 0, .int .u32 0, .int .i64 0, .slice none 0 0, .slice none 0 0, .slice none 0 0, .map none] 54) (some w.heap.size)
  generalize w.alloc (.cells #[.int .u32 0, .int .i32 0, .int .u32 0, .int .i64 0, .slice none 0 0, .slice none 0 0, .slice none 0 0, .map none] 54) = w1 at hF he hg ⊢
  have hB := henv.size
  have hgg := hid hg
  clear hg
  go_wp2_with fail
  refine (made_fresh w.heap.size w1 hF).mono ?_
  rintro e w2 ⟨rfl, rfl⟩
  go_wp2_with fail
  refine (op_any B w.heap.size 8 (by decide) (by decide) w1 he hB (.inl ⟨hF, Nat.zero_le _⟩)).mono ?_
  rintro e w2 ⟨rfl, hT, hg2⟩
  have he2 := he.grown hg2 (by rintro k ⟨⟩; exact hB)
  have hgg2 := hid (grown_trans hgg.out hg2)
  clear hg2 hgg hF he
  rw [show wordAt opWords 8 = ⟨#[116, 105, 99, 107]⟩ from by decide]
  go_wp2_with fail
  refine (made_done w.heap.size w2 hT).mono ?_
  rintro e w3 ⟨rfl, rfl⟩
  go_wp2_with fail
  refine (mode_any B w.heap.size 4 (by decide) (by decide) w2 he2 hB (.inr hT)).mono ?_
  rintro e w3 ⟨rfl, hT3, hg3⟩
  have he3 := he2.grown hg3 (by rintro k ⟨⟩; exact hB)
  have hgg3 := hid (grown_trans hgg2.out hg3)
  clear hg3 hgg2 hT he2
  rw [show wordAt modeWords 4 = ⟨#[116, 119, 105, 110]⟩ from by decide]
  go_wp2_with fail
  refine (err_any B w.heap.size 8 (by decide) (by decide) w3 he3 hB (.inr hT3)).mono ?_
  rintro e w4 ⟨rfl, hT4, hg4⟩
  have hgg4 := hid (grown_trans hgg3.out hg4)
  clear hg4 hgg3 hT3 he3
  rw [show errWord 8 = ⟨#[119, 101, 105, 103, 104, 116]⟩ from by decide]
  go_wp2_with fail
  go_ret
  exact ⟨rfl, grown_new hgg4.out⟩
end Go.Proofs.YtdndckkfdlchpaaDoor
