/-
  The statement JobsHands: its walk.
-/
import Derived.Test.YtajlilcodnkfdaaTwo
import Derived.StillTailTactics
import Derived.Deep.RegionHeld3
namespace Go.Proofs.Ytajlilcodnkfdaa
open Go.Proofs
open Go.RowKit Go.WideMaps

set_option linter.unusedSimpArgs false

/-- How far the two tables are within one deed. -/
def Half (pa pb n : Nat) (L L' : List T) (K : Nat → Obj → Prop) (w0 : World) (k : Nat) (w : World) : Prop :=
  (k = 0 ∧ Two pa pb n L L K w0 w) ∨ (k = 1 ∧ Two pa pb n L' L K w0 w) ∨ (k = 2 ∧ Two pa pb n L' L' K w0 w)
theorem Half.next {pa pb n : Nat} {L L' : List T} {K : Nat → Obj → Prop} {w0 : World} {k : Nat} {w : World} (h : Half pa pb n L L' K w0 k w) (hk : k < 2) :
    ∃ p q M, (k = 0 ∧ p = pa ∨ k = 1 ∧ p = pb) ∧ Two p q n L M K w0 w ∧ ∀ w', Two p q n L' M K w0 w' → Half pa pb n L L' K w0 (k + 1) w' := by
  rcases h with ⟨rfl, h⟩ | ⟨rfl, h⟩ | ⟨rfl, h⟩
  · exact ⟨pa, pb, L, .inl ⟨rfl, rfl⟩, h, fun w' h' => .inr (.inl ⟨rfl, h'⟩)⟩
  · exact ⟨pb, pa, L', .inr ⟨rfl, rfl⟩, h.swap, fun w' h' => .inr (.inr ⟨rfl, h'.swap⟩)⟩
  · omega

/-- A row of numbers that may be written over: in a block from lo on. -/
def Wr (lo : Nat) (ao : Option Addr) (n : Nat) (w : World) : Prop := ∀ j, j < n → ∃ g cur, ao = some ⟨g, 0, none⟩ ∧ lo ≤ g ∧ w.heap[g]? = some (.cells cur 3 (0, 0)) ∧ n ≤ cur.size
theorem wr_of {w : World} {base n : Nat} {v : Value} {xs : List Value} (h : w.ownsRow base 3 1 v n xs) : ∃ ao cap, v = .slice ao n cap ∧ Wr base ao n w := by
  rcases h.2 with ⟨rfl, rfl⟩ | ⟨g, cap, cur, hv, hb, hg, h1, h2, _, _⟩
  · exact ⟨none, 0, rfl, fun j hj => absurd hj (Nat.not_lt_zero _)⟩
  · exact ⟨_, cap, hv, fun j _ => ⟨g, cur, rfl, hb, hg, by omega⟩⟩
theorem Wr.set {lo : Nat} {ao : Option Addr} {n : Nat} {w : World} (h : Wr lo ao n w) (g i : Nat) (v : Value) : Wr lo ao n (w.setCell ⟨g, i, none⟩ v) := fun j hj => by
  obtain ⟨g', cur, h1, h2, h3, h4⟩ := h j hj
  by_cases he : g' = g
  · subst he
    exact ⟨g', _, h1, h2, heap_set h3 i v, by simpa using h4⟩
  · exact ⟨g', cur, h1, h2, (heap_set_far he i v).trans h3, h4⟩

/-- The same store inside a region that draws its order. -/
theorem upon_store_task {o : Oper} {a : Act} {K : Act → World → Prop} {Q : Exit → Act → World → Prop} (w : World) (H : Nat) (t : T) (hh : ∃ cs, w.heap[H]? = some (.cells cs 35 (0, 0)) ∧ cs.size = 11)
    (h : ∀ w', w'.heap[H]? = some (.cells t.cells 35 (0, 0)) → Fr (fun k => k = H) w w' → K (a.put o.dst undef) w') :
    Oper.upon Try.prog o a K Q ((Sem.run Try.prog (storeCells ⟨H, 0, none⟩ t.cells.toList) w).andThen fun _ w' => Result.ok Next.skip w') := by
  obtain ⟨cs, hh, hs⟩ := hh
  have hl : t.cells.toList.length = 11 := rfl
  have hl' : t.cells.size = 11 := rfl
  have hrun := run_storeCells_cells (P := Try.prog) H 0 t.cells.toList 0 w (fun j hj => by rw [cell_of_heap hh, Array.getElem?_eq_getElem (by omega)]; rfl) (fun j hj => free_of_heap hh _)
    (fun v hv => (Array.all_eq_true_iff_forall_mem.1 (cells_one t)) v (by simpa using hv))
  rw [hrun]
  refine h _ ?_ (Fr.cells (S := fun k => k = H) rfl _ _ _)
  obtain ⟨cur, k1, k2, _, k4⟩ := setCells_heap t.cells.toList 0 _ _ hh (by omega)
  have he : cur = t.cells := Array.ext_getElem? fun j => by
    by_cases hj : j < 11
    · have := k4 j (by omega)
      rw [Nat.zero_add] at this
      rw [this, Array.getElem?_toList]
    · rw [Array.getElem?_eq_none (by omega), Array.getElem?_eq_none (by omega)]
  rw [k1, he]

set_option maxRecDepth 100000 in
set_option maxHeartbeats 64000000 in
theorem hands_walk (ao : Option Addr) (len cap : Nat) (id0 : Int) (hm : len ≤ maxLen) (hwf0 : (Lit.int .i64 id0).wf = true) (w : World) (ha : DeedsIn ao len w) :
    Calls Try.prog 6 #[.slice ao len cap, .int .i64 id0] w fun e w' => e = .returned (.bool true) ∧ Fr (fun _ => False) w w' := by
  unfold maxLen at hm
  have HA := hid ha
  clear ha
  go_enter Try.func6, Try.ntmps6
  go_wp2_with fail
  refine (awake_any _).mono ?_
  rintro e' w1 ⟨rfl, hf1⟩
  have HF1 := hid hf1
  clear hf1
  by_cases hlen : 60 < len
  · go_wp2_with fail
    go_ret
    exact ⟨rfl, HF1.out⟩
  go_wp2_with fail
  refine (own_new 12 12 (by omega) (by omega) w w1 HF1.out).mono ?_
  rintro e' w2 ⟨a, he, ha, hna, hfa⟩
  obtain ⟨pa, hpa⟩ : ∃ pj, a.pj = pj := ⟨_, rfl⟩
  rw [hpa] at he
  subst he
  have HA1 := hid ha
  have HFA := hid hfa
  have HNA := hid hna
  clear ha hfa hna
  go_wp2_with fail
  refine (own_new 12 12 (by omega) (by omega) w w2 (HF1.out.trans HFA.out)).mono ?_
  rintro e' w3 ⟨b, he, hb, hnb, hfb⟩
  obtain ⟨pb, hpb⟩ : ∃ pj, b.pj = pj := ⟨_, rfl⟩
  rw [hpb] at he
  subst he
  have h3 : Two pa pb 12 [] [] (fun _ _ => False) w w3 := ⟨⟨a, b, hpa, hpb, HA1.out.quiet hfb, hb, fun k h1 h2 => by have := HA1.out.lt h1; have := hnb k h2; omega, fun _ _ h => h.elim⟩, fun _ _ h => h.elim⟩
  have H3 := hid h3
  clear hb hfb hnb hpa hpb h3 HA1 HNA HFA
  go_wp2_with fail
  go_loopw [7, 8] (fun s7 s8 wr => ∃ (i : Nat) (L : List T), i ≤ len ∧ s8 = .int .i64 i ∧ s7 = .int .i64 i ∧ Good i L ∧ Two pa pb 12 L L (fun _ _ => False) w wr) (fun _ s _ => len - (intOf s).toNat)
  case atStart => exact ⟨0, [], Nat.zero_le _, rfl, rfl, good_nil _, H3.out⟩
  case round =>
    obtain ⟨i, L, hi, rfl, rfl, hg, hT⟩ := hrel
    have HG := hid hg
    have HT := hid hT
    clear hg hT H3
    by_cases hlt : i < len
    · obtain ⟨g, o, x, id, e, p, sp, rfl, d0, d1, d2, d3, d4, hwf⟩ := HA.out i hlt
      have d0 := HT.out.fr.cell d0 _root_.id
      have d1 := HT.out.fr.cell d1 _root_.id
      have d2 := HT.out.fr.cell d2 _root_.id
      have d3 := HT.out.fr.cell d3 _root_.id
      have d4 := HT.out.fr.cell d4 _root_.id
      have hall : Fr (fun _ => False) wr ((wr.alloc (Obj.cells #[.int .i64 x, .int .i64 id, .int .i64 e, .int .i64 p, .bool sp] 49)).alloc (Obj.cells #[.pointer (some ⟨pa, 0, none⟩), .pointer (some ⟨pb, 0, none⟩)] 24)) := (Fr.alloc _ _ _).trans (Fr.alloc _ _ _)
      have hk1 := (HT.out.keep (Fr.alloc (fun _ => False) wr (Obj.cells #[.int .i64 x, .int .i64 id, .int .i64 e, .int .i64 p, .bool sp] 49)) (Nat.le_refl _) (heap_new wr _ rfl)).keep (Fr.alloc (fun _ => False) _ (Obj.cells #[.pointer (some ⟨pa, 0, none⟩), .pointer (some ⟨pb, 0, none⟩)] 24)) (Nat.le_refl _) (heap_new _ _ rfl)
      rw [show (wr.alloc (Obj.cells #[.int .i64 x, .int .i64 id, .int .i64 e, .int .i64 p, .bool sp] 49)).heap.size = wr.heap.size + 1 by simp] at hk1
      go_wp2_with fail
      generalize hB : wr.heap.size = B at *
      generalize hW : ((wr.alloc (Obj.cells #[.int .i64 x, .int .i64 id, .int .i64 e, .int .i64 p, .bool sp] 49)).alloc (Obj.cells #[.pointer (some ⟨pa, 0, none⟩), .pointer (some ⟨pb, 0, none⟩)] 24)) = wi at *
      have HK := hid hk1
      clear hk1 hB hW hall d0 d1 d2 d3 d4
      go_loopw [11] (fun s wz => ∃ k : Nat, k ≤ 2 ∧ s = .int .i64 k ∧ Half pa pb 12 L (mDo 12 L x id e p sp i) (fun j y => (False ∨ (j = B ∧ y = Obj.cells #[.int .i64 x, .int .i64 id, .int .i64 e, .int .i64 p, .bool sp] 49)) ∨ (j = B + 1 ∧ y = Obj.cells #[.pointer (some ⟨pa, 0, none⟩), .pointer (some ⟨pb, 0, none⟩)] 24)) w k wz) (fun s _ => 2 - (intOf s).toNat)
      case atStart => exact ⟨0, by omega, rfl, .inl ⟨rfl, HK.out⟩⟩
      case round =>
        obtain ⟨k, hk, rfl, hH⟩ := hrel
        have HH := hid hH
        clear hH HK HT
        by_cases hk2 : k < 2
        · obtain ⟨p', q', M, hpk, hT2, hnx⟩ := HH.out.next hk2
          have hKd := hT2.kept B _ (.inl (.inr ⟨rfl, rfl⟩))
          have hKx := hT2.kept (B + 1) _ (.inr ⟨rfl, rfl⟩)
          have c0 : wr.cell? ⟨B, 0, none⟩ = some (.int .i64 x) := by rw [cell_of_heap hKd]; rfl
          have c1 : wr.cell? ⟨B, 1, none⟩ = some (.int .i64 id) := by rw [cell_of_heap hKd]; rfl
          have c2 : wr.cell? ⟨B, 2, none⟩ = some (.int .i64 e) := by rw [cell_of_heap hKd]; rfl
          have c3 : wr.cell? ⟨B, 3, none⟩ = some (.int .i64 p) := by rw [cell_of_heap hKd]; rfl
          have c4 : wr.cell? ⟨B, 4, none⟩ = some (.bool sp) := by rw [cell_of_heap hKd]; rfl
          have cx : wr.cell? ⟨B + 1, k, none⟩ = some (.pointer (some ⟨p', 0, none⟩)) := by
            rw [cell_of_heap hKx]
            rcases hpk with ⟨rfl, rfl⟩ | ⟨rfl, rfl⟩ <;> rfl
          have x0 : (0 : Int) ≤ (k : Int) := by omega
          have x1 : (k : Int) < 2 := by omega
          have HT2 := hid hT2
          have HNX := hid hnx
          have HPK := hid hpk
          clear hT2 hnx hpk hKd hKx
          go_upto_block 4 with fail
          go_cut [] from 52 to 152 (fun wx => Two p' q' 12 (mDo 12 L x id e p sp i) M (fun j y => (False ∨ (j = B ∧ y = Obj.cells #[.int .i64 x, .int .i64 id, .int .i64 e, .int .i64 p, .bool sp] 49)) ∨ (j = B + 1 ∧ y = Obj.cells #[.pointer (some ⟨pa, 0, none⟩), .pointer (some ⟨pb, 0, none⟩)] 24)) w wx)
          case first =>
            rcases (by omega : x = 0 ∨ x = 1 ∨ x = 2 ∨ x = 3 ∨ x = 4 ∨ x = 5 ∨ x = 6 ∨ x = 7 ∨ x = 8 ∨ x < 0 ∨ 8 < x) with hx | hx | hx | hx | hx | hx | hx | hx | hx | hx | hx
            · subst hx
              have hdo : mDo 12 L 0 id e p sp i = (mJoin 12 L id e p sp).2 := rfl
              have HDO := hid hdo
              clear hdo
              go_wp2_with fail
              go_still_tail 12, (by kernel_rfl)
              go_wp2_with fail
              with_reducible refine (two_join (HT2.out.quiet (Fr.drew _ _)) id e p sp hwf).mono ?_
              rintro e' w5 hpost
              obtain ⟨v5, rfl, hT5⟩ : ∃ v, e' = .returned v ∧ Two p' q' 12 _ M _ w w5 := by first | (obtain ⟨he, ht⟩ := hpost; exact ⟨_, he, ht⟩) | (obtain ⟨v, he, _, ht⟩ := hpost; exact ⟨_, he, ht⟩)
              have HT5 := hid hT5
              clear hT5 hpost
              go_wp2_with fail
              go_meet
              case rel => rw [HDO.out]; exact HT5.out
            · subst hx
              have hdo : mDo 12 L 1 id e p sp i = (mJoin 12 L id e p sp).2 := rfl
              have HDO := hid hdo
              clear hdo
              go_wp2_with fail
              go_still_tail 12, (by kernel_rfl)
              go_wp2_with fail
              with_reducible refine (two_join (HT2.out.quiet (Fr.drew _ _)) id e p sp hwf).mono ?_
              rintro e' w5 hpost
              obtain ⟨v5, rfl, hT5⟩ : ∃ v, e' = .returned v ∧ Two p' q' 12 _ M _ w w5 := by first | (obtain ⟨he, ht⟩ := hpost; exact ⟨_, he, ht⟩) | (obtain ⟨v, he, _, ht⟩ := hpost; exact ⟨_, he, ht⟩)
              have HT5 := hid hT5
              clear hT5 hpost
              go_wp2_with fail
              go_meet
              case rel => rw [HDO.out]; exact HT5.out
            · subst hx
              have hdo : mDo 12 L 2 id e p sp i = (mLeave L id).2 := rfl
              have HDO := hid hdo
              clear hdo
              go_wp2_with fail
              go_still_tail 6, (by kernel_rfl)
              go_wp2_with fail
              with_reducible refine (two_leave (HT2.out.quiet (Fr.drew _ _)) id hwf).mono ?_
              rintro e' w5 hpost
              obtain ⟨v5, rfl, hT5⟩ : ∃ v, e' = .returned v ∧ Two p' q' 12 _ M _ w w5 := by first | (obtain ⟨he, ht⟩ := hpost; exact ⟨_, he, ht⟩) | (obtain ⟨v, he, _, ht⟩ := hpost; exact ⟨_, he, ht⟩)
              have HT5 := hid hT5
              clear hT5 hpost
              go_wp2_with fail
              go_meet
              case rel => rw [HDO.out]; exact HT5.out
            · subst hx
              have hdo : mDo 12 L 3 id e p sp i = (mArrive L id).2 := rfl
              have HDO := hid hdo
              clear hdo
              go_wp2_with fail
              go_still_tail 6, (by kernel_rfl)
              go_wp2_with fail
              with_reducible refine (two_arrive (HT2.out.quiet (Fr.drew _ _)) id hwf).mono ?_
              rintro e' w5 hpost
              obtain ⟨v5, rfl, hT5⟩ : ∃ v, e' = .returned v ∧ Two p' q' 12 _ M _ w w5 := by first | (obtain ⟨he, ht⟩ := hpost; exact ⟨_, he, ht⟩) | (obtain ⟨v, he, _, ht⟩ := hpost; exact ⟨_, he, ht⟩)
              have HT5 := hid hT5
              clear hT5 hpost
              go_wp2_with fail
              go_meet
              case rel => rw [HDO.out]; exact HT5.out
            · subst hx
              have hdo : mDo 12 L 4 id e p sp i = (mFinish L id).2 := rfl
              have HDO := hid hdo
              clear hdo
              go_wp2_with fail
              go_still_tail 6, (by kernel_rfl)
              go_wp2_with fail
              with_reducible refine (two_finish (HT2.out.quiet (Fr.drew _ _)) id hwf).mono ?_
              rintro e' w5 hpost
              obtain ⟨v5, rfl, hT5⟩ : ∃ v, e' = .returned v ∧ Two p' q' 12 _ M _ w w5 := by first | (obtain ⟨he, ht⟩ := hpost; exact ⟨_, he, ht⟩) | (obtain ⟨v, he, _, ht⟩ := hpost; exact ⟨_, he, ht⟩)
              have HT5 := hid hT5
              clear hT5 hpost
              go_wp2_with fail
              go_meet
              case rel => rw [HDO.out]; exact HT5.out
            · subst hx
              have hdo : mDo 12 L 5 id e p sp i = (mRelease L i).2 := rfl
              have HDO := hid hdo
              clear hdo
              go_wp2_with fail
              skip
              with_reducible refine (two_release HT2.out HG.out (by omega) i).mono ?_
              rintro e' w5 hpost
              obtain ⟨v5, rfl, hT5⟩ : ∃ v, e' = .returned v ∧ Two p' q' 12 _ M _ w w5 := by first | (obtain ⟨he, ht⟩ := hpost; exact ⟨_, he, ht⟩) | (obtain ⟨v, he, _, ht⟩ := hpost; exact ⟨_, he, ht⟩)
              have HT5 := hid hT5
              clear hT5 hpost
              go_wp2_with fail
              go_meet
              case rel => rw [HDO.out]; exact HT5.out
            · subst hx
              have hdo : mDo 12 L 6 id e p sp i = (mRelease L i).2 := rfl
              have HDO := hid hdo
              clear hdo
              go_wp2_with fail
              skip
              with_reducible refine (two_release HT2.out HG.out (by omega) i).mono ?_
              rintro e' w5 hpost
              obtain ⟨v5, rfl, hT5⟩ : ∃ v, e' = .returned v ∧ Two p' q' 12 _ M _ w w5 := by first | (obtain ⟨he, ht⟩ := hpost; exact ⟨_, he, ht⟩) | (obtain ⟨v, he, _, ht⟩ := hpost; exact ⟨_, he, ht⟩)
              have HT5 := hid hT5
              clear hT5 hpost
              go_wp2_with fail
              go_meet
              case rel => rw [HDO.out]; exact HT5.out
            · subst hx
              have hdo : mDo 12 L 7 id e p sp i = (mSettle L i).2 := rfl
              have HDO := hid hdo
              clear hdo
              go_wp2_with fail
              skip
              with_reducible refine (two_settle HT2.out HG.out i (by omega)).mono ?_
              rintro e' w5 hpost
              obtain ⟨v5, rfl, hT5⟩ : ∃ v, e' = .returned v ∧ Two p' q' 12 _ M _ w w5 := by first | (obtain ⟨he, ht⟩ := hpost; exact ⟨_, he, ht⟩) | (obtain ⟨v, he, _, ht⟩ := hpost; exact ⟨_, he, ht⟩)
              have HT5 := hid hT5
              clear hT5 hpost
              go_wp2_with fail
              go_meet
              case rel => rw [HDO.out]; exact HT5.out
            · subst hx
              have hdo : mDo 12 L 8 id e p sp i = (mSettle L i).2 := rfl
              have HDO := hid hdo
              clear hdo
              go_wp2_with fail
              skip
              with_reducible refine (two_settle HT2.out HG.out i (by omega)).mono ?_
              rintro e' w5 hpost
              obtain ⟨v5, rfl, hT5⟩ : ∃ v, e' = .returned v ∧ Two p' q' 12 _ M _ w w5 := by first | (obtain ⟨he, ht⟩ := hpost; exact ⟨_, he, ht⟩) | (obtain ⟨v, he, _, ht⟩ := hpost; exact ⟨_, he, ht⟩)
              have HT5 := hid hT5
              clear hT5 hpost
              go_wp2_with fail
              go_meet
              case rel => rw [HDO.out]; exact HT5.out
            · skip
              have hdo : mDo 12 L x id e p sp i = (mGive L id).2 := by unfold mDo; rw [if_neg (by omega), if_neg (by omega), if_neg (by omega), if_neg (by omega), if_neg (by omega), if_neg (by omega)]
              have HDO := hid hdo
              clear hdo
              go_wp2_with fail
              go_still_tail 6, (by kernel_rfl)
              go_wp2_with fail
              with_reducible refine (two_give (HT2.out.quiet (Fr.drew _ _)) HG.out id hwf).mono ?_
              rintro e' w5 hpost
              obtain ⟨v5, rfl, hT5⟩ : ∃ v, e' = .returned v ∧ Two p' q' 12 _ M _ w w5 := by first | (obtain ⟨he, ht⟩ := hpost; exact ⟨_, he, ht⟩) | (obtain ⟨v, he, _, ht⟩ := hpost; exact ⟨_, he, ht⟩)
              have HT5 := hid hT5
              clear hT5 hpost
              go_wp2_with fail
              go_meet
              case rel => rw [HDO.out]; exact HT5.out
            · skip
              have hdo : mDo 12 L x id e p sp i = (mGive L id).2 := by unfold mDo; rw [if_neg (by omega), if_neg (by omega), if_neg (by omega), if_neg (by omega), if_neg (by omega), if_neg (by omega)]
              have HDO := hid hdo
              clear hdo
              go_wp2_with fail
              go_still_tail 6, (by kernel_rfl)
              go_wp2_with fail
              with_reducible refine (two_give (HT2.out.quiet (Fr.drew _ _)) HG.out id hwf).mono ?_
              rintro e' w5 hpost
              obtain ⟨v5, rfl, hT5⟩ : ∃ v, e' = .returned v ∧ Two p' q' 12 _ M _ w w5 := by first | (obtain ⟨he, ht⟩ := hpost; exact ⟨_, he, ht⟩) | (obtain ⟨v, he, _, ht⟩ := hpost; exact ⟨_, he, ht⟩)
              have HT5 := hid hT5
              clear hT5 hpost
              go_wp2_with fail
              go_meet
              case rel => rw [HDO.out]; exact HT5.out
          case rest =>
            have HC := hid hcut
            have hKd := hcut.kept B _ (.inl (.inr ⟨rfl, rfl⟩))
            have hKx := hcut.kept (B + 1) _ (.inr ⟨rfl, rfl⟩)
            clear c0 c1 c2 c3 c4 cx hcut
            have c1 : wc.cell? ⟨B, 1, none⟩ = some (.int .i64 id) := by rw [cell_of_heap hKd]; rfl
            have cx : wc.cell? ⟨B + 1, k, none⟩ = some (.pointer (some ⟨p', 0, none⟩)) := by
              rw [cell_of_heap hKx]
              rcases HPK.out with ⟨rfl, rfl⟩ | ⟨rfl, rfl⟩ <;> rfl
            clear hKd hKx
            go_upto_region 34 with fail
            have hb : B + 1 < wc.heap.size := World.block_lt_of_cell? _ _ cx
            have keepS : ∀ w', Fr (fun _ => False) wc w' → w'.cell? ⟨B, 1, none⟩ = some (.int .i64 id) ∧ w'.cell? ⟨B + 1, k, none⟩ = some (.pointer (some ⟨p', 0, none⟩)) ∧ Fr (fun _ => False) wc w' := fun w' hf => ⟨hf.cell c1 _root_.id, hf.cell cx _root_.id, hf⟩
            have HKS := hid keepS
            clear keepS
            generalize ht : (find (mDo 12 L x id e p sp i) id).getD noTask = t at *
            go_region_held3 (fun w' => w'.cell? ⟨B, 1, none⟩ = some (.int .i64 id) ∧ w'.cell? ⟨B + 1, k, none⟩ = some (.pointer (some ⟨p', 0, none⟩)) ∧ Fr (fun _ => False) wc w')
              (first
                | exact HKS.out _ (Fr.drew _ _)
                | exact HKS.out _ (by assumption)
                | exact HKS.out _ (Fr.trans (‹_ ∧ _ ∧ Fr (fun _ => False) wc _›).2.2 (Fr.alloc _ _ _)))
              (first
                | (go_at_call 13
                   have hq := (‹_ ∧ _ ∧ Fr (fun _ => False) wc _›).2.2
                   refine (two_task (HC.out.quiet hq) id hwf).mono ?_
                   rintro e' w5 ⟨rfl, hf5⟩
                   have hk5 := hq.trans hf5
                   rw [ht])
                | (refine upon_store_task _ _ t ⟨_, heap_new w5 _ rfl, rfl⟩ ?_
                   intro w6 h6 hf6
                   have hH := hk5.size
                   have hk6 : Fr (fun _ => False) wc w6 := (hk5.trans (Fr.alloc _ _ _)).then hf6 (fun j hj => .inr (by subst hj; exact hk5.size)))
                | (refine upon_store_task _ _ t ⟨_, hf5.heap (heap_new wc.drew _ rfl) _root_.id, rfl⟩ ?_
                   intro w6 h6 hf6
                   have hH := Nat.le_refl wc.heap.size
                   have hk6 : Fr (fun _ => False) wc w6 := hk5.then hf6 (fun j hj => .inr (by subst hj; exact Nat.le_refl _))))
            all_goals
              have u8 : _ = some (Value.int .i64 t.Gt) := (cell_of_heap h6 8).trans rfl
              have u1 : _ = some (Value.int .i64 t.E) := (cell_of_heap h6 1).trans rfl
              have u4 : _ = some (Value.bool t.Lv) := (cell_of_heap h6 4).trans rfl
              have z8 := free_of_heap h6 8
              have z1 := free_of_heap h6 1
              have z4 := free_of_heap h6 4
              have HH6 := hid hH
              have HK6 := hid hk6
              clear h6 hH hk6 hk5
              go_upto_region 36 with fail
              refine wp_fr wc (HK6.out.then (((Fr.set (S := fun k => wc.heap.size ≤ k) _ HH6.out _ _).trans (Fr.set _ HH6.out _ _)).trans (Fr.set _ HH6.out _ _)) (fun j hj => .inr hj)) ?_
              intro wq hq
              have cq := hq.cell cx _root_.id
              have HQ := hid hq
              clear u8 u1 u4 z8 z1 z4 hq cx c1
              go_wp2_with fail
              with_reducible refine (two_ids (HC.out.quiet HQ.out)).mono ?_
              rintro e' w7 ⟨v7, rfl, hrow, hf7⟩
              obtain ⟨ao7, cap7, rfl, hwr⟩ := wr_of hrow
              have hsz := HQ.out.size
              have hlow := HC.out.low.1
              have HW7 := hid hwr
              have HF7 := hid (HQ.out.trans hf7)
              generalize (mDo 12 L x id e p sp i).length = n7 at *
              clear hwr hf7 hrow cq
              go_wp2_with fail
              go_loopw [15] (fun s wz => ∃ j : Nat, j ≤ n7 ∧ s = .int .i64 j ∧ Wr wq.heap.size ao7 n7 wz ∧ Fr (fun _ => False) wc wz) (fun s _ => n7 - (intOf s).toNat)
              case atStart => exact ⟨0, Nat.zero_le _, rfl, HW7.out, HF7.out⟩
              case round =>
                obtain ⟨j, hj, rfl, hwr, hfr⟩ := hrel
                have HWR := hid hwr
                have HFR := hid hfr
                clear hwr hfr HW7 HF7
                by_cases hjn : j < n7
                · obtain ⟨g7, cur, rfl, hlo, hcur, hn7⟩ := HWR.out j hjn
                  have uc : _ = some cur[j] := (cell_of_heap hcur j).trans (Array.getElem?_eq_getElem (by omega))
                  have uf := free_of_heap hcur j
                  have j0 : (0 : Int) ≤ (j : Int) := by omega
                  have j1 : (j : Int) < (n7 : Int) := by omega
                  clear hcur
                  go_wp2_with fail
                  go_roundw
                  case rel => exact ⟨j + 1, by omega, by go_num, HWR.out.set _ _ _, HFR.out.then (Fr.set (S := fun k => wq.heap.size ≤ k) _ hlo _ _) (fun _ h => .inr (by omega))⟩
                  case measure => simp [intOf]; omega
                · go_wp2_with fail
                  go_roundw
                  case rel => exact ⟨k + 1, by omega, by go_num, HNX.out _ (HC.out.quiet HFR.out)⟩
                  case measure => simp [intOf]; omega
        · obtain rfl : k = 2 := by omega
          have hend : Two pa pb 12 (mDo 12 L x id e p sp i) (mDo 12 L x id e p sp i) (fun _ _ => False) w wr := by
            rcases HH.out with ⟨h, _⟩ | ⟨h, _⟩ | ⟨_, h⟩
            · omega
            · omega
            · exact h.less (fun _ _ h => h.elim)
          have HEND := hid hend
          have hgood := HG.out.deed (by omega) 12 x id e p sp (clock := i) (by omega) (by omega)
          have HGOOD := hid hgood
          clear HH hend hgood
          go_wp2_with fail
          go_roundw
          case rel => exact ⟨i + 1, _, by omega, by go_num, by go_num, HGOOD.out, HEND.out⟩
          case measure => simp [intOf]; omega
    · go_wp2_with fail
      with_reducible refine (two_ids HT.out).mono ?_
      rintro e' w4 ⟨v4, rfl, hrow, hf4⟩
      have hlow := HT.out.low.1
      have hr4 : Row wr.heap.size v4 (L.map (·.ID)) w4 := Row.of_own (by rw [List.map_map]; exact hrow) (by omega)
      have HR4 := hid hr4
      have HT4 := hid (HT.out.quiet hf4)
      clear hrow hf4 hr4
      go_wp2_with fail
      with_reducible refine (two_ids HT4.out.swap).mono ?_
      rintro e' w5 ⟨v5, rfl, hrow, hf5⟩
      have hr5 : Row w4.heap.size v5 (L.map (·.ID)) w5 := Row.of_own (by rw [List.map_map]; exact hrow) (by omega)
      have HR5 := hid hr5
      have HR45 := hid (HR4.out.quiet hf5)
      have HT5 := hid (HT4.out.quiet hf5)
      clear hrow hf5 hr5 HR4 HT4 HT
      go_wp2_with fail
      refine (ints_any HR45.out HR5.out).mono ?_
      rintro e' w6 ⟨he, hf6⟩
      rw [show eqL (L.map (·.ID)) (L.map (·.ID)) = true from by simp [eqL]] at he
      subst he
      have HR6 := hid (HR45.out.quiet hf6)
      have HT6 := hid (HT5.out.quiet hf6)
      clear hf6 HR45 HR5 HT5
      obtain ⟨ao, cap, hi6, rfl, hrow, hle⟩ := HR6.out
      have hN : (L.map (·.ID)).length = L.length := by simp
      rw [hN] at hrow ⊢
      generalize hNN : L.length = N at *
      have HROW := hid hrow
      clear hrow hN HR6
      go_wp2_with fail
      go_loopw [17] (fun s wz => ∃ j : Nat, j ≤ N ∧ s = .int .i64 j ∧ Fr (fun _ => False) w6 wz) (fun s _ => N - (intOf s).toNat)
      case atStart => exact ⟨0, Nat.zero_le _, rfl, Fr.refl _ _⟩
      case round =>
        obtain ⟨j, hj, rfl, hfr⟩ := hrel
        have HF := hid hfr
        have HTZ := hid (HT6.out.quiet hfr)
        have HRZ := hid (HROW.out.kept hfr (fun _ _ _ => _root_.id))
        clear hfr
        by_cases hjn : j < N
        · have hjL : j < L.length := by omega
          obtain ⟨g7, rfl, _, _, hc⟩ := HRZ.out.cell j hjn
          replace hc : _ = some (Value.int .i64 (L[j]'hjL).ID) := hc.trans (by simp [List.getD, hjL])
          have hmem : (L[j]'hjL) ∈ L := List.getElem_mem hjL
          have hwft := HTZ.out.low.2.2 _ hmem
          have hfind : find L (L[j]'hjL).ID = some (L[j]'hjL) := by
            have hr := HTZ.out.low.2.1
            have e : L = L.take j ++ (L[j]'hjL) :: L.drop (j + 1) := by rw [← List.drop_eq_getElem_cons hjL, List.take_append_drop]
            have := find_mid (A := L.take j) (B := L.drop (j + 1)) (t := (L[j]'hjL)) (by rw [← e]; exact hr)
            rw [← e] at this
            exact this
          obtain ⟨t, ht⟩ : ∃ t, (L[j]'hjL) = t := ⟨_, rfl⟩
          rw [ht] at hc hmem hwft hfind
          clear ht
          have HFI := hid hfind
          have HWF := hid hwft
          have i0 : (0 : Int) ≤ (j : Int) := by omega
          have i1 : (j : Int) < (N : Int) := by omega
          clear hfind hwft hmem
          go_wp2_with fail
          have hct := two_task HTZ.out t.ID HWF.out
          rw [HFI.out] at hct
          simp only [Option.getD_some, Option.isSome_some] at hct
          with_reducible refine hct.mono ?_
          clear hct
          rintro e' w7 ⟨rfl, hf7⟩
          have HT7 := hid (HTZ.out.quiet hf7)
          have hc7 := hf7.cell hc _root_.id
          have HF7 := hid (HF.out.trans hf7)
          clear hf7 hc
          go_wp2_with (with_reducible (show wpList _ _ _ (⟨_, Op.store 35 (.tmp 18) _, _, _, _, _⟩ :: _) _ _); refine wpList_store_new rfl (.tmp 18) (.tmp 175) rfl w7 t _ rfl rfl rfl ?_)
          intro w8 h8 hf8
          have HT8 := hid (HT7.out.quiet hf8)
          have hc8 := hf8.cell hc7 _root_.id
          have HF8 := hid (HF7.out.trans hf8)
          have H8 := hid h8
          generalize w7.heap.size = b1 at *
          clear hf8 hc7 h8
          go_wp2_with fail
          have hct := two_task HT8.out.swap t.ID HWF.out
          rw [HFI.out] at hct
          simp only [Option.getD_some, Option.isSome_some] at hct
          with_reducible refine hct.mono ?_
          clear hct
          rintro e' w9 ⟨rfl, hf9⟩
          have hc9 := hf9.cell hc8 _root_.id
          have HF9 := hid (HF8.out.trans hf9)
          have H9 := hid (hf9.heap H8.out _root_.id)
          clear hf9 hc8 H8
          go_wp2_with (with_reducible (show wpList _ _ _ (⟨_, Op.store 35 (.tmp 20) _, _, _, _, _⟩ :: _) _ _); refine wpList_store_new rfl (.tmp 20) (.tmp 184) rfl w9 t _ rfl rfl rfl ?_)
          intro w10 h11 hf10
          have hc10 := hf10.cell hc9 _root_.id
          have HF10 := hid (HF9.out.trans hf10)
          have h9 := hf10.heap H9.out _root_.id
          generalize w9.heap.size = b2 at *
          clear hf10 hc9 H9
          have p0 : _ = some (Value.int .i64 t.ID) := (cell_of_heap h9 0).trans rfl
          have p1 : _ = some (Value.int .i64 t.E) := (cell_of_heap h9 1).trans rfl
          have p2 : _ = some (Value.int .i64 t.P) := (cell_of_heap h9 2).trans rfl
          have p3 : _ = some (Value.bool t.Sp) := (cell_of_heap h9 3).trans rfl
          have p4 : _ = some (Value.bool t.Lv) := (cell_of_heap h9 4).trans rfl
          have p5 : _ = some (Value.bool t.Wt) := (cell_of_heap h9 5).trans rfl
          have p6 : _ = some (Value.bool t.Ac) := (cell_of_heap h9 6).trans rfl
          have p7 : _ = some (Value.int .i64 t.Rl) := (cell_of_heap h9 7).trans rfl
          have p8 : _ = some (Value.int .i64 t.Gt) := (cell_of_heap h9 8).trans rfl
          have p9 : _ = some (Value.bool t.Dn) := (cell_of_heap h9 9).trans rfl
          have p10 : _ = some (Value.int .i64 t.Ct) := (cell_of_heap h9 10).trans rfl
          have q0 : _ = some (Value.int .i64 t.ID) := (cell_of_heap h11 0).trans rfl
          have q1 : _ = some (Value.int .i64 t.E) := (cell_of_heap h11 1).trans rfl
          have q2 : _ = some (Value.int .i64 t.P) := (cell_of_heap h11 2).trans rfl
          have q3 : _ = some (Value.bool t.Sp) := (cell_of_heap h11 3).trans rfl
          have q4 : _ = some (Value.bool t.Lv) := (cell_of_heap h11 4).trans rfl
          have q5 : _ = some (Value.bool t.Wt) := (cell_of_heap h11 5).trans rfl
          have q6 : _ = some (Value.bool t.Ac) := (cell_of_heap h11 6).trans rfl
          have q7 : _ = some (Value.int .i64 t.Rl) := (cell_of_heap h11 7).trans rfl
          have q8 : _ = some (Value.int .i64 t.Gt) := (cell_of_heap h11 8).trans rfl
          have q9 : _ = some (Value.bool t.Dn) := (cell_of_heap h11 9).trans rfl
          have q10 : _ = some (Value.int .i64 t.Ct) := (cell_of_heap h11 10).trans rfl
          clear h9 h11
          go_wp2_with fail
          go_upto_region 50 with fail
          go_quiet (fail)
          clear p0 p1 p2 p3 p4 p5 p6 p7 p8 p9 p10 q0 q1 q2 q3 q4 q5 q6 q7 q8 q9 q10
          go_wp2_with fail
          go_roundw
          case rel => exact ⟨j + 1, by omega, by go_num, HF10.out.trans (Fr.drewN _ _ _)⟩
          case measure => simp [intOf]; omega
        · go_wp2_with fail
          with_reducible refine (two_task HTZ.out id0 hwf0).mono ?_
          rintro e' w7 ⟨rfl, hf7⟩
          have HT7 := hid (HTZ.out.quiet hf7)
          clear hf7
          generalize (find L id0).getD noTask = t at *
          go_wp2_with (with_reducible (show wpList _ _ _ (⟨_, Op.store 35 (.tmp 22) _, _, _, _, _⟩ :: _) _ _); refine wpList_store_new rfl (.tmp 22) (.tmp 210) rfl w7 t _ rfl rfl rfl ?_)
          intro w8 h8 hf8
          have HT8 := hid (HT7.out.quiet hf8)
          clear hf8 h8
          go_wp2_with fail
          with_reducible refine (two_task HT8.out.swap id0 hwf0).mono ?_
          rintro e' w9 ⟨rfl, hf9⟩
          have HT9 := hid (HT8.out.quiet hf9)
          clear hf9
          generalize (find L id0).getD noTask = t' at *
          go_wp2_with (with_reducible (show wpList _ _ _ (⟨_, Op.store 35 (.tmp 24) _, _, _, _, _⟩ :: _) _ _); refine wpList_store_new rfl (.tmp 24) (.tmp 216) rfl w9 t' _ rfl rfl rfl ?_)
          intro w10 h10 hf10
          have HF := hid (HT9.out.quiet hf10).fr
          clear hf10 h10
          generalize (find L id0).isSome = found at *
          go_wp2_with fail
          go_ret
          refine ⟨?_, HF.out⟩
          first | rfl | (cases found <;> rfl)
end Go.Proofs.Ytajlilcodnkfdaa
