/-
  The statement JobsPlay: its walk.
-/
import Derived.Test.YtajlilcodnkfdaaSame
import Derived.StillTailTactics
import Derived.Deep.RegionHeld3
namespace Go.Proofs.Ytajlilcodnkfdaa
open Go.Proofs
open Go.RowKit Go.WideMaps

set_option linter.unusedSimpArgs false

theorem pair_one {pj n bm : Nat} {L A B : List T} {t : T} {K : Nat → Obj → Prop} {w0 w : World} (h : Pair pj n L bm (A ++ t :: B) K w0 w) :
    ∃ g cap, w.cell? ⟨bm, 1, none⟩ = some (.slice (some ⟨g, 0, none⟩) (A ++ t :: B).length cap) ∧ (∀ k, w.frozen? ⟨g, k, none⟩ = false) ∧ (∀ j u, t.cells[j]? = some u → w.cell? ⟨g, A.length * 11 + j, none⟩ = some u) ∧
      ∀ j u t', j < 11 → t'.cells = t.cells.setIfInBounds j u → Pair pj n L bm (A ++ t' :: B) K w0 (w.setCell ⟨g, A.length * 11 + j, none⟩ u) := by
  obtain ⟨b, v, rfl, h2, h3, h4, h5⟩ := h.at'
  obtain ⟨g, cap, hv, hob, hz, hc⟩ := h3.one
  exact ⟨g, cap, by rw [cell_of_heap h3.box, hv]; rfl, hz, hc, fun j u t' hj hu => pair_ref h2 h3 h4 h5 h.kept (h3.put hob hj hu) ⟨Fr.set (S := RefAt.has bm v) _ (.inr hob) _ _, fun _ h => .inl h⟩⟩
theorem pair_at {pj n bm : Nat} {L M : List T} {K : Nat → Obj → Prop} {w0 w : World} (h : Pair pj n L bm M K w0 w) (id : Int) :
    ∃ x : Int, (decide (0 ≤ x) = (find M id).isSome) ∧ Calls Try.prog 23 #[.pointer (some ⟨bm, 0, none⟩), .int .i64 id] w fun e w' => e = .returned (.int .i64 x) ∧ w' = w := by
  cases hf : find M id with
  | none => exact ⟨-1, by simp, pair_at_none h id hf⟩
  | some t =>
    obtain ⟨A, B, rfl, hno, hti⟩ := find_split hf
    obtain ⟨b, v, rfl, h2, h3, _⟩ := h.at'
    exact ⟨A.length, by simp, at_some hno hti w h3⟩
theorem pair_at_some {pj n bm : Nat} {L A B : List T} {t : T} {K : Nat → Obj → Prop} {w0 w : World} (h : Pair pj n L bm (A ++ t :: B) K w0 w) {id : Int} (hno : ∀ x ∈ A, x.ID ≠ id) (hti : t.ID = id) :
    Calls Try.prog 23 #[.pointer (some ⟨bm, 0, none⟩), .int .i64 id] w fun e w' => e = .returned (.int .i64 A.length) ∧ w' = w := by
  obtain ⟨b, v, rfl, h2, h3, _⟩ := h.at'
  exact at_some hno hti w h3

set_option maxRecDepth 100000 in
set_option maxHeartbeats 64000000 in
theorem play_walk (y : Int) (hy0 : 0 ≤ y) (hy1 : y ≤ 255) (ao : Option Addr) (len cap : Nat) (hm : len ≤ maxLen) (w : World) (ha : DeedsIn ao len w) :
    Calls Try.prog 5 #[.int .u8 y, .slice ao len cap] w fun e w' => e = .returned (.bool true) ∧ Fr (fun _ => False) w w' := by
  unfold maxLen at hm
  have HA := hid ha
  clear ha
  go_enter Try.func5, Try.ntmps5
  go_wp2_with fail
  refine (awake_any _).mono ?_
  rintro e' w1 ⟨rfl, hf1⟩
  have HF1 := hid hf1
  clear hf1
  by_cases hlen : 200 < len
  · go_wp2_with fail
    go_ret
    exact ⟨rfl, HF1.out⟩
  obtain ⟨n, hn⟩ : ∃ n : Nat, 1 + y % 12 = (n : Int) := ⟨(1 + y % 12).toNat, by omega⟩
  have n1 : 1 ≤ n := by omega
  have n2 : n ≤ 12 := by omega
  have HN := hid hn
  clear hn
  go_upto_region 6 with fail
  rw [HN.out]
  go_wp2_with fail
  refine (own_new n n (by omega) (by omega) w w1 HF1.out).mono ?_
  rintro e' w2 ⟨b, he, hb, _, _⟩
  obtain ⟨pj, hpj⟩ : ∃ pj, b.pj = pj := ⟨_, rfl⟩
  rw [hpj] at he
  subst he
  have hfb : Fr (fun _ => False) w2 (w2.alloc (Obj.cells #[.int .i64 n, .slice none 0 0] 47)) := Fr.alloc _ _ _
  have hp : Pair pj n [] w2.heap.size [] (fun _ _ => False) w (w2.alloc (Obj.cells #[.int .i64 n, .slice none 0 0] 47)) :=
    ⟨⟨b, .slice none 0 0, hpj, hb.quiet hfb, ⟨heap_new _ _ rfl, World.ownsRow_nil _ _ _ _, by simp [Value.ownBlock], hb.fr.size, by simp⟩, (fun k hk hr => by
      rcases hr with e | e
      · have := hb.lt hk; omega
      · cases e), fun _ _ h => h.elim⟩, fun _ _ h => h.elim⟩
  have HP := hid hp
  clear hb hfb hp hpj
  go_wp2_with fail
  generalize w2.heap.size = bm at *
  go_loopw [8, 9] (fun s8 s9 wr => ∃ (i : Nat) (L : List T) (clock : Int), i ≤ len ∧ s9 = .int .i64 i ∧ s8 = .int .i64 clock ∧ 0 ≤ clock ∧ clock ≤ i * 21 ∧ Good i L ∧ Pair pj n L bm L (fun _ _ => False) w wr) (fun _ s _ => len - (intOf s).toNat)
  case atStart => exact ⟨0, [], 0, Nat.zero_le _, rfl, rfl, Int.le_refl _, by simp, good_nil _, HP.out⟩
  case round =>
    obtain ⟨i, L, clock, hi, rfl, rfl, k0, k1, hg, hP⟩ := hrel
    have HG := hid hg
    have HPR := hid hP
    clear hg hP HP
    by_cases hlt : i < len
    · obtain ⟨g, o, x, id, e, p, sp, rfl, d0, d1, d2, d3, d4, hwf⟩ := HA.out i hlt
      have d0 := HPR.out.fr.cell d0 _root_.id
      have d1 := HPR.out.fr.cell d1 _root_.id
      have d2 := HPR.out.fr.cell d2 _root_.id
      have d3 := HPR.out.fr.cell d3 _root_.id
      have d4 := HPR.out.fr.cell d4 _root_.id
      have hk1 := HPR.out.keep (Fr.alloc (fun _ => False) wr (Obj.cells #[.int .i64 x, .int .i64 id, .int .i64 e, .int .i64 p, .bool sp] 49)) (Nat.le_refl _) (heap_new wr _ rfl)
      go_upto_region 14 with fail
      generalize hB : wr.heap.size = B at *
      generalize hW : (wr.alloc (Obj.cells #[.int .i64 x, .int .i64 id, .int .i64 e, .int .i64 p, .bool sp] 49)) = wi at *
      obtain ⟨K, hKe⟩ : ∃ K : Nat → Obj → Prop, (fun j y => False ∨ (j = B ∧ y = Obj.cells #[.int .i64 x, .int .i64 id, .int .i64 e, .int .i64 p, .bool sp] 49)) = K := ⟨_, rfl⟩
      rw [hKe] at hk1
      have hKB : K B (Obj.cells #[.int .i64 x, .int .i64 id, .int .i64 e, .int .i64 p, .bool sp] 49) := by rw [← hKe]; exact .inr ⟨rfl, rfl⟩
      have HPI := hid hk1
      have hks : ∀ L M w', Pair pj n L bm M K w w' → w'.cell? ⟨B, 0, none⟩ = some (.int .i64 x) ∧ w'.cell? ⟨B, 1, none⟩ = some (.int .i64 id) ∧ w'.cell? ⟨B, 2, none⟩ = some (.int .i64 e) ∧ w'.cell? ⟨B, 3, none⟩ = some (.int .i64 p) ∧ w'.cell? ⟨B, 4, none⟩ = some (.bool sp) := fun L M w' h => by
        have := h.kept B _ hKB
        exact ⟨by rw [cell_of_heap this]; rfl, by rw [cell_of_heap this]; rfl, by rw [cell_of_heap this]; rfl, by rw [cell_of_heap this]; rfl, by rw [cell_of_heap this]; rfl⟩
      have HKS := hid hks
      have HKE := hid hKe
      obtain ⟨c0, c1, c2, c3, c4⟩ := hks _ _ _ hk1
      have hris := HPI.out.low.2.1
      have HRIS := hid hris
      have HWF := hid hwf
      clear hk1 hB hW hKB hks d0 d1 d2 d3 d4 HPR hKe hris hwf
      go_upto_block 2 with fail
      go_cut [8, 11, 12, 13, 14, 15, 16, 17, 18, 19, 20, 21] from 40 to 238 (fun s8 s11 _ _ _ _ _ _ _ _ _ _ wx => s11 = .bool true ∧ ∃ (clock' : Int) (L' : List T), s8 = .int .i64 clock' ∧ 0 ≤ clock' ∧ clock' ≤ (i + 1 : Nat) * 21 ∧ Good (i + 1 : Nat) L' ∧ Pair pj n L' bm L' K w wx)
      case first =>
        rcases (by omega : x = 0 ∨ x = 1 ∨ x = 2 ∨ x = 3 ∨ x = 4 ∨ x = 5 ∨ x = 6 ∨ x = 7 ∨ x = 8 ∨ x < 0 ∨ 8 < x) with hx | hx | hx | hx | hx | hx | hx | hx | hx | hx | hx
        · subst hx
          as_aux_lemma =>
            go_wp2_with fail
            go_region_held3 (fun w' => w'.cell? ⟨B, 0, none⟩ = some (.int .i64 0) ∧ w'.cell? ⟨B, 1, none⟩ = some (.int .i64 id) ∧ w'.cell? ⟨B, 2, none⟩ = some (.int .i64 e) ∧ w'.cell? ⟨B, 3, none⟩ = some (.int .i64 p) ∧ w'.cell? ⟨B, 4, none⟩ = some (.bool sp))
              (first
                | exact HKS.out _ _ _ (HPI.out.quiet (Fr.drew _ _))
                | exact HKS.out _ _ _ HQ2.out
                | exact HKS.out _ _ _ HQ1.out)
              (first
                | (go_at_call 9
                   refine (pair_join (HPI.out.quiet (Fr.drew _ _)) id e p sp HWF.out).mono ?_
                   rintro e' w5 ⟨rfl, hq1⟩
                   have HQ1 := hid hq1
                   clear hq1)
                | (go_at_call 16
                   refine (pair_join_ref HQ1.out id e p sp).mono ?_
                   rintro e' w6 ⟨rfl, hq2⟩
                   have HQ2 := hid hq2
                   clear hq2))
            have hgg := (HG.out.join (by omega) n id e p sp).le (c' := ((i + 1 : Nat) : Int)) (by omega)
            have HGG := hid hgg
            clear hgg
            go_wp2_with fail
            go_meet
            case rel => exact ⟨by simp, clock, _, rfl, k0, by omega, HGG.out, HQ2.out⟩
        · subst hx
          as_aux_lemma =>
            go_wp2_with fail
            go_region_held3 (fun w' => w'.cell? ⟨B, 0, none⟩ = some (.int .i64 1) ∧ w'.cell? ⟨B, 1, none⟩ = some (.int .i64 id) ∧ w'.cell? ⟨B, 2, none⟩ = some (.int .i64 e) ∧ w'.cell? ⟨B, 3, none⟩ = some (.int .i64 p) ∧ w'.cell? ⟨B, 4, none⟩ = some (.bool sp))
              (first
                | exact HKS.out _ _ _ (HPI.out.quiet (Fr.drew _ _))
                | exact HKS.out _ _ _ HQ2.out
                | exact HKS.out _ _ _ HQ1.out)
              (first
                | (go_at_call 9
                   refine (pair_join (HPI.out.quiet (Fr.drew _ _)) id e p sp HWF.out).mono ?_
                   rintro e' w5 ⟨rfl, hq1⟩
                   have HQ1 := hid hq1
                   clear hq1)
                | (go_at_call 16
                   refine (pair_join_ref HQ1.out id e p sp).mono ?_
                   rintro e' w6 ⟨rfl, hq2⟩
                   have HQ2 := hid hq2
                   clear hq2))
            have hgg := (HG.out.join (by omega) n id e p sp).le (c' := ((i + 1 : Nat) : Int)) (by omega)
            have HGG := hid hgg
            clear hgg
            go_wp2_with fail
            go_meet
            case rel => exact ⟨by simp, clock, _, rfl, k0, by omega, HGG.out, HQ2.out⟩
        · subst hx
          as_aux_lemma =>
            go_wp2_with fail
            with_reducible refine (pair_leave HPI.out id HWF.out).mono ?_
            rintro e' w5 ⟨rfl, hq1⟩
            obtain ⟨q0, q1, q2, q3, q4⟩ := HKS.out _ _ _ hq1
            have HQ1 := hid hq1
            clear hq1 c0 c1 c2 c3 c4
            go_wp2_with fail
            with_reducible refine (pair_leave_ref HRIS.out HQ1.out id).mono ?_
            rintro e' w6 ⟨rfl, hq2⟩
            have HQ2 := hid hq2
            have hgg := (HG.out.leave id).le (c' := ((i + 1 : Nat) : Int)) (by omega)
            have HGG := hid hgg
            clear hgg hq2 q0 q1 q2 q3 q4
            go_wp2_with fail
            go_meet
            case rel => exact ⟨by simp, clock, _, rfl, k0, by omega, HGG.out, HQ2.out⟩
        · subst hx
          as_aux_lemma =>
            go_wp2_with fail
            go_region_held3 (fun w' => w'.cell? ⟨B, 0, none⟩ = some (.int .i64 3) ∧ w'.cell? ⟨B, 1, none⟩ = some (.int .i64 id) ∧ w'.cell? ⟨B, 2, none⟩ = some (.int .i64 e) ∧ w'.cell? ⟨B, 3, none⟩ = some (.int .i64 p) ∧ w'.cell? ⟨B, 4, none⟩ = some (.bool sp))
              (first
                | exact HKS.out _ _ _ (HPI.out.quiet (Fr.drew _ _))
                | exact HKS.out _ _ _ HQ2.out
                | exact HKS.out _ _ _ HQ1.out)
              (first
                | (go_at_call 15
                   refine (pair_arrive (HPI.out.quiet (Fr.drew _ _)) id HWF.out).mono ?_
                   rintro e' w5 ⟨rfl, hq1⟩
                   have HQ1 := hid hq1
                   clear hq1)
                | (go_at_call 18
                   refine (pair_arrive_ref HRIS.out HQ1.out id).mono ?_
                   rintro e' w6 ⟨rfl, hq2⟩
                   have HQ2 := hid hq2
                   clear hq2))
            have hgg := (HG.out.arrive id).le (c' := ((i + 1 : Nat) : Int)) (by omega)
            have HGG := hid hgg
            clear hgg
            go_wp2_with fail
            go_meet
            case rel => exact ⟨by simp, clock, _, rfl, k0, by omega, HGG.out, HQ2.out⟩
        · subst hx
          as_aux_lemma =>
            go_wp2_with fail
            go_region_held3 (fun w' => w'.cell? ⟨B, 0, none⟩ = some (.int .i64 4) ∧ w'.cell? ⟨B, 1, none⟩ = some (.int .i64 id) ∧ w'.cell? ⟨B, 2, none⟩ = some (.int .i64 e) ∧ w'.cell? ⟨B, 3, none⟩ = some (.int .i64 p) ∧ w'.cell? ⟨B, 4, none⟩ = some (.bool sp))
              (first
                | exact HKS.out _ _ _ (HPI.out.quiet (Fr.drew _ _))
                | exact HKS.out _ _ _ HQ2.out
                | exact HKS.out _ _ _ HQ1.out)
              (first
                | (go_at_call 19
                   refine (pair_finish (HPI.out.quiet (Fr.drew _ _)) id HWF.out).mono ?_
                   rintro e' w5 ⟨rfl, hq1⟩
                   have HQ1 := hid hq1
                   clear hq1)
                | (go_at_call 20
                   refine (pair_finish_ref HRIS.out HQ1.out id).mono ?_
                   rintro e' w6 ⟨rfl, hq2⟩
                   have HQ2 := hid hq2
                   clear hq2))
            have hgg := (HG.out.finish id).le (c' := ((i + 1 : Nat) : Int)) (by omega)
            have HGG := hid hgg
            clear hgg
            go_wp2_with fail
            go_meet
            case rel => exact ⟨by simp, clock, _, rfl, k0, by omega, HGG.out, HQ2.out⟩
        · subst hx
          as_aux_lemma =>
            go_wp2_with fail
            with_reducible refine (pair_release HPI.out HG.out (by omega) clock).mono ?_
            rintro e' w5 ⟨r, rfl, hq1⟩
            have HQ1 := hid hq1
            clear hq1 c0 c1 c2 c3 c4
            go_wp2_with fail
            with_reducible refine (pair_release_ref HQ1.out HG.out (by omega) clock).mono ?_
            rintro e' w6 ⟨s, lo, lo', rfl, hr, hs, hq2⟩
            have HQ2 := hid hq2
            have HRR := hid hr
            have HSS := hid hs
            have hgg := HG.out.release k0 (by omega)
            have HGG := hid hgg
            clear hgg hq2 hr hs
            go_wp2_with fail
            refine (ints_any HRR.out HSS.out).mono ?_
            rintro e' w7 ⟨he, hf7⟩
            rw [show eqL (mRelease L clock).1 (mRelease L clock).1 = true by simp [eqL]] at he
            subst he
            have HQ7 := hid (HQ2.out.quiet hf7)
            clear hf7
            go_wp2_with fail
            go_meet
            case rel => exact ⟨by simp, clock, _, rfl, k0, by omega, HGG.out, HQ7.out⟩
        · subst hx
          as_aux_lemma =>
            go_wp2_with fail
            with_reducible refine (pair_release HPI.out HG.out (by omega) clock).mono ?_
            rintro e' w5 ⟨r, rfl, hq1⟩
            have HQ1 := hid hq1
            clear hq1 c0 c1 c2 c3 c4
            go_wp2_with fail
            with_reducible refine (pair_release_ref HQ1.out HG.out (by omega) clock).mono ?_
            rintro e' w6 ⟨s, lo, lo', rfl, hr, hs, hq2⟩
            have HQ2 := hid hq2
            have HRR := hid hr
            have HSS := hid hs
            have hgg := HG.out.release k0 (by omega)
            have HGG := hid hgg
            clear hgg hq2 hr hs
            go_wp2_with fail
            refine (ints_any HRR.out HSS.out).mono ?_
            rintro e' w7 ⟨he, hf7⟩
            rw [show eqL (mRelease L clock).1 (mRelease L clock).1 = true by simp [eqL]] at he
            subst he
            have HQ7 := hid (HQ2.out.quiet hf7)
            clear hf7
            go_wp2_with fail
            go_meet
            case rel => exact ⟨by simp, clock, _, rfl, k0, by omega, HGG.out, HQ7.out⟩
        · subst hx
          as_aux_lemma =>
            obtain ⟨cl, hcl⟩ : ∃ cl, clock + 1 + min (max e 0) 20 = cl := ⟨_, rfl⟩
            have l0 : 0 ≤ cl := by omega
            have l1 : cl ≤ clock + 21 := by omega
            have HCL := hid hcl
            have m0 : 0 ≤ min (max e 0) 20 := by omega
            have m1 : min (max e 0) 20 ≤ 20 := by omega
            clear hcl
            go_upto_region 38 with fail
            rw [HCL.out]
            clear m0 m1
            go_wp2_with fail
            with_reducible refine (pair_settle HPI.out HG.out cl (by omega)).mono ?_
            rintro e' w5 ⟨r, rfl, hq1⟩
            have HQ1 := hid hq1
            clear hq1 c0 c1 c2 c3 c4
            go_wp2_with fail
            with_reducible refine (pair_settle_ref HQ1.out HG.out cl l0 (by omega)).mono ?_
            rintro e' w6 ⟨s, lo, lo', rfl, hr, hs, hq2⟩
            have HQ2 := hid hq2
            have HRR := hid hr
            have HSS := hid hs
            have hgg := (HG.out.settle cl).le (c' := ((i + 1 : Nat) : Int)) (by omega)
            have HGG := hid hgg
            clear hgg hq2 hr hs
            generalize (mSettle L cl).1.2 = bad at *
            go_wp2_with fail
            refine (ints_any HRR.out HSS.out).mono ?_
            rintro e' w7 ⟨he, hf7⟩
            rw [show eqL (mSettle L cl).1.1 (mSettle L cl).1.1 = true by simp [eqL]] at he
            subst he
            have HQ7 := hid (HQ2.out.quiet hf7)
            clear hf7
            go_wp2_with fail
            go_meet
            case rel => exact ⟨by simp, cl, _, rfl, l0, by omega, HGG.out, HQ7.out⟩
        · subst hx
          as_aux_lemma =>
            obtain ⟨cl, hcl⟩ : ∃ cl, clock + 1 + min (max e 0) 20 = cl := ⟨_, rfl⟩
            have l0 : 0 ≤ cl := by omega
            have l1 : cl ≤ clock + 21 := by omega
            have HCL := hid hcl
            have m0 : 0 ≤ min (max e 0) 20 := by omega
            have m1 : min (max e 0) 20 ≤ 20 := by omega
            clear hcl
            go_upto_region 38 with fail
            rw [HCL.out]
            clear m0 m1
            go_wp2_with fail
            with_reducible refine (pair_settle HPI.out HG.out cl (by omega)).mono ?_
            rintro e' w5 ⟨r, rfl, hq1⟩
            have HQ1 := hid hq1
            clear hq1 c0 c1 c2 c3 c4
            go_wp2_with fail
            with_reducible refine (pair_settle_ref HQ1.out HG.out cl l0 (by omega)).mono ?_
            rintro e' w6 ⟨s, lo, lo', rfl, hr, hs, hq2⟩
            have HQ2 := hid hq2
            have HRR := hid hr
            have HSS := hid hs
            have hgg := (HG.out.settle cl).le (c' := ((i + 1 : Nat) : Int)) (by omega)
            have HGG := hid hgg
            clear hgg hq2 hr hs
            generalize (mSettle L cl).1.2 = bad at *
            go_wp2_with fail
            refine (ints_any HRR.out HSS.out).mono ?_
            rintro e' w7 ⟨he, hf7⟩
            rw [show eqL (mSettle L cl).1.1 (mSettle L cl).1.1 = true by simp [eqL]] at he
            subst he
            have HQ7 := hid (HQ2.out.quiet hf7)
            clear hf7
            go_wp2_with fail
            go_meet
            case rel => exact ⟨by simp, cl, _, rfl, l0, by omega, HGG.out, HQ7.out⟩
        · skip
          as_aux_lemma =>
            cases hfd : find L id with
            | none =>
              have hmg : mGive L id = (false, L) := by simp [mGive, hfd]
              have HMG := hid hmg
              have HAT := hid (pair_at_none HPI.out id hfd)
              clear hmg hfd
              go_wp2_with fail
              with_reducible refine (HAT.out).mono ?_
              rintro e' w' ⟨rfl, hw⟩
              have hw := hw.symm; subst hw
              go_upto_region 17 with fail
              go_quiet (fail)
              go_upto_region 18 with fail
              refine wp_fr wi (by repeat (first | exact Fr.refl _ _ | exact Fr.drewN _ _ _ | refine Fr.trans ?_ (Fr.drewN _ _ _))) ?_
              intro wq hwq
              have HPQ := hid (HPI.out.quiet hwq)
              obtain ⟨q0, q1, q2, q3, q4⟩ := HKS.out _ _ _ HPQ.out
              clear c0 c1 c2 c3 c4 hwq q0 q2 q3 q4
              go_wp2_with fail
              with_reducible refine (pair_give HPQ.out HG.out id HWF.out).mono ?_
              rintro e' w5 ⟨he, hq1⟩
              rw [HMG.out] at he hq1
              subst he
              have HQ1 := hid hq1
              have hgg := HG.out.le (c' := ((i + 1 : Nat) : Int)) (by omega)
              have HGG := hid hgg
              clear hgg hq1
              go_wp2_with fail
              go_meet
              case rel => exact ⟨by simp, clock, _, rfl, k0, by omega, HGG.out, HQ1.out⟩
            | some t =>
              obtain ⟨A, T2, hAB, hno, hti⟩ := find_split hfd
              have hgt := HG.out t (find_mem hfd).1
              have g0 := hgt.g0
              have g1 := hgt.ge
              have g2 := hgt.ep
              have g3 := hgt.p1
              have hr := HRIS.out
              rw [hAB] at hr
              have hset : setT (A ++ t :: T2) { t with Gt := t.Gt + 1 } = A ++ { t with Gt := t.Gt + 1 } :: T2 := setT_mid hr rfl
              have hmg : mGive L id = if t.Ac && !(t.Gt == t.E) then (true, A ++ { t with Gt := t.Gt + 1 } :: T2) else (false, L) := by
                rw [← hset, ← hAB]; simp [mGive, hfd]
              obtain ⟨M', hM'⟩ : ∃ M', A ++ ({ t with Gt := t.Gt + 1 } : T) :: T2 = M' := ⟨_, rfl⟩
              rw [hM'] at hmg
              have HM' := hid hM'
              clear hM'
              have hggive := (HG.out.give id).le (c' := ((i + 1 : Nat) : Int)) (by omega)
              have HGIVE := hid hggive
              have HP2 : Hid (Pair pj n L bm (A ++ t :: T2) K w wi) := hid (by have := HPI.out; rw [hAB] at this; rw [hAB]; exact this)
              obtain ⟨gb, capb, hcb, _, hcc, _⟩ := pair_one HP2.out
              have HAT := hid (pair_at_some HP2.out hno hti)
              have a0 : (0 : Int) ≤ (A.length : Int) := by omega
              have a1 : (A.length : Int) < ((A ++ t :: T2).length : Int) := by simp; omega
              have hlowL := HP2.out.low.1
              have hN : (A ++ t :: T2).length = L.length := by rw [hAB]
              have b1 : wi.cell? ⟨gb, A.length * 11 + 1, none⟩ = some (.int .i64 t.E) := hcc 1 _ rfl
              have b6 : wi.cell? ⟨gb, A.length * 11 + 6, none⟩ = some (.bool t.Ac) := hcc 6 _ rfl
              have b8 : wi.cell? ⟨gb, A.length * 11 + 8, none⟩ = some (.int .i64 t.Gt) := hcc 8 _ rfl
              have HAB := hid hAB
              rw [hN] at hcb a1
              generalize hla : A.length = la at *
              generalize hNl : L.length = N at *
              have HLA := hid hla
              have HNL := hid hNl
              clear hgt hr hset hcc hno hti hfd hAB hggive hN hla hNl
              cases hac : t.Ac <;> cases hge : (t.Gt == t.E)
              all_goals
                have hbn : (t.Gt != t.E) = !(t.Gt == t.E) := rfl
                rw [hge] at hbn
                simp only [Bool.not_true, Bool.not_false] at hbn
                simp only [hac, hge, Bool.and_true, Bool.and_false, Bool.true_and, Bool.false_and, Bool.not_true, Bool.not_false, Bool.false_eq_true, if_true, if_false] at hmg
                rw [hac] at b6
                have HMG := hid hmg
                clear hmg hac hge
                go_wp2_with fail
                with_reducible refine (HAT.out).mono ?_
                rintro e' w' ⟨rfl, hw⟩
                have hw := hw.symm; subst hw
                go_upto_region 17 with fail
                go_quiet (fail)
                go_upto_region 18 with fail
                refine wp_fr wi (by repeat (first | exact Fr.refl _ _ | exact Fr.drewN _ _ _ | refine Fr.trans ?_ (Fr.drewN _ _ _))) ?_
                intro wq hwq
                have HPQ := hid (HP2.out.quiet hwq)
                obtain ⟨q0, q1, q2, q3, q4⟩ := HKS.out _ _ _ HPQ.out
                clear c0 c1 c2 c3 c4 hwq q0 q2 q3 q4 b1 b6 b8 hcb hbn
                go_wp2_with fail
                with_reducible refine (pair_give HPQ.out HG.out id HWF.out).mono ?_
                rintro e' w5 ⟨he, hq1⟩
                have hgv := HGIVE.out
                rw [HMG.out] at he hq1 hgv
                subst he
                have HGV := hid hgv
                first
                  | (have HQ1 : Hid (Pair pj n L bm L K w w5) := hid (by have := hq1; rw [← HAB.out] at this; exact this)
                     clear hq1 hgv
                     go_wp2_with fail
                     go_meet
                     (case rel => exact ⟨by simp, clock, _, rfl, k0, by omega, HGV.out, HQ1.out⟩))
                  | (obtain ⟨gc, capc, hcb, hz, hcc, hput⟩ := pair_one hq1
                     have b8 : w5.cell? ⟨gc, la * 11 + 8, none⟩ = some (.int .i64 t.Gt) := by rw [← HLA.out]; exact hcc 8 _ rfl
                     have z8 := hz (la * 11 + 8)
                     have hpp := hput 8 (.int .i64 (t.Gt + 1)) { t with Gt := t.Gt + 1 } (by omega) rfl
                     rw [HLA.out, HM'.out] at hpp
                     have hN2 : (A ++ t :: T2).length = N := by rw [← HAB.out]; exact HNL.out
                     rw [hN2] at hcb
                     have HPP := hid hpp
                     clear hq1 hcc hput hz hpp hN2 hgv
                     go_wp2_with fail
                     go_meet
                     (case rel => exact ⟨by simp, clock, _, rfl, k0, by omega, HGV.out, HPP.out⟩))
        · skip
          as_aux_lemma =>
            cases hfd : find L id with
            | none =>
              have hmg : mGive L id = (false, L) := by simp [mGive, hfd]
              have HMG := hid hmg
              have HAT := hid (pair_at_none HPI.out id hfd)
              clear hmg hfd
              go_wp2_with fail
              with_reducible refine (HAT.out).mono ?_
              rintro e' w' ⟨rfl, hw⟩
              have hw := hw.symm; subst hw
              go_upto_region 17 with fail
              go_quiet (fail)
              go_upto_region 18 with fail
              refine wp_fr wi (by repeat (first | exact Fr.refl _ _ | exact Fr.drewN _ _ _ | refine Fr.trans ?_ (Fr.drewN _ _ _))) ?_
              intro wq hwq
              have HPQ := hid (HPI.out.quiet hwq)
              obtain ⟨q0, q1, q2, q3, q4⟩ := HKS.out _ _ _ HPQ.out
              clear c0 c1 c2 c3 c4 hwq q0 q2 q3 q4
              go_wp2_with fail
              with_reducible refine (pair_give HPQ.out HG.out id HWF.out).mono ?_
              rintro e' w5 ⟨he, hq1⟩
              rw [HMG.out] at he hq1
              subst he
              have HQ1 := hid hq1
              have hgg := HG.out.le (c' := ((i + 1 : Nat) : Int)) (by omega)
              have HGG := hid hgg
              clear hgg hq1
              go_wp2_with fail
              go_meet
              case rel => exact ⟨by simp, clock, _, rfl, k0, by omega, HGG.out, HQ1.out⟩
            | some t =>
              obtain ⟨A, T2, hAB, hno, hti⟩ := find_split hfd
              have hgt := HG.out t (find_mem hfd).1
              have g0 := hgt.g0
              have g1 := hgt.ge
              have g2 := hgt.ep
              have g3 := hgt.p1
              have hr := HRIS.out
              rw [hAB] at hr
              have hset : setT (A ++ t :: T2) { t with Gt := t.Gt + 1 } = A ++ { t with Gt := t.Gt + 1 } :: T2 := setT_mid hr rfl
              have hmg : mGive L id = if t.Ac && !(t.Gt == t.E) then (true, A ++ { t with Gt := t.Gt + 1 } :: T2) else (false, L) := by
                rw [← hset, ← hAB]; simp [mGive, hfd]
              obtain ⟨M', hM'⟩ : ∃ M', A ++ ({ t with Gt := t.Gt + 1 } : T) :: T2 = M' := ⟨_, rfl⟩
              rw [hM'] at hmg
              have HM' := hid hM'
              clear hM'
              have hggive := (HG.out.give id).le (c' := ((i + 1 : Nat) : Int)) (by omega)
              have HGIVE := hid hggive
              have HP2 : Hid (Pair pj n L bm (A ++ t :: T2) K w wi) := hid (by have := HPI.out; rw [hAB] at this; rw [hAB]; exact this)
              obtain ⟨gb, capb, hcb, _, hcc, _⟩ := pair_one HP2.out
              have HAT := hid (pair_at_some HP2.out hno hti)
              have a0 : (0 : Int) ≤ (A.length : Int) := by omega
              have a1 : (A.length : Int) < ((A ++ t :: T2).length : Int) := by simp; omega
              have hlowL := HP2.out.low.1
              have hN : (A ++ t :: T2).length = L.length := by rw [hAB]
              have b1 : wi.cell? ⟨gb, A.length * 11 + 1, none⟩ = some (.int .i64 t.E) := hcc 1 _ rfl
              have b6 : wi.cell? ⟨gb, A.length * 11 + 6, none⟩ = some (.bool t.Ac) := hcc 6 _ rfl
              have b8 : wi.cell? ⟨gb, A.length * 11 + 8, none⟩ = some (.int .i64 t.Gt) := hcc 8 _ rfl
              have HAB := hid hAB
              rw [hN] at hcb a1
              generalize hla : A.length = la at *
              generalize hNl : L.length = N at *
              have HLA := hid hla
              have HNL := hid hNl
              clear hgt hr hset hcc hno hti hfd hAB hggive hN hla hNl
              cases hac : t.Ac <;> cases hge : (t.Gt == t.E)
              all_goals
                have hbn : (t.Gt != t.E) = !(t.Gt == t.E) := rfl
                rw [hge] at hbn
                simp only [Bool.not_true, Bool.not_false] at hbn
                simp only [hac, hge, Bool.and_true, Bool.and_false, Bool.true_and, Bool.false_and, Bool.not_true, Bool.not_false, Bool.false_eq_true, if_true, if_false] at hmg
                rw [hac] at b6
                have HMG := hid hmg
                clear hmg hac hge
                go_wp2_with fail
                with_reducible refine (HAT.out).mono ?_
                rintro e' w' ⟨rfl, hw⟩
                have hw := hw.symm; subst hw
                go_upto_region 17 with fail
                go_quiet (fail)
                go_upto_region 18 with fail
                refine wp_fr wi (by repeat (first | exact Fr.refl _ _ | exact Fr.drewN _ _ _ | refine Fr.trans ?_ (Fr.drewN _ _ _))) ?_
                intro wq hwq
                have HPQ := hid (HP2.out.quiet hwq)
                obtain ⟨q0, q1, q2, q3, q4⟩ := HKS.out _ _ _ HPQ.out
                clear c0 c1 c2 c3 c4 hwq q0 q2 q3 q4 b1 b6 b8 hcb hbn
                go_wp2_with fail
                with_reducible refine (pair_give HPQ.out HG.out id HWF.out).mono ?_
                rintro e' w5 ⟨he, hq1⟩
                have hgv := HGIVE.out
                rw [HMG.out] at he hq1 hgv
                subst he
                have HGV := hid hgv
                first
                  | (have HQ1 : Hid (Pair pj n L bm L K w w5) := hid (by have := hq1; rw [← HAB.out] at this; exact this)
                     clear hq1 hgv
                     go_wp2_with fail
                     go_meet
                     (case rel => exact ⟨by simp, clock, _, rfl, k0, by omega, HGV.out, HQ1.out⟩))
                  | (obtain ⟨gc, capc, hcb, hz, hcc, hput⟩ := pair_one hq1
                     have b8 : w5.cell? ⟨gc, la * 11 + 8, none⟩ = some (.int .i64 t.Gt) := by rw [← HLA.out]; exact hcc 8 _ rfl
                     have z8 := hz (la * 11 + 8)
                     have hpp := hput 8 (.int .i64 (t.Gt + 1)) { t with Gt := t.Gt + 1 } (by omega) rfl
                     rw [HLA.out, HM'.out] at hpp
                     have hN2 : (A ++ t :: T2).length = N := by rw [← HAB.out]; exact HNL.out
                     rw [hN2] at hcb
                     have HPP := hid hpp
                     clear hq1 hcc hput hz hpp hN2 hgv
                     go_wp2_with fail
                     go_meet
                     (case rel => exact ⟨by simp, clock, _, rfl, k0, by omega, HGV.out, HPP.out⟩))
      case rest =>
        obtain ⟨rfl, clock', L', rfl, l0, l1, hg', hq⟩ := hcut
        have HG' := hid hg'
        have HQ := hid hq
        obtain ⟨q0, q1, q2, q3, q4⟩ := HKS.out _ _ _ hq
        clear hg' hq c0 c1 c2 c3 c4 q0 q2 q3 q4
        go_wp2_with fail
        with_reducible refine (pair_task HQ.out id HWF.out).mono ?_
        rintro e' w7 ⟨rfl, hf7⟩
        have HQ7 := hid (HQ.out.quiet hf7)
        have r1 := hf7.cell q1 _root_.id
        clear hf7 q1
        generalize (find L' id).getD noTask = t at *
        go_wp2_with (with_reducible (show wpList _ _ _ (⟨_, Op.store 35 (.tmp 22) _, _, _, _, _⟩ :: _) _ _); refine wpList_store_new rfl (.tmp 22) (.tmp 220) rfl w7 t _ rfl rfl rfl ?_)
        intro w8 h8 hf8
        have HQ8 := hid (HQ7.out.quiet hf8)
        have r2 := hf8.cell r1 _root_.id
        clear hf8 h8 r1
        go_wp2_with fail
        with_reducible refine (same_any _ HQ8.out).mono ?_
        rintro e' w9 ⟨rfl, hf9⟩
        have HQ9 := hid (HQ8.out.quiet hf9)
        have r3 := hf9.cell r2 _root_.id
        clear hf9 r2
        go_wp2_with fail
        obtain ⟨z, hz, hcall⟩ := pair_at HQ9.out id
        have HZ := hid hz
        clear hz
        with_reducible refine hcall.mono ?_
        clear hcall
        rintro e' w' ⟨rfl, hw⟩
        have hw := hw.symm; subst hw
        have HZ' := HZ.out
        rw [← HZ']
        clear HZ'
        by_cases hz : 0 ≤ z
        all_goals
          go_wp2_with fail
          go_roundw
          case rel => exact ⟨i + 1, L', clock', by omega, by go_num, rfl, l0, by omega, HG'.out, HQ9.out.less (fun _ _ h => h.elim)⟩
          case measure => simp [intOf]; omega
    · go_wp2_with fail
      go_ret
      exact ⟨rfl, HPR.out.fr⟩
end Go.Proofs.Ytajlilcodnkfdaa
