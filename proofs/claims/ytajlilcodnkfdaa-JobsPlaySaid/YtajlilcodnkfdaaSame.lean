/-
  Has the program what the reference has?
-/
import Derived.Test.YtajlilcodnkfdaaPair
namespace Go.Proofs.Ytajlilcodnkfdaa
open Go.Proofs
open Go.RowKit Go.WideMaps

set_option linter.unusedSimpArgs false

set_option maxHeartbeats 1600000 in
theorem made_any (t : T) (w : World) : Calls Try.prog 33 #[.agg #[.int .i64 t.ID, .int .i64 t.E, .int .i64 t.P, .bool t.Sp, .bool t.Lv, .bool t.Wt, .bool t.Ac, .int .i64 t.Rl, .int .i64 t.Gt, .bool t.Dn, .int .i64 t.Ct]] w fun e w' => e = .returned (.agg #[.int .i64 t.ID, .int .i64 t.E, .int .i64 t.P, .bool t.Sp, .bool t.Lv, .bool t.Wt, .bool t.Ac, .int .i64 t.Rl, .int .i64 t.Gt, .bool t.Dn, .int .i64 t.Ct]) ∧ Fr (fun _ => False) w w' := by
  go_enter Try.func33, Try.ntmps33
  go_wp2
  refine bodyPost_ret (v := .agg #[.int .i64 t.ID, .int .i64 t.E, .int .i64 t.P, .bool t.Sp, .bool t.Lv, .bool t.Wt, .bool t.Ac, .int .i64 t.Rl, .int .i64 t.Gt, .bool t.Dn, .int .i64 t.Ct]) (by simp [results, Try.results33, go_sem]) rfl ⟨rfl, ?_⟩
  exact (Fr.alloc _ _ _).trans (Fr.alloc _ _ _)

set_option maxRecDepth 100000 in
set_option maxHeartbeats 6400000 in
theorem same_any {pj n bm : Nat} {L : List T} {K : Nat → Obj → Prop} {w0 : World} (w : World) (h : Pair pj n L bm L K w0 w) :
    Calls Try.prog 25 #[.pointer (some ⟨pj, 0, none⟩), .pointer (some ⟨bm, 0, none⟩)] w fun e w' => e = .returned (.bool true) ∧ Fr (fun _ => False) w w' := by
  have HP := hid h
  have hlow := h.low.1
  have hcb : ∃ ao cap, ∀ X, Fr (fun _ => False) w X → X.cell? ⟨bm, 1, none⟩ = some (.slice ao L.length cap) ∧ ∀ i, (hi : i < L.length) → ∃ g, ao = some ⟨g, 0, none⟩ ∧ ∀ j u, (L[i]).cells[j]? = some u → X.cell? ⟨g, i * 11 + j, none⟩ = some u := by
    obtain ⟨b, v, _, _, h3, _⟩ := h.at'
    obtain ⟨ao, cap, hr⟩ := h3.open
    refine ⟨ao, cap, fun X hf => ⟨?_, fun i hi => ?_⟩⟩
    · rw [cell_of_heap (hf.heap h3.box _root_.id), hr.val]; rfl
    · obtain ⟨g, h1, _, _, h4⟩ := hr.cell i hi
      exact ⟨g, h1, fun j u hu => hf.cell (h4 j u hu) _root_.id⟩
  obtain ⟨ao, cap, hcb⟩ := hcb
  have HCB := hid hcb
  obtain ⟨N, hN⟩ : ∃ N, L.length = N := ⟨_, rfl⟩
  have HN := hid hN
  clear h hcb
  go_enter Try.func25, Try.ntmps25
  go_wp2_with fail
  with_reducible refine (pair_ids HP.out).mono ?_
  rintro e w1 ⟨r, rfl, hr, hf1⟩
  obtain ⟨ro, rcap, hi1, rfl, hrow, hle⟩ := hr
  have hlr : (L.map (·.ID)).length = N := by rw [List.length_map, hN]
  rw [hlr] at hrow ⊢
  have HROW := hid hrow
  have HF1 := hid hf1
  have cb1 := (HCB.out w1 hf1).1
  rw [hN] at cb1 hlow
  clear hrow hf1 hlr hN hle
  go_wp2_with fail
  go_loopw [6] (fun s wr => ∃ i : Nat, i ≤ N ∧ s = .int .i64 i ∧ Fr (fun _ => False) w1 wr) (fun s _ => N - (intOf s).toNat)
  case atStart => exact ⟨0, Nat.zero_le _, rfl, Fr.refl _ _⟩
  case round =>
    obtain ⟨i, hi, rfl, hfr⟩ := hrel
    have HF := hid hfr
    clear cb1 hfr
    by_cases hlt : i < N
    · have hiL : i < L.length := by rw [HN.out]; exact hlt
      obtain ⟨g7, rfl, _, _, hc⟩ := HROW.out.cell i hlt
      replace hc : _ = some (Value.int .i64 (L[i]'hiL).ID) := (HF.out.cell hc _root_.id).trans (by simp [List.getD, hiL])
      have hwft := HP.out.low.2.2.1 _ (List.getElem_mem hiL)
      have hfind : find L (L[i]'hiL).ID = some (L[i]'hiL) := by
        have hr := HP.out.low.2.1
        have e : L = L.take i ++ L[i] :: L.drop (i + 1) := by rw [← List.drop_eq_getElem_cons hiL, List.take_append_drop]
        have := find_mid (A := L.take i) (B := L.drop (i + 1)) (t := L[i]) (by rw [← e]; exact hr)
        rw [← e] at this
        exact this
      obtain ⟨t, ht⟩ : ∃ t, (L[i]'hiL) = t := ⟨_, rfl⟩
      rw [ht] at hc hwft hfind
      have HT := hid ht
      have HFI := hid hfind
      have HWF := hid hwft
      have i0 : (0 : Int) ≤ (i : Int) := by omega
      have i1 : (i : Int) < (N : Int) := by omega
      clear hfind hwft ht
      go_wp2_with fail
      have hct := pair_task (HP.out.quiet (HF1.out.trans HF.out)) t.ID HWF.out
      rw [HFI.out] at hct
      simp only [Option.getD_some, Option.isSome_some] at hct
      with_reducible refine hct.mono ?_
      clear hct
      rintro e w7 ⟨rfl, hf7⟩
      have HF7 := hid hf7
      clear hf7 hc
      go_wp2_with (with_reducible (show wpList _ _ _ (⟨_, Op.store 35 (.tmp 7) _, _, _, _, _⟩ :: _) _ _); refine wpList_store_new rfl (.tmp 7) (.tmp 32) rfl w7 t _ rfl rfl rfl ?_)
      intro wb h8 hf8
      generalize w7.heap.size = H7 at *
      have hall := (HF.out.trans HF7.out).trans hf8
      have HALL := hid hall
      obtain ⟨cb, hcq⟩ := HCB.out wb (HF1.out.trans hall)
      rw [HN.out] at cb
      obtain ⟨g, rfl, hcq2⟩ := hcq i hiL
      rw [HT.out] at hcq2
      have p0 : wb.cell? ⟨H7, 0, none⟩ = some (.int .i64 t.ID) := by rw [cell_of_heap h8]; rfl
      have p1 : wb.cell? ⟨H7, 1, none⟩ = some (.int .i64 t.E) := by rw [cell_of_heap h8]; rfl
      have p2 : wb.cell? ⟨H7, 2, none⟩ = some (.int .i64 t.P) := by rw [cell_of_heap h8]; rfl
      have p3 : wb.cell? ⟨H7, 3, none⟩ = some (.bool t.Sp) := by rw [cell_of_heap h8]; rfl
      have p4 : wb.cell? ⟨H7, 4, none⟩ = some (.bool t.Lv) := by rw [cell_of_heap h8]; rfl
      have p5 : wb.cell? ⟨H7, 5, none⟩ = some (.bool t.Wt) := by rw [cell_of_heap h8]; rfl
      have p6 : wb.cell? ⟨H7, 6, none⟩ = some (.bool t.Ac) := by rw [cell_of_heap h8]; rfl
      have p7 : wb.cell? ⟨H7, 7, none⟩ = some (.int .i64 t.Rl) := by rw [cell_of_heap h8]; rfl
      have p8 : wb.cell? ⟨H7, 8, none⟩ = some (.int .i64 t.Gt) := by rw [cell_of_heap h8]; rfl
      have p9 : wb.cell? ⟨H7, 9, none⟩ = some (.bool t.Dn) := by rw [cell_of_heap h8]; rfl
      have p10 : wb.cell? ⟨H7, 10, none⟩ = some (.int .i64 t.Ct) := by rw [cell_of_heap h8]; rfl
      have q0 : wb.cell? ⟨g, i * 11, none⟩ = some (.int .i64 t.ID) := hcq2 0 _ rfl
      have q1 : wb.cell? ⟨g, i * 11 + 1, none⟩ = some (.int .i64 t.E) := hcq2 1 _ rfl
      have q2 : wb.cell? ⟨g, i * 11 + 2, none⟩ = some (.int .i64 t.P) := hcq2 2 _ rfl
      have q3 : wb.cell? ⟨g, i * 11 + 3, none⟩ = some (.bool t.Sp) := hcq2 3 _ rfl
      have q4 : wb.cell? ⟨g, i * 11 + 4, none⟩ = some (.bool t.Lv) := hcq2 4 _ rfl
      have q5 : wb.cell? ⟨g, i * 11 + 5, none⟩ = some (.bool t.Wt) := hcq2 5 _ rfl
      have q6 : wb.cell? ⟨g, i * 11 + 6, none⟩ = some (.bool t.Ac) := hcq2 6 _ rfl
      have q7 : wb.cell? ⟨g, i * 11 + 7, none⟩ = some (.int .i64 t.Rl) := hcq2 7 _ rfl
      have q8 : wb.cell? ⟨g, i * 11 + 8, none⟩ = some (.int .i64 t.Gt) := hcq2 8 _ rfl
      have q9 : wb.cell? ⟨g, i * 11 + 9, none⟩ = some (.bool t.Dn) := hcq2 9 _ rfl
      have q10 : wb.cell? ⟨g, i * 11 + 10, none⟩ = some (.int .i64 t.Ct) := hcq2 10 _ rfl
      have keepS : ∀ w', Fr (fun _ => False) wb w' → w'.cell? ⟨bm, 1, none⟩ = some (.slice (some ⟨g, 0, none⟩) N cap) ∧ w'.cell? ⟨H7, 0, none⟩ = some (.int .i64 t.ID) ∧ w'.cell? ⟨H7, 1, none⟩ = some (.int .i64 t.E) ∧ w'.cell? ⟨H7, 2, none⟩ = some (.int .i64 t.P) ∧ w'.cell? ⟨H7, 3, none⟩ = some (.bool t.Sp) ∧ w'.cell? ⟨H7, 4, none⟩ = some (.bool t.Lv) ∧ w'.cell? ⟨H7, 5, none⟩ = some (.bool t.Wt) ∧ w'.cell? ⟨H7, 6, none⟩ = some (.bool t.Ac) ∧ w'.cell? ⟨H7, 7, none⟩ = some (.int .i64 t.Rl) ∧ w'.cell? ⟨H7, 8, none⟩ = some (.int .i64 t.Gt) ∧ w'.cell? ⟨H7, 9, none⟩ = some (.bool t.Dn) ∧ w'.cell? ⟨H7, 10, none⟩ = some (.int .i64 t.Ct) ∧ w'.cell? ⟨g, i * 11, none⟩ = some (.int .i64 t.ID) ∧ w'.cell? ⟨g, i * 11 + 1, none⟩ = some (.int .i64 t.E) ∧ w'.cell? ⟨g, i * 11 + 2, none⟩ = some (.int .i64 t.P) ∧ w'.cell? ⟨g, i * 11 + 3, none⟩ = some (.bool t.Sp) ∧ w'.cell? ⟨g, i * 11 + 4, none⟩ = some (.bool t.Lv) ∧ w'.cell? ⟨g, i * 11 + 5, none⟩ = some (.bool t.Wt) ∧ w'.cell? ⟨g, i * 11 + 6, none⟩ = some (.bool t.Ac) ∧ w'.cell? ⟨g, i * 11 + 7, none⟩ = some (.int .i64 t.Rl) ∧ w'.cell? ⟨g, i * 11 + 8, none⟩ = some (.int .i64 t.Gt) ∧ w'.cell? ⟨g, i * 11 + 9, none⟩ = some (.bool t.Dn) ∧ w'.cell? ⟨g, i * 11 + 10, none⟩ = some (.int .i64 t.Ct) ∧ Fr (fun _ => False) wb w' := fun w' hf => ⟨hf.cell cb _root_.id, hf.cell p0 _root_.id, hf.cell p1 _root_.id, hf.cell p2 _root_.id, hf.cell p3 _root_.id, hf.cell p4 _root_.id, hf.cell p5 _root_.id, hf.cell p6 _root_.id, hf.cell p7 _root_.id, hf.cell p8 _root_.id, hf.cell p9 _root_.id, hf.cell p10 _root_.id, hf.cell q0 _root_.id, hf.cell q1 _root_.id, hf.cell q2 _root_.id, hf.cell q3 _root_.id, hf.cell q4 _root_.id, hf.cell q5 _root_.id, hf.cell q6 _root_.id, hf.cell q7 _root_.id, hf.cell q8 _root_.id, hf.cell q9 _root_.id, hf.cell q10 _root_.id, hf⟩
      have HKS := hid keepS
      clear keepS hcq hcq2 h8 hf8 hall
      go_upto_region 8 with fail
      go_region_held3 (fun w' => w'.cell? ⟨bm, 1, none⟩ = some (.slice (some ⟨g, 0, none⟩) N cap) ∧ w'.cell? ⟨H7, 0, none⟩ = some (.int .i64 t.ID) ∧ w'.cell? ⟨H7, 1, none⟩ = some (.int .i64 t.E) ∧ w'.cell? ⟨H7, 2, none⟩ = some (.int .i64 t.P) ∧ w'.cell? ⟨H7, 3, none⟩ = some (.bool t.Sp) ∧ w'.cell? ⟨H7, 4, none⟩ = some (.bool t.Lv) ∧ w'.cell? ⟨H7, 5, none⟩ = some (.bool t.Wt) ∧ w'.cell? ⟨H7, 6, none⟩ = some (.bool t.Ac) ∧ w'.cell? ⟨H7, 7, none⟩ = some (.int .i64 t.Rl) ∧ w'.cell? ⟨H7, 8, none⟩ = some (.int .i64 t.Gt) ∧ w'.cell? ⟨H7, 9, none⟩ = some (.bool t.Dn) ∧ w'.cell? ⟨H7, 10, none⟩ = some (.int .i64 t.Ct) ∧ w'.cell? ⟨g, i * 11, none⟩ = some (.int .i64 t.ID) ∧ w'.cell? ⟨g, i * 11 + 1, none⟩ = some (.int .i64 t.E) ∧ w'.cell? ⟨g, i * 11 + 2, none⟩ = some (.int .i64 t.P) ∧ w'.cell? ⟨g, i * 11 + 3, none⟩ = some (.bool t.Sp) ∧ w'.cell? ⟨g, i * 11 + 4, none⟩ = some (.bool t.Lv) ∧ w'.cell? ⟨g, i * 11 + 5, none⟩ = some (.bool t.Wt) ∧ w'.cell? ⟨g, i * 11 + 6, none⟩ = some (.bool t.Ac) ∧ w'.cell? ⟨g, i * 11 + 7, none⟩ = some (.int .i64 t.Rl) ∧ w'.cell? ⟨g, i * 11 + 8, none⟩ = some (.int .i64 t.Gt) ∧ w'.cell? ⟨g, i * 11 + 9, none⟩ = some (.bool t.Dn) ∧ w'.cell? ⟨g, i * 11 + 10, none⟩ = some (.int .i64 t.Ct) ∧ Fr (fun _ => False) wb w')
        (first
          | exact HKS.out _ (Fr.drew _ _)
          | exact HKS.out _ (by assumption))
        (first
          | (go_at_call 33
             refine (made_any t _).mono ?_
             rintro e' w9 ⟨rfl, hf9⟩
             have hk9 := (Fr.drew (fun _ => False) wb).trans hf9))
      clear cb p0 p1 p2 p3 p4 p5 p6 p7 p8 p9 p10 q0 q1 q2 q3 q4 q5 q6 q7 q8 q9 q10
      go_wp2_with fail
      go_roundw
      case rel => exact ⟨i + 1, by omega, by go_num, HALL.out.trans hk9⟩
      case measure => simp [intOf]; omega
    · go_wp2_with fail
      go_ret
      exact ⟨rfl, HF1.out.trans HF.out⟩
end Go.Proofs.Ytajlilcodnkfdaa
