/-
  The reference's jobs: Release.
-/
import Derived.Test.YtajlilcodnkfdaaRefLeave
namespace Go.Proofs.Ytajlilcodnkfdaa
open Go.Proofs
open Go.RowKit Go.WideMaps

set_option linter.unusedSimpArgs false

theorem RefAt.has_lt {bm n lo : Nat} {v : Value} {M : List T} {w : World} (h : RefAt bm n v M lo w) {k : Nat} (hk : RefAt.has bm v k) : k < w.heap.size := by
  rcases hk with rfl | hk
  · exact lt_of_heap h.box
  · exact (h.row.lt k hk).2
structure RRelAt (bm n : Nat) (v : Value) (M : List T) (lo : Nat) (clock : Int) (k : Nat) (so : Value) (w wx : World) : Prop where
  jobs : RefAt bm n v (relTo clock M k) lo wx
  out : wx.ownsRow w.heap.size 3 1 so (relIds M k).length ((relIds M k).map (Value.int .i64))
  fr : Fr (RefAt.has bm v) w wx

/-- What a release writes, world behind world. -/
def RDeeds (g o : Nat) (t : T) (clock : Int) (w w6 : World) : Prop := ∃ w1 w2 w3 w4 w5 : World,
  w1 = w.setCell ⟨g, o + 6, none⟩ (.bool true) ∧ w2 = w1.setCell ⟨g, o + 5, none⟩ (.bool false) ∧ w3 = w2.setCell ⟨g, o + 7, none⟩ (.int .i64 clock) ∧
  w4 = w3.setCell ⟨g, o + 8, none⟩ (.int .i64 0) ∧ w5 = w4.setCell ⟨g, o + 9, none⟩ (.bool false) ∧ w6 = w5.setCell ⟨g, o + 10, none⟩ (.int .i64 (t.Ct + 1)) ∧
  w.cell? ⟨g, o + 6, none⟩ = some (.bool t.Ac) ∧ w1.cell? ⟨g, o + 5, none⟩ = some (.bool t.Wt) ∧ w2.cell? ⟨g, o + 7, none⟩ = some (.int .i64 t.Rl) ∧
  w3.cell? ⟨g, o + 8, none⟩ = some (.int .i64 t.Gt) ∧ w4.cell? ⟨g, o + 9, none⟩ = some (.bool t.Dn) ∧ w5.cell? ⟨g, o + 10, none⟩ = some (.int .i64 t.Ct) ∧
  w.frozen? ⟨g, o + 6, none⟩ = false ∧ w1.frozen? ⟨g, o + 5, none⟩ = false ∧ w2.frozen? ⟨g, o + 7, none⟩ = false ∧
  w3.frozen? ⟨g, o + 8, none⟩ = false ∧ w4.frozen? ⟨g, o + 9, none⟩ = false ∧ w5.frozen? ⟨g, o + 10, none⟩ = false ∧ w6.cell? ⟨g, o, none⟩ = some (.int .i64 t.ID)
theorem RefAt.deeds {bm n lo : Nat} {v : Value} {A B : List T} {t : T} {w : World} (h : RefAt bm n v (A ++ t :: B) lo w) {g : Nat} (hg : v.ownBlock = some g) (clock : Int) :
    ∃ w6, RDeeds g (A.length * 11) t clock w w6 ∧ RefAt bm n v (A ++ begun clock t :: B) lo w6 ∧ Fr (RefAt.has bm v) w w6 := by
  have o1 := h.put hg (t' := { t with Ac := true }) (j := 6) (by omega) (u := .bool true) rfl
  have o2 := o1.put hg (t' := { t with Ac := true, Wt := false }) (j := 5) (by omega) (u := .bool false) rfl
  have o3 := o2.put hg (t' := { t with Ac := true, Wt := false, Rl := clock }) (j := 7) (by omega) (u := .int .i64 clock) rfl
  have o4 := o3.put hg (t' := { t with Ac := true, Wt := false, Rl := clock, Gt := 0 }) (j := 8) (by omega) (u := .int .i64 0) rfl
  have o5 := o4.put hg (t' := { t with Ac := true, Wt := false, Rl := clock, Gt := 0, Dn := false }) (j := 9) (by omega) (u := .bool false) rfl
  have o6 := o5.put hg (t' := begun clock t) (j := 10) (by omega) (u := .int .i64 (t.Ct + 1)) rfl
  have get : ∀ {t' : T} {w' : World}, RefAt bm n v (A ++ t' :: B) lo w' → ∀ j u, t'.cells[j]? = some u → w'.cell? ⟨g, A.length * 11 + j, none⟩ = some u ∧ w'.frozen? ⟨g, A.length * 11 + j, none⟩ = false := by
    intro t' w' hh j u hu
    obtain ⟨g', cap, _, e, hz, hc⟩ := hh.one
    have : g = g' := by rw [hg] at e; simpa using e
    subst this
    exact ⟨hc j u hu, hz _⟩
  have hb : RefAt.has bm v g := .inr hg
  exact ⟨_, ⟨_, _, _, _, _, rfl, rfl, rfl, rfl, rfl, rfl, (get h 6 _ rfl).1, (get o1 5 _ rfl).1, (get o2 7 _ rfl).1, (get o3 8 _ rfl).1, (get o4 9 _ rfl).1, (get o5 10 _ rfl).1,
    (get h 6 _ rfl).2, (get o1 5 _ rfl).2, (get o2 7 _ rfl).2, (get o3 8 _ rfl).2, (get o4 9 _ rfl).2, (get o5 10 _ rfl).2, (get o6 0 _ rfl).1⟩, o6,
    (((((Fr.set w hb _ _).trans (Fr.set _ hb _ _)).trans (Fr.set _ hb _ _)).trans (Fr.set _ hb _ _)).trans (Fr.set _ hb _ _)).trans (Fr.set _ hb _ _)⟩

set_option maxRecDepth 100000 in
set_option maxHeartbeats 6400000 in
theorem release_ref {bm n lo : Nat} {v : Value} {M : List T} {c : Int} (hgood : Good c M) (hc : c ≤ 1000000000) (clock : Int) (w : World) (h : RefAt bm n v M lo w) :
    Calls Try.prog 21 #[.pointer (some ⟨bm, 0, none⟩), .int .i64 clock] w fun e w' => ∃ r, e = .returned r ∧ w'.ownsRow w.heap.size 3 1 r (mRelease M clock).1.length ((mRelease M clock).1.map (Value.int .i64)) ∧ RefAt bm n v (mRelease M clock).2 lo w' ∧ Fr (RefAt.has bm v) w w' := by
  have H := hid h
  have HG := hid hgood
  have hlow := h.low
  have hlo : ∀ i, RefAt.has bm v i → i < w.heap.size := fun i hi => h.has_lt hi
  have HLO := hid hlo
  obtain ⟨ao, cap, hrow⟩ := h.open
  have hval := hrow.val
  obtain ⟨N, hN⟩ : ∃ N, M.length = N := ⟨_, rfl⟩
  rw [hN] at hval hlow
  have HN := hid hN
  have HV := hid hval
  have hA0 : RRelAt bm n v M lo clock 0 (.slice none 0 0) w w := ⟨h, World.ownsRow_nil _ _ _ _, Fr.refl _ _⟩
  have HA0 := hid hA0
  obtain ⟨i0, hi, hz0, hz1, hz2⟩ := info_parts int_info
  clear h hgood hlo hrow hval hN hA0
  go_enter Try.func21, Try.ntmps21
  go_wp2_with fail
  go_loopw [5, 6] (fun so si wx => ∃ k : Nat, k ≤ N ∧ si = .int .i64 k ∧ RRelAt bm n v M lo clock k so w wx) (fun _ s _ => N - (intOf s).toNat)
  case atStart => exact ⟨0, by omega, rfl, HA0.out⟩
  case round =>
    obtain ⟨k, hk, rfl, hA⟩ := hrel
    clear HA0
    have HA := hid hA
    have cb : wr.cell? ⟨bm, 1, none⟩ = some (.slice ao N cap) := by rw [cell_of_heap hA.jobs.box, HV.out]; rfl
    by_cases hlt : k < N
    · have hltL : k < M.length := by rw [HN.out]; exact hlt
      have hj := hA.jobs
      rw [relTo_mid clock hltL] at hj
      have hnx := relTo_next clock hltL
      have hni := relIds_next hltL
      rw [relOne] at hnx
      have ht := HG.out _ (List.getElem_mem hltL)
      obtain ⟨t, hT⟩ : ∃ t, (M[k]'hltL) = t := ⟨_, rfl⟩
      rw [hT] at hj hnx hni ht
      have t1 := ht.c0
      have t2 := ht.c1
      obtain ⟨g, cap2, hv2, hob, hfz, hcell⟩ := hj.one
      have hlen : ((M.take k).map (relOne clock)).length = k := by simp; omega
      have hao : ao = some ⟨g, 0, none⟩ := by
        rw [HV.out] at hv2
        exact (Value.slice.inj hv2).1
      subst hao
      rw [hlen] at hcell
      have c3 : wr.cell? ⟨g, k * 11 + 3, none⟩ = some (.bool t.Sp) := hcell 3 _ rfl
      have c5 : wr.cell? ⟨g, k * 11 + 5, none⟩ = some (.bool t.Wt) := hcell 5 _ rfl
      have c6 : wr.cell? ⟨g, k * 11 + 6, none⟩ = some (.bool t.Ac) := hcell 6 _ rfl
      have i1 : (0 : Int) ≤ (k : Int) := by omega
      have i2 : (k : Int) < (N : Int) := by omega
      have HO := hid hj
      have HOB := hid hob
      have HNX := hid hnx
      have HNI := hid hni
      have HLT := hid hlen
      clear hA hcell hj ht hnx hni hT hv2 hob hfz hlen
      cases hac : t.Ac <;> cases hsp : t.Sp <;> cases hwt : t.Wt <;> simp only [hac, hsp, hwt] at c3 c5 c6
      · obtain ⟨wr6, hd, h6, hfr6⟩ := HO.out.deeds HOB.out clock
        rw [HLT.out] at hd
        obtain ⟨wr1, wr2, wr3, wr4, wr5, w1', w2', w3', w4', w5', w6', d6, d5, d7, d8, d9, d10, f6, f5, f7, f8, f9, f10, c0⟩ := hd
        have W1 := hid w1'
        have W2 := hid w2'
        have W3 := hid w3'
        have W4 := hid w4'
        have W5 := hid w5'
        have W6 := hid w6'
        have H6 := hid h6
        have HFR6 := hid hfr6
        clear w1' w2' w3' w4' w5' w6' h6 hfr6
        go_upto_region 7 with fail
        go_upto_region 9 with (with_reducible (show wpList _ _ _ (⟨_, Op.store _ _ _, _, _, _, _⟩ :: _) _ _); first | (refine wpList_store_cell rfl _ _ _ rfl _ _ (.bool true) _ rfl rfl rfl (by with_reducible assumption) (by with_reducible assumption) (by first | with_reducible exact size4 | with_reducible exact size3) ?_; (first | rw [← W1.out])) | (refine wpList_store_cell rfl _ _ _ rfl _ _ (.bool false) _ rfl rfl rfl (by with_reducible assumption) (by with_reducible assumption) (by first | with_reducible exact size4 | with_reducible exact size3) ?_; (first | rw [← W2.out] | rw [← W5.out])) | (refine wpList_store_cell rfl _ _ _ rfl _ _ (.int .i64 0) _ rfl rfl rfl (by with_reducible assumption) (by with_reducible assumption) (by first | with_reducible exact size4 | with_reducible exact size3) ?_; (first | rw [← W4.out])) | (refine wpList_store_cell rfl _ _ _ rfl _ _ (.int .i64 clock) _ rfl rfl rfl (by with_reducible assumption) (by with_reducible assumption) (by first | with_reducible exact size4 | with_reducible exact size3) ?_; (first | rw [← W3.out])) | (refine wpList_store_cell rfl _ _ _ rfl _ _ (.int .i64 (t.Ct + 1)) _ rfl rfl rfl (by with_reducible assumption) (by with_reducible assumption) (by first | with_reducible exact size4 | with_reducible exact size3) ?_; (first | rw [← W6.out])))
        have hout6 : wr6.ownsRow w.heap.size 3 1 u5 (relIds M k).length ((relIds M k).map (Value.int .i64)) := row_kept HA.out.out HFR6.out (fun i hi hb => by have := HLO.out i hb; omega)
        have hrk := relIds_le M k
        have hml : (relIds M k).length + 1 ≤ maxLen := by unfold maxLen; omega
        clear d5 d6 d7 d8 d9 d10 f5 f6 f7 f8 f9 f10 W1 W2 W3 W4 W5 W6 cb
        go_wp2_with (at_builtin; refine wpList_append_lies _ rfl (.tmp 63) (.tmp 68) 28 rfl w.heap.size 3 i0 (.int .i64 0) 1 8 Try.underlying28 hi hz0 hz1 hz2 rfl (by decide) _ _ _ rfl (hout6.alloc _) ⟨wr6.heap.size, 0, none⟩ 1 1 [.int .i64 t.ID] rfl rfl ?c1 ?c2 ?c3 ?c4 ?c5 ?c6 _ rfl ?_)
        case c1 => exact World.news_of_block (cs := #[.int .i64 t.ID]) (t := 3) (fr := (0, 0)) (heap_alloc_new wr6 _)
        case c2 => simp [Value.oneCell']
        case c3 => omega
        case c4 => exact hml
        case c5 => omega
        case c6 =>
          have h1 := HA.out.fr.size
          have h2 := HFR6.out.size
          simp
          omega
        intro g' cap' w7 hown7 hg7 hat7 hlt7
        have hfr7 : Fr (fun i => w.heap.size ≤ i) wr6 w7 := (Fr.alloc _ _ _).trans (Fr.of_grown hg7 (fun i hi => (hout6.lt i hi).1))
        have hj7 := H6.out.kept hfr7 (fun i hb hi => by have := HLO.out i hb; omega)
        have hres : RRelAt bm n v M lo clock (k + 1) (.slice (some ⟨g', 0, none⟩) ((relIds M k).length + 1) cap') w w7 := by
          refine ⟨?_, ?_, ?_⟩
          · rw [HNX.out]
            simpa [rest, hac, hsp, hwt] using hj7
          · rw [HNI.out]
            simpa [rest, hac, hsp, hwt] using hown7
          · refine (HA.out.fr.trans HFR6.out).then hfr7 (fun i hi => .inr hi)
        have HRES := hid hres
        clear hres hj7 hfr7 hown7 hg7 hat7 hout6 c0
        go_wp2_with fail
        go_roundw
        case rel => exact ⟨k + 1, by omega, by go_num, HRES.out⟩
        case measure => simp [intOf]; omega
      · obtain ⟨wr6, hd, h6, hfr6⟩ := HO.out.deeds HOB.out clock
        rw [HLT.out] at hd
        obtain ⟨wr1, wr2, wr3, wr4, wr5, w1', w2', w3', w4', w5', w6', d6, d5, d7, d8, d9, d10, f6, f5, f7, f8, f9, f10, c0⟩ := hd
        have W1 := hid w1'
        have W2 := hid w2'
        have W3 := hid w3'
        have W4 := hid w4'
        have W5 := hid w5'
        have W6 := hid w6'
        have H6 := hid h6
        have HFR6 := hid hfr6
        clear w1' w2' w3' w4' w5' w6' h6 hfr6
        go_upto_region 7 with fail
        go_upto_region 9 with (with_reducible (show wpList _ _ _ (⟨_, Op.store _ _ _, _, _, _, _⟩ :: _) _ _); first | (refine wpList_store_cell rfl _ _ _ rfl _ _ (.bool true) _ rfl rfl rfl (by with_reducible assumption) (by with_reducible assumption) (by first | with_reducible exact size4 | with_reducible exact size3) ?_; (first | rw [← W1.out])) | (refine wpList_store_cell rfl _ _ _ rfl _ _ (.bool false) _ rfl rfl rfl (by with_reducible assumption) (by with_reducible assumption) (by first | with_reducible exact size4 | with_reducible exact size3) ?_; (first | rw [← W2.out] | rw [← W5.out])) | (refine wpList_store_cell rfl _ _ _ rfl _ _ (.int .i64 0) _ rfl rfl rfl (by with_reducible assumption) (by with_reducible assumption) (by first | with_reducible exact size4 | with_reducible exact size3) ?_; (first | rw [← W4.out])) | (refine wpList_store_cell rfl _ _ _ rfl _ _ (.int .i64 clock) _ rfl rfl rfl (by with_reducible assumption) (by with_reducible assumption) (by first | with_reducible exact size4 | with_reducible exact size3) ?_; (first | rw [← W3.out])) | (refine wpList_store_cell rfl _ _ _ rfl _ _ (.int .i64 (t.Ct + 1)) _ rfl rfl rfl (by with_reducible assumption) (by with_reducible assumption) (by first | with_reducible exact size4 | with_reducible exact size3) ?_; (first | rw [← W6.out])))
        have hout6 : wr6.ownsRow w.heap.size 3 1 u5 (relIds M k).length ((relIds M k).map (Value.int .i64)) := row_kept HA.out.out HFR6.out (fun i hi hb => by have := HLO.out i hb; omega)
        have hrk := relIds_le M k
        have hml : (relIds M k).length + 1 ≤ maxLen := by unfold maxLen; omega
        clear d5 d6 d7 d8 d9 d10 f5 f6 f7 f8 f9 f10 W1 W2 W3 W4 W5 W6 cb
        go_wp2_with (at_builtin; refine wpList_append_lies _ rfl (.tmp 63) (.tmp 68) 28 rfl w.heap.size 3 i0 (.int .i64 0) 1 8 Try.underlying28 hi hz0 hz1 hz2 rfl (by decide) _ _ _ rfl (hout6.alloc _) ⟨wr6.heap.size, 0, none⟩ 1 1 [.int .i64 t.ID] rfl rfl ?c1 ?c2 ?c3 ?c4 ?c5 ?c6 _ rfl ?_)
        case c1 => exact World.news_of_block (cs := #[.int .i64 t.ID]) (t := 3) (fr := (0, 0)) (heap_alloc_new wr6 _)
        case c2 => simp [Value.oneCell']
        case c3 => omega
        case c4 => exact hml
        case c5 => omega
        case c6 =>
          have h1 := HA.out.fr.size
          have h2 := HFR6.out.size
          simp
          omega
        intro g' cap' w7 hown7 hg7 hat7 hlt7
        have hfr7 : Fr (fun i => w.heap.size ≤ i) wr6 w7 := (Fr.alloc _ _ _).trans (Fr.of_grown hg7 (fun i hi => (hout6.lt i hi).1))
        have hj7 := H6.out.kept hfr7 (fun i hb hi => by have := HLO.out i hb; omega)
        have hres : RRelAt bm n v M lo clock (k + 1) (.slice (some ⟨g', 0, none⟩) ((relIds M k).length + 1) cap') w w7 := by
          refine ⟨?_, ?_, ?_⟩
          · rw [HNX.out]
            simpa [rest, hac, hsp, hwt] using hj7
          · rw [HNI.out]
            simpa [rest, hac, hsp, hwt] using hown7
          · refine (HA.out.fr.trans HFR6.out).then hfr7 (fun i hi => .inr hi)
        have HRES := hid hres
        clear hres hj7 hfr7 hown7 hg7 hat7 hout6 c0
        go_wp2_with fail
        go_roundw
        case rel => exact ⟨k + 1, by omega, by go_num, HRES.out⟩
        case measure => simp [intOf]; omega
      · have hres : RRelAt bm n v M lo clock (k + 1) u5 w wr := by
          refine ⟨?_, ?_, HA.out.fr⟩
          · rw [HNX.out]
            simpa [rest, hac, hsp, hwt] using HO.out
          · rw [HNI.out]
            simpa [rest, hac, hsp, hwt] using HA.out.out
        have HRES := hid hres
        clear hres
        go_wp2_with fail
        go_roundw
        case rel => exact ⟨k + 1, by omega, by go_num, HRES.out⟩
        case measure => simp [intOf]; omega
      · obtain ⟨wr6, hd, h6, hfr6⟩ := HO.out.deeds HOB.out clock
        rw [HLT.out] at hd
        obtain ⟨wr1, wr2, wr3, wr4, wr5, w1', w2', w3', w4', w5', w6', d6, d5, d7, d8, d9, d10, f6, f5, f7, f8, f9, f10, c0⟩ := hd
        have W1 := hid w1'
        have W2 := hid w2'
        have W3 := hid w3'
        have W4 := hid w4'
        have W5 := hid w5'
        have W6 := hid w6'
        have H6 := hid h6
        have HFR6 := hid hfr6
        clear w1' w2' w3' w4' w5' w6' h6 hfr6
        go_upto_region 7 with fail
        go_upto_region 9 with (with_reducible (show wpList _ _ _ (⟨_, Op.store _ _ _, _, _, _, _⟩ :: _) _ _); first | (refine wpList_store_cell rfl _ _ _ rfl _ _ (.bool true) _ rfl rfl rfl (by with_reducible assumption) (by with_reducible assumption) (by first | with_reducible exact size4 | with_reducible exact size3) ?_; (first | rw [← W1.out])) | (refine wpList_store_cell rfl _ _ _ rfl _ _ (.bool false) _ rfl rfl rfl (by with_reducible assumption) (by with_reducible assumption) (by first | with_reducible exact size4 | with_reducible exact size3) ?_; (first | rw [← W2.out] | rw [← W5.out])) | (refine wpList_store_cell rfl _ _ _ rfl _ _ (.int .i64 0) _ rfl rfl rfl (by with_reducible assumption) (by with_reducible assumption) (by first | with_reducible exact size4 | with_reducible exact size3) ?_; (first | rw [← W4.out])) | (refine wpList_store_cell rfl _ _ _ rfl _ _ (.int .i64 clock) _ rfl rfl rfl (by with_reducible assumption) (by with_reducible assumption) (by first | with_reducible exact size4 | with_reducible exact size3) ?_; (first | rw [← W3.out])) | (refine wpList_store_cell rfl _ _ _ rfl _ _ (.int .i64 (t.Ct + 1)) _ rfl rfl rfl (by with_reducible assumption) (by with_reducible assumption) (by first | with_reducible exact size4 | with_reducible exact size3) ?_; (first | rw [← W6.out])))
        have hout6 : wr6.ownsRow w.heap.size 3 1 u5 (relIds M k).length ((relIds M k).map (Value.int .i64)) := row_kept HA.out.out HFR6.out (fun i hi hb => by have := HLO.out i hb; omega)
        have hrk := relIds_le M k
        have hml : (relIds M k).length + 1 ≤ maxLen := by unfold maxLen; omega
        clear d5 d6 d7 d8 d9 d10 f5 f6 f7 f8 f9 f10 W1 W2 W3 W4 W5 W6 cb
        go_wp2_with (at_builtin; refine wpList_append_lies _ rfl (.tmp 63) (.tmp 68) 28 rfl w.heap.size 3 i0 (.int .i64 0) 1 8 Try.underlying28 hi hz0 hz1 hz2 rfl (by decide) _ _ _ rfl (hout6.alloc _) ⟨wr6.heap.size, 0, none⟩ 1 1 [.int .i64 t.ID] rfl rfl ?c1 ?c2 ?c3 ?c4 ?c5 ?c6 _ rfl ?_)
        case c1 => exact World.news_of_block (cs := #[.int .i64 t.ID]) (t := 3) (fr := (0, 0)) (heap_alloc_new wr6 _)
        case c2 => simp [Value.oneCell']
        case c3 => omega
        case c4 => exact hml
        case c5 => omega
        case c6 =>
          have h1 := HA.out.fr.size
          have h2 := HFR6.out.size
          simp
          omega
        intro g' cap' w7 hown7 hg7 hat7 hlt7
        have hfr7 : Fr (fun i => w.heap.size ≤ i) wr6 w7 := (Fr.alloc _ _ _).trans (Fr.of_grown hg7 (fun i hi => (hout6.lt i hi).1))
        have hj7 := H6.out.kept hfr7 (fun i hb hi => by have := HLO.out i hb; omega)
        have hres : RRelAt bm n v M lo clock (k + 1) (.slice (some ⟨g', 0, none⟩) ((relIds M k).length + 1) cap') w w7 := by
          refine ⟨?_, ?_, ?_⟩
          · rw [HNX.out]
            simpa [rest, hac, hsp, hwt] using hj7
          · rw [HNI.out]
            simpa [rest, hac, hsp, hwt] using hown7
          · refine (HA.out.fr.trans HFR6.out).then hfr7 (fun i hi => .inr hi)
        have HRES := hid hres
        clear hres hj7 hfr7 hown7 hg7 hat7 hout6 c0
        go_wp2_with fail
        go_roundw
        case rel => exact ⟨k + 1, by omega, by go_num, HRES.out⟩
        case measure => simp [intOf]; omega
      · have hres : RRelAt bm n v M lo clock (k + 1) u5 w wr := by
          refine ⟨?_, ?_, HA.out.fr⟩
          · rw [HNX.out]
            simpa [rest, hac, hsp, hwt] using HO.out
          · rw [HNI.out]
            simpa [rest, hac, hsp, hwt] using HA.out.out
        have HRES := hid hres
        clear hres
        go_wp2_with fail
        go_roundw
        case rel => exact ⟨k + 1, by omega, by go_num, HRES.out⟩
        case measure => simp [intOf]; omega
      · have hres : RRelAt bm n v M lo clock (k + 1) u5 w wr := by
          refine ⟨?_, ?_, HA.out.fr⟩
          · rw [HNX.out]
            simpa [rest, hac, hsp, hwt] using HO.out
          · rw [HNI.out]
            simpa [rest, hac, hsp, hwt] using HA.out.out
        have HRES := hid hres
        clear hres
        go_wp2_with fail
        go_roundw
        case rel => exact ⟨k + 1, by omega, by go_num, HRES.out⟩
        case measure => simp [intOf]; omega
      · have hres : RRelAt bm n v M lo clock (k + 1) u5 w wr := by
          refine ⟨?_, ?_, HA.out.fr⟩
          · rw [HNX.out]
            simpa [rest, hac, hsp, hwt] using HO.out
          · rw [HNI.out]
            simpa [rest, hac, hsp, hwt] using HA.out.out
        have HRES := hid hres
        clear hres
        go_wp2_with fail
        go_roundw
        case rel => exact ⟨k + 1, by omega, by go_num, HRES.out⟩
        case measure => simp [intOf]; omega
      · have hres : RRelAt bm n v M lo clock (k + 1) u5 w wr := by
          refine ⟨?_, ?_, HA.out.fr⟩
          · rw [HNX.out]
            simpa [rest, hac, hsp, hwt] using HO.out
          · rw [HNI.out]
            simpa [rest, hac, hsp, hwt] using HA.out.out
        have HRES := hid hres
        clear hres
        go_wp2_with fail
        go_roundw
        case rel => exact ⟨k + 1, by omega, by go_num, HRES.out⟩
        case measure => simp [intOf]; omega
    · obtain rfl : k = N := by omega
      have hres : wr.ownsRow w.heap.size 3 1 u5 (mRelease M clock).1.length ((mRelease M clock).1.map (Value.int .i64)) ∧ RefAt bm n v (mRelease M clock).2 lo wr ∧ Fr (RefAt.has bm v) w wr := by
        have h1 := HA.out.jobs
        have h2 := HA.out.out
        rw [← HN.out, relTo_all] at h1
        rw [← HN.out, relIds_all clock] at h2
        exact ⟨h2, h1, HA.out.fr⟩
      have HRES := hid hres
      clear hA hres
      go_wp2_with fail
      go_ret
      exact ⟨u5, rfl, HRES.out⟩
end Go.Proofs.Ytajlilcodnkfdaa
