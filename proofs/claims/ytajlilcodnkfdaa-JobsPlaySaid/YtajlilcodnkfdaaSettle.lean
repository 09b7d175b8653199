/-
  jobs.Jobs: Settle.
-/
import Derived.Test.YtajlilcodnkfdaaLoops
namespace Go.Proofs.Ytajlilcodnkfdaa
open Go.Proofs
open Go.RowKit Go.WideMaps

set_option linter.unusedSimpArgs false

def setTo (clock : Int) (L : List T) (k : Nat) : List T := (L.take k).flatMap (step clock) ++ L.drop k
def goneIds (clock : Int) (L : List T) (k : Nat) : List Int := ((L.take k).filter (fun t => due clock t && t.Lv)).map (·.ID)
def badTo (clock : Int) (L : List T) (k : Nat) : Nat := ((L.take k).filter (fun t => due clock t && !(t.Gt == t.E))).length

theorem setTo_mid (clock : Int) {L : List T} {k : Nat} (hk : k < L.length) : setTo clock L k = (L.take k).flatMap (step clock) ++ L[k] :: L.drop (k + 1) := by
  rw [setTo, List.drop_eq_getElem_cons hk]
theorem setTo_next (clock : Int) {L : List T} {k : Nat} (hk : k < L.length) : setTo clock L (k + 1) = (L.take k).flatMap (step clock) ++ (step clock L[k] ++ L.drop (k + 1)) := by
  rw [setTo, take_step hk, List.flatMap_append, List.append_assoc]; simp
theorem goneIds_next (clock : Int) {L : List T} {k : Nat} (hk : k < L.length) : goneIds clock L (k + 1) = goneIds clock L k ++ (if due clock L[k] && L[k].Lv then [L[k].ID] else []) := by
  rw [goneIds, take_step hk, List.filter_append, List.map_append, goneIds]
  cases h : (due clock L[k] && L[k].Lv) <;> simp [h]
theorem badTo_next (clock : Int) {L : List T} {k : Nat} (hk : k < L.length) : badTo clock L (k + 1) = badTo clock L k + (if due clock L[k] && !(L[k].Gt == L[k].E) then 1 else 0) := by
  rw [badTo, take_step hk, List.filter_append, List.length_append, badTo]
  cases h : (due clock L[k] && !(L[k].Gt == L[k].E)) <;> simp [h]
theorem badTo_le (clock : Int) (L : List T) (k : Nat) : badTo clock L k ≤ k := Nat.le_trans (List.length_filter_le _ _) (by simp; omega)
theorem goneIds_le (clock : Int) (L : List T) (k : Nat) : (goneIds clock L k).length ≤ k := by
  unfold goneIds
  rw [List.length_map]
  exact Nat.le_trans (List.length_filter_le _ _) (by simp; omega)

theorem row_apart {w w' : World} {base n size : Nat} {e : TypeId} {v : Value} {xs : List Value} (h : w.ownsRow base e size v n xs) {S : Nat → Prop} (hf : Fr S w w') (hs : ∀ g, v.ownBlock = some g → ¬ S g) : w'.ownsRow base e size v n xs := by
  refine ⟨h.1, ?_⟩
  rcases h.2 with h | ⟨g, cap, cur, hv, hb, hg, r⟩
  · exact .inl h
  · exact .inr ⟨g, cap, cur, hv, hb, hf.heap hg (hs g (by rw [hv]; rfl)), r⟩

structure SetAt (b : JB) (n : Nat) (L : List T) (clock : Int) (k : Nat) (v : Value) (w1 : World) (b' : JB) (wx : World) : Prop where
  jobs : JobsIs b' n (setTo clock L k) wx
  out : wx.ownsRow w1.heap.size 3 1 v (goneIds clock L k).length ((goneIds clock L k).map (Value.int .i64))
  went : Went b b' w1 wx
  apart : ∀ g, v.ownBlock = some g → ¬ b'.has g

def Deeds4 (b : JB) (s : Nat) (t : T) (w w4 : World) : Prop := ∃ w1 w2 w3 : World,
  w1 = w.setCell ⟨b.bt, s * 11 + 6, none⟩ (.bool false) ∧ w2 = w1.setCell ⟨b.bt, s * 11 + 7, none⟩ (.int .i64 0) ∧
  w3 = w2.setCell ⟨b.bt, s * 11 + 8, none⟩ (.int .i64 0) ∧ w4 = w3.setCell ⟨b.bt, s * 11 + 9, none⟩ (.bool false) ∧
  w.cell? ⟨b.bt, s * 11 + 6, none⟩ = some (.bool t.Ac) ∧ w1.cell? ⟨b.bt, s * 11 + 7, none⟩ = some (.int .i64 t.Rl) ∧
  w2.cell? ⟨b.bt, s * 11 + 8, none⟩ = some (.int .i64 t.Gt) ∧ w3.cell? ⟨b.bt, s * 11 + 9, none⟩ = some (.bool t.Dn) ∧
  w.frozen? ⟨b.bt, s * 11 + 6, none⟩ = false ∧ w1.frozen? ⟨b.bt, s * 11 + 7, none⟩ = false ∧
  w2.frozen? ⟨b.bt, s * 11 + 8, none⟩ = false ∧ w3.frozen? ⟨b.bt, s * 11 + 9, none⟩ = false ∧ w4.cell? ⟨b.bt, s * 11 + 4, none⟩ = some (.bool t.Lv) ∧ Fr b.has w w4
theorem One.deeds4 {b : JB} {n : Nat} {A B : List T} {t : T} {s : Nat} {w : World} (h : One b n A B s t w) : ∃ w4, Deeds4 b s t w w4 ∧ One b n A B s (ended t) w4 := by
  have o1 := h.put (t' := { t with Ac := false }) rfl (j := 6) (by omega) (v := .bool false) rfl
  have o2 := o1.put (t' := { t with Ac := false, Rl := 0 }) rfl (j := 7) (by omega) (v := .int .i64 0) rfl
  have o3 := o2.put (t' := { t with Ac := false, Rl := 0, Gt := 0 }) rfl (j := 8) (by omega) (v := .int .i64 0) rfl
  have o4 := o3.put (t' := ended t) rfl (j := 9) (by omega) (v := .bool false) rfl
  have hb : b.has b.bt := .inr (.inl rfl)
  exact ⟨_, ⟨_, _, _, rfl, rfl, rfl, rfl, h.cell rfl, o1.cell rfl, o2.cell rfl, o3.cell rfl, h.free _, o1.free _, o2.free _, o3.free _, o4.cell rfl,
    (((Fr.set w hb _ _).trans (Fr.set _ hb _ _)).trans (Fr.set _ hb _ _)).trans (Fr.set _ hb _ _)⟩, o4⟩

theorem wp_drawn {P : Program} {c : Code} {K : Exit → Act → World → Prop} {a : Act} (wr : World) {wz : World} (hz : Fr (fun _ => False) wr wz) (h : ∀ wq, Fr (fun _ => False) wr wq → Code.wp P c K a wq) : Code.wp P c K a wz := h _ hz
theorem SetAt.quiet {b : JB} {n : Nat} {L : List T} {clock : Int} {k : Nat} {v : Value} {w1 : World} {b' : JB} {wx wy : World} (h : SetAt b n L clock k v w1 b' wx) (hf : Fr (fun _ => False) wx wy) : SetAt b n L clock k v w1 b' wy :=
  ⟨h.jobs.kept hf (fun _ _ => _root_.id), row_apart h.out hf (fun _ _ => _root_.id), ⟨h.went.fr.trans (hf.mono (fun _ _ h => h.elim)), h.went.new, h.went.same⟩, h.apart⟩
theorem SetAt.drew {b : JB} {n : Nat} {L : List T} {clock : Int} {k : Nat} {v : Value} {w1 : World} {b' : JB} {wx : World} (h : SetAt b n L clock k v w1 b' wx) (q : Nat) : SetAt b n L clock k v w1 b' (wx.drewN q) :=
  ⟨h.jobs.kept (S := fun _ => False) (Fr.drewN _ _ _) (fun _ _ => _root_.id), row_apart h.out (S := fun _ => False) (Fr.drewN _ _ _) (fun _ _ => _root_.id), ⟨h.went.fr.trans (Fr.drewN _ _ _), h.went.new, h.went.same⟩, h.apart⟩

set_option maxRecDepth 100000 in
set_option maxHeartbeats 3200000 in
theorem settle_any {b : JB} {n : Nat} {L : List T} {c : Int} (hgood : Good c L) (clock : Int) (hcl : clock ≤ 1000000000) (w : World) (h : JobsIs b n L w) :
    Calls Try.prog 11 #[.pointer (some ⟨b.pj, 0, none⟩), .int .i64 clock] w fun e w' => ∃ v b', e = .returned (.tuple #[v, .int .i64 (mSettle L clock).1.2]) ∧
      w'.ownsRow w.heap.size 3 1 v (mSettle L clock).1.1.length ((mSettle L clock).1.1.map (Value.int .i64)) ∧ JobsIs b' n (mSettle L clock).2 w' ∧ Went b b' w w' := by
  have HJ := hid h
  have HG := hid hgood
  have hlen := h.length_le
  clear h hgood
  obtain ⟨i0, hi, hz0, hz1, hz2⟩ := info_parts int_info
  go_enter Try.func11, Try.ntmps11
  go_wp2_with fail
  refine (ids_jobs w HJ.out).mono ?_
  rintro e w1 ⟨v, rfl, hown, hg⟩
  have hown' : w1.ownsRow w.heap.size 3 1 v L.length ((L.map (·.ID)).map (Value.int .i64)) := by rw [List.map_map]; exact hown
  obtain ⟨ao, cap, rfl, hrow⟩ := row_of hown' (by omega)
  have hfr1 : Fr (fun _ => False) w w1 := Fr.of_grown hg (fun k hk => by cases hk)
  have hj1 : JobsIs b n L w1 := HJ.out.kept hfr1 (fun _ _ => _root_.id)
  have HR := hid hrow
  have HF1 := hid hfr1
  have hA0 : SetAt b n L clock 0 (.slice none 0 0) w1 b w1 := ⟨hj1, World.ownsRow_nil _ _ _ _, Went.refl _ _, fun g hg => by cases hg⟩
  have HA0 := hid hA0
  clear hown hown' hg hrow hfr1 hj1 hA0
  generalize hN : L.length = N at *
  go_wp2_with fail
  go_loopw [6, 7, 14] (fun so sm si wx => ∃ (k : Nat) (b' : JB), k ≤ N ∧ si = .int .i64 k ∧ sm = .int .i64 (badTo clock L k : Nat) ∧ SetAt b n L clock k so w1 b' wx) (fun _ _ s _ => N - (intOf s).toNat)
  case atStart => exact ⟨0, b, by omega, rfl, rfl, HA0.out⟩
  case round =>
    obtain ⟨k, b', hk, rfl, rfl, hA⟩ := hrel
    clear HA0
    have HA := hid hA
    have hbad := badTo_le clock L k
    by_cases hlt : k < N
    · have hltL : k < L.length := by omega
      obtain ⟨g, rfl, hg1, hg2, hcell⟩ := HR.out.cell k hlt
      have hgk : ∀ i, b.has i → i < w.heap.size := fun i hi => HJ.out.has_lt hi
      have hcell2 : wr.cell? ⟨g, k, none⟩ = some (.int .i64 L[k].ID) := by
        have := hA.went.fr.cell hcell (fun hb => by have := hgk g hb; omega)
        rw [this]
        simp [List.getD, hltL]
      have hj := hA.jobs
      rw [setTo_mid clock hltL] at hj
      obtain ⟨s, hone⟩ := hj.one
      have ht := HG.out L[k] (List.getElem_mem hltL)
      have t1 := ht.r0
      have t2 := ht.r1
      have t3 := ht.p1
      have t4 := ht.e1
      have t5 := ht.ep
      have hnx := setTo_next clock hltL
      have hni := goneIds_next clock hltL
      have hnb := badTo_next clock hltL
      generalize hT : L[k] = t at *
      have c1 : wr.cell? ⟨b'.bt, s * 11 + 1, none⟩ = some (.int .i64 t.E) := hone.cell rfl
      have c2 : wr.cell? ⟨b'.bt, s * 11 + 2, none⟩ = some (.int .i64 t.P) := hone.cell rfl
      have c6 : wr.cell? ⟨b'.bt, s * 11 + 6, none⟩ = some (.bool t.Ac) := hone.cell rfl
      have c7 : wr.cell? ⟨b'.bt, s * 11 + 7, none⟩ = some (.int .i64 t.Rl) := hone.cell rfl
      have c8 : wr.cell? ⟨b'.bt, s * 11 + 8, none⟩ = some (.int .i64 t.Gt) := hone.cell rfl
      have HO := hid hone
      have HNX := hid hnx
      have HNI := hid hni
      have HNB := hid hnb
      have HC := hid hT
      clear hA hcell hj hone ht hnx hni hnb hT
      have hpj : b'.pj = b.pj := HA.out.went.same
      have hget := HO.out.get
      rw [hpj] at hget
      have HGET := hid hget
      clear hget
      cases hac : t.Ac
      · have hdue : True := trivial
        have hres : SetAt b n L clock (k + 1) u6 w1 b' wr := by
          refine ⟨?_, ?_, HA.out.went, HA.out.apart⟩
          · rw [HNX.out]
            simpa [step, due, hac, hdue] using HO.out.jobs
          · rw [HNI.out]
            simpa [due, hac, hdue] using HA.out.out
        have hnb2 : badTo clock L (k + 1) = badTo clock L k := by
          rw [HNB.out]
          simp [due, hac, hdue]
        have HRES := hid hres
        have HB2 := hid hnb2
        clear hres hnb2
        simp only [hac] at c6
        go_wp2_with fail
        refine (HGET.out).mono ?_
        rintro e w' ⟨rfl, hw⟩
        have hw := hw.symm; subst hw
        go_upto_region 7 with fail
        go_quiet (fail)
        go_wp2_with fail
        go_roundw
        case rel => exact ⟨k + 1, b', by omega, by go_num, by rw [HB2.out], HRES.out.drew _⟩
        case measure => simp [intOf]; omega
      · by_cases hdue : t.Rl + t.P ≤ clock
        · cases hge : (t.Gt == t.E)
          · have hnb2 : badTo clock L (k + 1) = badTo clock L k + 1 := by
              rw [HNB.out]
              simp [due, hac, hdue, hge]
            have HB2 := hid hnb2
            clear hnb2
            have hne : decide (t.Gt = t.E) = (t.Gt == t.E) := rfl
            rw [hge] at hne
            simp only [hac] at c6
            go_wp2_with fail
            refine (HGET.out).mono ?_
            rintro e w' ⟨rfl, hw⟩
            have hw := hw.symm; subst hw
            go_upto_region 7 with fail
            go_quiet (fail)
            go_upto_region 8 with fail
            go_quiet (fail)
            go_upto_region 10 with fail
            refine wp_drawn wr (by repeat (first | exact Fr.refl _ _ | exact Fr.drewN _ _ _ | exact Fr.drew _ _ | refine Fr.trans ?_ (Fr.drewN _ _ _) | refine Fr.trans ?_ (Fr.drew _ _))) ?_
            rintro wq hq
            have hoq : One b' n ((L.take k).flatMap (step clock)) (L.drop (k + 1)) s t wq := HO.out.kept hq (fun _ _ => _root_.id)
            have haq : SetAt b n L clock k u6 w1 b' wq := HA.out.quiet hq
            have HAQ := hid haq
            obtain ⟨wr4, ⟨wr1, wr2, wr3, w1', w2', w3', w4', d6, d7, d8, d9, f6, f7, f8, f9, d4, hfr4⟩, h4⟩ := hoq.deeds4
            have W1 := hid w1'
            have W2 := hid w2'
            have W3 := hid w3'
            have W4 := hid w4'
            have H4 := hid h4
            have HFR4 := hid hfr4
            clear w1' w2' w3' w4' h4 hfr4 hoq haq hq c1 c2 c6 c7 c8 hne
            go_upto_region 11 with (with_reducible (show wpList _ _ _ (⟨_, Op.store _ _ _, _, _, _, _⟩ :: _) _ _); first | (refine wpList_store_cell rfl _ _ _ rfl _ _ (.bool false) _ rfl rfl rfl (by with_reducible assumption) (by with_reducible assumption) (by first | with_reducible exact size4 | with_reducible exact size3) ?_; (first | rw [← W1.out] | rw [← W4.out])) | (refine wpList_store_cell rfl _ _ _ rfl _ _ (.int .i64 0) _ rfl rfl rfl (by with_reducible assumption) (by with_reducible assumption) (by first | with_reducible exact size4 | with_reducible exact size3) ?_; (first | rw [← W2.out] | rw [← W3.out])))
            clear d6 d7 d8 d9 f6 f7 f8 f9 W1 W2 W3 W4
            cases hlv : t.Lv <;> rw [hlv] at d4
            · have hfrs : Went b b' w1 wr4 := HAQ.out.went.trans ⟨HFR4.out, fun _ h => .inl h, rfl⟩
              have hres : SetAt b n L clock (k + 1) u6 w1 b' wr4 := by
                refine ⟨?_, ?_, hfrs, HAQ.out.apart⟩
                · rw [HNX.out]
                  simpa [step, due, hac, hdue, hlv] using H4.out.jobs
                · rw [HNI.out]
                  simpa [due, hac, hdue, hlv] using row_apart HAQ.out.out HFR4.out HAQ.out.apart
              have HRES := hid hres
              clear hres hfrs
              go_wp2_with fail
              go_roundw
              case rel => exact ⟨k + 1, b', by omega, by go_num, by first | (rw [HB2.out]; done) | (rw [HB2.out]; rfl) | (rw [HB2.out]; simp), HRES.out⟩
              case measure => simp [intOf]; omega
            · have hfnd := find_mid H4.out.jobs.rising
              have hdel := delT_mid H4.out.jobs.rising
              have hwf4 := H4.out.jobs.wf (t := ended t) (by simp)
              have hgo := gone_any t.ID hwf4 (ended t) hfnd wr4 H4.out.jobs
              rw [hpj, show delT _ t.ID = _ from hdel] at hgo
              have HGO := hid hgo
              clear hfnd hdel hwf4 hgo
              go_wp2_with fail
              refine (HGO.out).mono ?_
              rintro e w5 ⟨rfl, b2, hj5, hw5⟩
              have hwent5 : Went b b2 w1 w5 := (HAQ.out.went.trans ⟨HFR4.out, fun _ h => .inl h, rfl⟩).trans hw5
              have hout5 : w5.ownsRow w1.heap.size 3 1 u6 (goneIds clock L k).length ((goneIds clock L k).map (Value.int .i64)) :=
                row_apart (row_apart HAQ.out.out HFR4.out HAQ.out.apart) hw5.fr HAQ.out.apart
              have hap5 : ∀ g, u6.ownBlock = some g → ¬ b2.has g := by
                intro g hg hb
                rcases hw5.new g hb with h | h
                · exact HAQ.out.apart g hg h
                · have := (row_apart HAQ.out.out HFR4.out HAQ.out.apart).lt g hg
                  omega
              have HJ5 := hid hj5
              have HW5 := hid hwent5
              have HAP5 := hid hap5
              have hrk := goneIds_le clock L k
              have hml : (goneIds clock L k).length + 1 ≤ maxLen := by unfold maxLen; omega
              clear hj5 hwent5 hap5 hw5
              go_wp2_with (at_builtin; refine wpList_append_lies _ rfl (.tmp 69) (.tmp 71) 28 rfl w1.heap.size 3 i0 (.int .i64 0) 1 8 Try.underlying28 hi hz0 hz1 hz2 rfl (by decide) _ _ _ rfl (hout5.alloc _) ⟨w5.heap.size, 0, none⟩ 1 1 [.int .i64 t.ID] rfl rfl ?c1 ?c2 ?c3 ?c4 ?c5 ?c6 _ rfl ?_)
              case c1 => exact World.news_of_block (cs := #[.int .i64 t.ID]) (t := 3) (fr := (0, 0)) (heap_alloc_new w5 _)
              case c2 => simp [Value.oneCell']
              case c3 => omega
              case c4 => exact hml
              case c5 => omega
              case c6 =>
                have h1 := HW5.out.fr.size
                simp
                omega
              intro g' cap' w7 hown7 hg7 hat7 hlt7
              have hfr7 : Fr (fun i => u6.ownBlock = some i) w5 w7 := (Fr.alloc _ _ _).trans (Fr.of_grown hg7 (fun i hi => hi))
              have hj7 := HJ5.out.kept hfr7 (fun i hb hi => HAP5.out i hi hb)
              have hres : SetAt b n L clock (k + 1) (.slice (some ⟨g', 0, none⟩) ((goneIds clock L k).length + 1) cap') w1 b2 w7 := by
                refine ⟨?_, ?_, ?_, ?_⟩
                · rw [HNX.out]
                  simpa [step, due, hac, hdue, hlv] using hj7
                · rw [HNI.out]
                  simpa [due, hac, hdue, hlv] using hown7
                · refine ⟨?_, HW5.out.new, HW5.out.same⟩
                  exact HW5.out.fr.then hfr7 (fun i hi => .inr (hout5.lt i hi).1)
                · rintro i hi hb
                  have e : i = g' := by simpa [Value.ownBlock] using hi.symm
                  subst e
                  rcases hat7 with h | h
                  · exact HAP5.out _ h hb
                  · have := HJ5.out.has_lt hb
                    first | omega | (simp at h; omega)
              have HRES := hid hres
              clear hres hj7 hfr7 hown7 hg7 hat7 hout5
              go_wp2_with fail
              go_roundw
              case rel => exact ⟨k + 1, b2, by omega, by go_num, by first | (rw [HB2.out]; done) | (rw [HB2.out]; rfl) | (rw [HB2.out]; simp), HRES.out⟩
              case measure => simp [intOf]; omega
          · have hnb2 : badTo clock L (k + 1) = badTo clock L k := by
              rw [HNB.out]
              simp [due, hac, hdue, hge]
            have HB2 := hid hnb2
            clear hnb2
            have hne : decide (t.Gt = t.E) = (t.Gt == t.E) := rfl
            rw [hge] at hne
            simp only [hac] at c6
            go_wp2_with fail
            refine (HGET.out).mono ?_
            rintro e w' ⟨rfl, hw⟩
            have hw := hw.symm; subst hw
            go_upto_region 7 with fail
            go_quiet (fail)
            go_upto_region 8 with fail
            go_quiet (fail)
            go_upto_region 10 with fail
            refine wp_drawn wr (by repeat (first | exact Fr.refl _ _ | exact Fr.drewN _ _ _ | exact Fr.drew _ _ | refine Fr.trans ?_ (Fr.drewN _ _ _) | refine Fr.trans ?_ (Fr.drew _ _))) ?_
            rintro wq hq
            have hoq : One b' n ((L.take k).flatMap (step clock)) (L.drop (k + 1)) s t wq := HO.out.kept hq (fun _ _ => _root_.id)
            have haq : SetAt b n L clock k u6 w1 b' wq := HA.out.quiet hq
            have HAQ := hid haq
            obtain ⟨wr4, ⟨wr1, wr2, wr3, w1', w2', w3', w4', d6, d7, d8, d9, f6, f7, f8, f9, d4, hfr4⟩, h4⟩ := hoq.deeds4
            have W1 := hid w1'
            have W2 := hid w2'
            have W3 := hid w3'
            have W4 := hid w4'
            have H4 := hid h4
            have HFR4 := hid hfr4
            clear w1' w2' w3' w4' h4 hfr4 hoq haq hq c1 c2 c6 c7 c8 hne
            go_upto_region 11 with (with_reducible (show wpList _ _ _ (⟨_, Op.store _ _ _, _, _, _, _⟩ :: _) _ _); first | (refine wpList_store_cell rfl _ _ _ rfl _ _ (.bool false) _ rfl rfl rfl (by with_reducible assumption) (by with_reducible assumption) (by first | with_reducible exact size4 | with_reducible exact size3) ?_; (first | rw [← W1.out] | rw [← W4.out])) | (refine wpList_store_cell rfl _ _ _ rfl _ _ (.int .i64 0) _ rfl rfl rfl (by with_reducible assumption) (by with_reducible assumption) (by first | with_reducible exact size4 | with_reducible exact size3) ?_; (first | rw [← W2.out] | rw [← W3.out])))
            clear d6 d7 d8 d9 f6 f7 f8 f9 W1 W2 W3 W4
            cases hlv : t.Lv <;> rw [hlv] at d4
            · have hfrs : Went b b' w1 wr4 := HAQ.out.went.trans ⟨HFR4.out, fun _ h => .inl h, rfl⟩
              have hres : SetAt b n L clock (k + 1) u6 w1 b' wr4 := by
                refine ⟨?_, ?_, hfrs, HAQ.out.apart⟩
                · rw [HNX.out]
                  simpa [step, due, hac, hdue, hlv] using H4.out.jobs
                · rw [HNI.out]
                  simpa [due, hac, hdue, hlv] using row_apart HAQ.out.out HFR4.out HAQ.out.apart
              have HRES := hid hres
              clear hres hfrs
              go_wp2_with fail
              go_roundw
              case rel => exact ⟨k + 1, b', by omega, by go_num, by first | (rw [HB2.out]; done) | (rw [HB2.out]; rfl) | (rw [HB2.out]; simp), HRES.out⟩
              case measure => simp [intOf]; omega
            · have hfnd := find_mid H4.out.jobs.rising
              have hdel := delT_mid H4.out.jobs.rising
              have hwf4 := H4.out.jobs.wf (t := ended t) (by simp)
              have hgo := gone_any t.ID hwf4 (ended t) hfnd wr4 H4.out.jobs
              rw [hpj, show delT _ t.ID = _ from hdel] at hgo
              have HGO := hid hgo
              clear hfnd hdel hwf4 hgo
              go_wp2_with fail
              refine (HGO.out).mono ?_
              rintro e w5 ⟨rfl, b2, hj5, hw5⟩
              have hwent5 : Went b b2 w1 w5 := (HAQ.out.went.trans ⟨HFR4.out, fun _ h => .inl h, rfl⟩).trans hw5
              have hout5 : w5.ownsRow w1.heap.size 3 1 u6 (goneIds clock L k).length ((goneIds clock L k).map (Value.int .i64)) :=
                row_apart (row_apart HAQ.out.out HFR4.out HAQ.out.apart) hw5.fr HAQ.out.apart
              have hap5 : ∀ g, u6.ownBlock = some g → ¬ b2.has g := by
                intro g hg hb
                rcases hw5.new g hb with h | h
                · exact HAQ.out.apart g hg h
                · have := (row_apart HAQ.out.out HFR4.out HAQ.out.apart).lt g hg
                  omega
              have HJ5 := hid hj5
              have HW5 := hid hwent5
              have HAP5 := hid hap5
              have hrk := goneIds_le clock L k
              have hml : (goneIds clock L k).length + 1 ≤ maxLen := by unfold maxLen; omega
              clear hj5 hwent5 hap5 hw5
              go_wp2_with (at_builtin; refine wpList_append_lies _ rfl (.tmp 69) (.tmp 71) 28 rfl w1.heap.size 3 i0 (.int .i64 0) 1 8 Try.underlying28 hi hz0 hz1 hz2 rfl (by decide) _ _ _ rfl (hout5.alloc _) ⟨w5.heap.size, 0, none⟩ 1 1 [.int .i64 t.ID] rfl rfl ?c1 ?c2 ?c3 ?c4 ?c5 ?c6 _ rfl ?_)
              case c1 => exact World.news_of_block (cs := #[.int .i64 t.ID]) (t := 3) (fr := (0, 0)) (heap_alloc_new w5 _)
              case c2 => simp [Value.oneCell']
              case c3 => omega
              case c4 => exact hml
              case c5 => omega
              case c6 =>
                have h1 := HW5.out.fr.size
                simp
                omega
              intro g' cap' w7 hown7 hg7 hat7 hlt7
              have hfr7 : Fr (fun i => u6.ownBlock = some i) w5 w7 := (Fr.alloc _ _ _).trans (Fr.of_grown hg7 (fun i hi => hi))
              have hj7 := HJ5.out.kept hfr7 (fun i hb hi => HAP5.out i hi hb)
              have hres : SetAt b n L clock (k + 1) (.slice (some ⟨g', 0, none⟩) ((goneIds clock L k).length + 1) cap') w1 b2 w7 := by
                refine ⟨?_, ?_, ?_, ?_⟩
                · rw [HNX.out]
                  simpa [step, due, hac, hdue, hlv] using hj7
                · rw [HNI.out]
                  simpa [due, hac, hdue, hlv] using hown7
                · refine ⟨?_, HW5.out.new, HW5.out.same⟩
                  exact HW5.out.fr.then hfr7 (fun i hi => .inr (hout5.lt i hi).1)
                · rintro i hi hb
                  have e : i = g' := by simpa [Value.ownBlock] using hi.symm
                  subst e
                  rcases hat7 with h | h
                  · exact HAP5.out _ h hb
                  · have := HJ5.out.has_lt hb
                    first | omega | (simp at h; omega)
              have HRES := hid hres
              clear hres hj7 hfr7 hown7 hg7 hat7 hout5
              go_wp2_with fail
              go_roundw
              case rel => exact ⟨k + 1, b2, by omega, by go_num, by first | (rw [HB2.out]; done) | (rw [HB2.out]; rfl) | (rw [HB2.out]; simp), HRES.out⟩
              case measure => simp [intOf]; omega
        · have hres : SetAt b n L clock (k + 1) u6 w1 b' wr := by
            refine ⟨?_, ?_, HA.out.went, HA.out.apart⟩
            · rw [HNX.out]
              simpa [step, due, hac, hdue] using HO.out.jobs
            · rw [HNI.out]
              simpa [due, hac, hdue] using HA.out.out
          have hnb2 : badTo clock L (k + 1) = badTo clock L k := by
            rw [HNB.out]
            simp [due, hac, hdue]
          have HRES := hid hres
          have HB2 := hid hnb2
          clear hres hnb2
          simp only [hac] at c6
          go_wp2_with fail
          refine (HGET.out).mono ?_
          rintro e w' ⟨rfl, hw⟩
          have hw := hw.symm; subst hw
          go_upto_region 7 with fail
          go_quiet (fail)
          go_wp2_with fail
          go_roundw
          case rel => exact ⟨k + 1, b', by omega, by go_num, by rw [HB2.out], HRES.out.drew _⟩
          case measure => simp [intOf]; omega
    · obtain rfl : k = N := by omega
      have hres : wr.ownsRow w.heap.size 3 1 u6 (mSettle L clock).1.1.length ((mSettle L clock).1.1.map (Value.int .i64)) ∧ JobsIs b' n (mSettle L clock).2 wr ∧ Went b b' w wr ∧ badTo clock L k = ((mSettle L clock).1.2).toNat := by
        have h1 := HA.out.jobs
        have h2 := HA.out.out
        rw [← hN, setTo, List.take_length, List.drop_length, List.append_nil] at h1
        rw [← hN, goneIds, List.take_length] at h2
        refine ⟨World.ownsRow.mono h2 HF1.out.size, h1, ?_, ?_⟩
        · exact ⟨(HF1.out.mono (fun _ _ h => h.elim)).trans HA.out.went.fr, fun i hi => (HA.out.went.new i hi).elim .inl (fun h => .inr (Nat.le_trans HF1.out.size h)), HA.out.went.same⟩
        · rw [← hN, badTo, List.take_length]; rfl
      have hbe : ((badTo clock L k : Nat) : Int) = (mSettle L clock).1.2 := by
        rw [← hN, badTo, List.take_length]; rfl
      have HRES := hid hres
      have HBE := hid hbe
      clear hA hres hbe
      go_wp2_with fail
      go_ret2
      exact ⟨u6, b', by rw [← HBE.out]; rfl, HRES.out.1, HRES.out.2.1, HRES.out.2.2.1⟩
end Go.Proofs.Ytajlilcodnkfdaa
