/-
  A table of one's own: each call's contract, the blocks hidden; two rows of numbers compared.
-/
import Derived.Test.YtajlilcodnkfdaaMake
namespace Go.Proofs.Ytajlilcodnkfdaa
open Go.Proofs
open Go.RowKit Go.WideMaps

set_option linter.unusedSimpArgs false

/-- A table that this call made: nothing older than w0 was touched. -/
structure Own (b : JB) (n : Nat) (L : List T) (w0 w : World) : Prop where
  jobs : JobsIs b n L w
  ge : ∀ k, b.has k → w0.heap.size ≤ k
  fr : Fr (fun _ => False) w0 w
theorem Own.went {n : Nat} {L L' : List T} {w0 w w' : World} {b b' : JB} (h : Own b n L w0 w) (hj : JobsIs b' n L' w') (hw : Went b b' w w') : Own b' n L' w0 w' :=
  ⟨hj, fun k hk => (hw.new k hk).elim (h.ge k) (fun e => Nat.le_trans h.fr.size e), h.fr.then hw.fr (fun i hi => .inr (h.ge i hi))⟩
theorem Own.kept {b : JB} {n : Nat} {L : List T} {w0 w w' : World} (h : Own b n L w0 w) {S : Nat → Prop} (hf : Fr S w w') (hs : ∀ k, b.has k → ¬ S k) (h0 : ∀ k, S k → w0.heap.size ≤ k) : Own b n L w0 w' :=
  ⟨h.jobs.kept hf hs, h.ge, h.fr.then hf (fun i hi => .inr (h0 i hi))⟩
theorem Own.quiet {b : JB} {n : Nat} {L : List T} {w0 w w' : World} (h : Own b n L w0 w) (hf : Fr (fun _ => False) w w') : Own b n L w0 w' := h.kept hf (fun _ _ => _root_.id) (fun _ h => h.elim)
theorem Own.lt {b : JB} {n : Nat} {L : List T} {w0 w : World} (h : Own b n L w0 w) {k : Nat} (hk : b.has k) : k < w.heap.size := h.jobs.has_lt hk

/-- A row of numbers that a call handed back: in a block from lo on. -/
def Row (lo : Nat) (v : Value) (xs : List Int) (w : World) : Prop := ∃ ao cap hi, v = .slice ao xs.length cap ∧ RowOf ao xs.length cap lo hi xs w ∧ hi ≤ w.heap.size
theorem Row.of_own {w : World} {base n : Nat} {v : Value} {xs : List Int} (h : w.ownsRow base 3 1 v n (xs.map (Value.int .i64))) (hn : n ≤ 1000000) : Row base v xs w := by
  have hl : xs.length = n := by simpa using h.1
  subst hl
  obtain ⟨ao, cap, h1, h2⟩ := row_of h hn
  exact ⟨ao, cap, _, h1, h2, Nat.le_refl _⟩
theorem Row.kept {lo : Nat} {v : Value} {xs : List Int} {w w' : World} (h : Row lo v xs w) {S : Nat → Prop} (hf : Fr S w w') (hs : ∀ k, lo ≤ k → ¬ S k) : Row lo v xs w' := by
  obtain ⟨ao, cap, hi, h1, h2, h3⟩ := h
  exact ⟨ao, cap, hi, h1, h2.kept hf (fun k hk _ => hs k hk), Nat.le_trans h3 hf.size⟩
theorem Row.quiet {lo : Nat} {v : Value} {xs : List Int} {w w' : World} (h : Row lo v xs w) (hf : Fr (fun _ => False) w w') : Row lo v xs w' := h.kept hf (fun _ _ => _root_.id)

theorem own_new (x : Int) (n : Nat) (hn : n ≤ 4096) (hx : min (max x 0) 4096 = (n : Int)) (w0 w : World) (hf : Fr (fun _ => False) w0 w) :
    Calls Try.prog 8 #[.int .i64 x] w fun e w' => ∃ b : JB, e = .returned (.pointer (some ⟨b.pj, 0, none⟩)) ∧ Own b n [] w0 w' ∧ (∀ k, b.has k → w.heap.size ≤ k) ∧ Fr (fun _ => False) w w' :=
  (jobs_new x n hn hx w).mono fun _ _ ⟨b, h1, h2, h3, h4⟩ => ⟨b, h1, ⟨h2, fun k hk => Nat.le_trans hf.size (h3 k hk), hf.trans h4⟩, h3, h4⟩
theorem own_join {b : JB} {n : Nat} {L : List T} {w0 w : World} (h : Own b n L w0 w) (id E P : Int) (sp : Bool) (hwf : (Lit.int .i64 id).wf = true) :
    Calls Try.prog 9 #[.pointer (some ⟨b.pj, 0, none⟩), .int .i64 id, .int .i64 E, .int .i64 P, .bool sp] w fun e w' => e = .returned (.int .i64 (mJoin n L id E P sp).1) ∧ Own b n (mJoin n L id E P sp).2 w0 w' ∧ Went b b w w' :=
  (join_any id E P sp hwf w h.jobs).mono fun _ _ ⟨h1, h5, h6⟩ => ⟨h1, h.went h5 h6, h6⟩
theorem own_leave {b : JB} {n : Nat} {L : List T} {w0 w : World} (h : Own b n L w0 w) (id : Int) (hwf : (Lit.int .i64 id).wf = true) :
    Calls Try.prog 12 #[.pointer (some ⟨b.pj, 0, none⟩), .int .i64 id] w fun e w' => e = .returned (.tuple #[.bool (mLeave L id).1.1, .int .i64 (mLeave L id).1.2]) ∧ ∃ b', b'.pj = b.pj ∧ Own b' n (mLeave L id).2 w0 w' ∧ Went b b' w w' :=
  (leave_any id hwf w h.jobs).mono fun _ _ ⟨h1, b', h5, h6⟩ => ⟨h1, b', h6.same, h.went h5 h6, h6⟩
theorem own_arrive {b : JB} {n : Nat} {L : List T} {w0 w : World} (h : Own b n L w0 w) (id : Int) (hwf : (Lit.int .i64 id).wf = true) :
    Calls Try.prog 15 #[.pointer (some ⟨b.pj, 0, none⟩), .int .i64 id] w fun e w' => e = .returned (.int .i64 (mArrive L id).1) ∧ Own b n (mArrive L id).2 w0 w' ∧ Went b b w w' :=
  (arrive_any id hwf w h.jobs).mono fun _ _ ⟨h1, h5, h6⟩ => ⟨h1, h.went h5 h6, h6⟩
theorem own_finish {b : JB} {n : Nat} {L : List T} {w0 w : World} (h : Own b n L w0 w) (id : Int) (hwf : (Lit.int .i64 id).wf = true) :
    Calls Try.prog 19 #[.pointer (some ⟨b.pj, 0, none⟩), .int .i64 id] w fun e w' => e = .returned (.int .i64 (mFinish L id).1) ∧ Own b n (mFinish L id).2 w0 w' ∧ Went b b w w' :=
  (finish_any id hwf w h.jobs).mono fun _ _ ⟨h1, h5, h6⟩ => ⟨h1, h.went h5 h6, h6⟩
theorem own_give {b : JB} {n : Nat} {L : List T} {w0 w : World} (h : Own b n L w0 w) {c : Int} (hg : Good c L) (id : Int) (hwf : (Lit.int .i64 id).wf = true) :
    Calls Try.prog 24 #[.pointer (some ⟨b.pj, 0, none⟩), .int .i64 id] w fun e w' => e = .returned (.bool (mGive L id).1) ∧ Own b n (mGive L id).2 w0 w' ∧ Went b b w w' :=
  (give_any hg id hwf w h.jobs).mono fun _ _ ⟨h1, h5, h6⟩ => ⟨h1, h.went h5 h6, h6⟩
theorem own_release {b : JB} {n : Nat} {L : List T} {w0 w : World} (h : Own b n L w0 w) {c : Int} (hg : Good c L) (hc : c ≤ 1000000000) (clock : Int) :
    Calls Try.prog 10 #[.pointer (some ⟨b.pj, 0, none⟩), .int .i64 clock] w fun e w' => ∃ v, e = .returned v ∧ Row w.heap.size v (mRelease L clock).1 w' ∧ Own b n (mRelease L clock).2 w0 w' ∧ Went b b w w' := by
  have hl := h.jobs.length_le
  refine (release_any hg hc clock w h.jobs).mono fun _ _ ⟨v, h1, h5, h6, h7⟩ => ⟨v, h1, Row.of_own h5 ?_, h.went h6 ⟨h7, fun _ h => .inl h, rfl⟩, h7, fun _ h => .inl h, rfl⟩
  have : ((L.filter (fun t => !rest t)).map (·.ID)).length ≤ L.length := by rw [List.length_map]; exact List.length_filter_le _ _
  unfold mRelease
  simp only
  omega
theorem own_settle {b : JB} {n : Nat} {L : List T} {w0 w : World} (h : Own b n L w0 w) {c : Int} (hg : Good c L) (clock : Int) (hc : clock ≤ 1000000000) :
    Calls Try.prog 11 #[.pointer (some ⟨b.pj, 0, none⟩), .int .i64 clock] w fun e w' => ∃ v b', e = .returned (.tuple #[v, .int .i64 (mSettle L clock).1.2]) ∧ Row w.heap.size v (mSettle L clock).1.1 w' ∧ b'.pj = b.pj ∧ Own b' n (mSettle L clock).2 w0 w' ∧ Went b b' w w' := by
  have hl := h.jobs.length_le
  refine (settle_any hg clock hc w h.jobs).mono fun _ _ ⟨v, b', h1, h5, h6, h7⟩ => ⟨v, b', h1, Row.of_own h5 ?_, h7.same, h.went h6 h7, h7⟩
  have : ((L.filter (fun t => due clock t && t.Lv)).map (·.ID)).length ≤ L.length := by rw [List.length_map]; exact List.length_filter_le _ _
  unfold mSettle
  simp only
  omega
theorem own_task_yes {b : JB} {n : Nat} {L : List T} {w0 w : World} (h : Own b n L w0 w) (id : Int) (hwf : (Lit.int .i64 id).wf = true) (t : T) (ht : find L id = some t) :
    Calls Try.prog 13 #[.pointer (some ⟨b.pj, 0, none⟩), .int .i64 id] w fun e w' => e = .returned (.tuple #[.agg t.cells, .bool true]) ∧ Own b n L w0 w' ∧ Fr (fun _ => False) w w' :=
  (task_yes id hwf t ht w h.jobs).mono fun _ _ ⟨h1, h5⟩ => ⟨h1, h.quiet h5, h5⟩
theorem own_task_no {b : JB} {n : Nat} {L : List T} {w0 w : World} (h : Own b n L w0 w) (id : Int) (hwf : (Lit.int .i64 id).wf = true) (ht : find L id = none) :
    Calls Try.prog 13 #[.pointer (some ⟨b.pj, 0, none⟩), .int .i64 id] w fun e w' => e = .returned (.tuple #[.agg noTask.cells, .bool false]) ∧ Own b n L w0 w' ∧ Fr (fun _ => False) w w' :=
  (task_no id hwf ht w h.jobs).mono fun _ _ ⟨h1, h5⟩ => ⟨h1, h.quiet h5, h5⟩
theorem own_ids {b : JB} {n : Nat} {L : List T} {w0 w : World} (h : Own b n L w0 w) :
    Calls Try.prog 26 #[.pointer (some ⟨b.pj, 0, none⟩)] w fun e w' => ∃ v, e = .returned v ∧ Row w.heap.size v (L.map (·.ID)) w' ∧ Own b n L w0 w' ∧ Fr (fun _ => False) w w' := by
  have hl := h.jobs.length_le
  refine (ids_jobs w h.jobs).mono fun _ _ ⟨v, h1, h2, h3⟩ => ⟨v, h1, Row.of_own (n := L.length) (by rw [List.map_map]; exact h2) (by omega), h.quiet (Fr.of_grown h3 (fun k hk => by cases hk)), Fr.of_grown h3 (fun k hk => by cases hk)⟩

/-- A table at a known place. -/
def At (pj n : Nat) (L : List T) (w0 w : World) : Prop := ∃ b : JB, b.pj = pj ∧ Own b n L w0 w
theorem at_settle {pj n : Nat} {L : List T} {w0 w : World} (h : At pj n L w0 w) {c : Int} (hg : Good c L) (clock : Int) (hc : clock ≤ 1000000000) :
    Calls Try.prog 11 #[.pointer (some ⟨pj, 0, none⟩), .int .i64 clock] w fun e w' => ∃ v, e = .returned (.tuple #[v, .int .i64 (mSettle L clock).1.2]) ∧ Row w.heap.size v (mSettle L clock).1.1 w' ∧ At pj n (mSettle L clock).2 w0 w' := by
  obtain ⟨b, rfl, h⟩ := h
  exact (own_settle h hg clock hc).mono fun _ _ ⟨v, b', h1, h2, h3, h4, _⟩ => ⟨v, h1, h2, b', h3, h4⟩
theorem at_join {pj n : Nat} {L : List T} {w0 w : World} (h : At pj n L w0 w) (id E P : Int) (sp : Bool) (hwf : (Lit.int .i64 id).wf = true) :
    Calls Try.prog 9 #[.pointer (some ⟨pj, 0, none⟩), .int .i64 id, .int .i64 E, .int .i64 P, .bool sp] w fun e w' => e = .returned (.int .i64 (mJoin n L id E P sp).1) ∧ At pj n (mJoin n L id E P sp).2 w0 w' := by
  obtain ⟨b, rfl, h⟩ := h
  exact (own_join h id E P sp hwf).mono fun _ _ ⟨h1, h2, _⟩ => ⟨h1, b, rfl, h2⟩
theorem at_leave {pj n : Nat} {L : List T} {w0 w : World} (h : At pj n L w0 w) (id : Int) (hwf : (Lit.int .i64 id).wf = true) :
    Calls Try.prog 12 #[.pointer (some ⟨pj, 0, none⟩), .int .i64 id] w fun e w' => e = .returned (.tuple #[.bool (mLeave L id).1.1, .int .i64 (mLeave L id).1.2]) ∧ At pj n (mLeave L id).2 w0 w' := by
  obtain ⟨b, rfl, h⟩ := h
  exact (own_leave h id hwf).mono fun _ _ ⟨h1, b', h2, h3, _⟩ => ⟨h1, b', h2, h3⟩
theorem at_arrive {pj n : Nat} {L : List T} {w0 w : World} (h : At pj n L w0 w) (id : Int) (hwf : (Lit.int .i64 id).wf = true) :
    Calls Try.prog 15 #[.pointer (some ⟨pj, 0, none⟩), .int .i64 id] w fun e w' => e = .returned (.int .i64 (mArrive L id).1) ∧ At pj n (mArrive L id).2 w0 w' := by
  obtain ⟨b, rfl, h⟩ := h
  exact (own_arrive h id hwf).mono fun _ _ ⟨h1, h2, _⟩ => ⟨h1, b, rfl, h2⟩
theorem at_release {pj n : Nat} {L : List T} {w0 w : World} (h : At pj n L w0 w) {c : Int} (hg : Good c L) (hc : c ≤ 1000000000) (clock : Int) :
    Calls Try.prog 10 #[.pointer (some ⟨pj, 0, none⟩), .int .i64 clock] w fun e w' => ∃ v, e = .returned v ∧ Row w.heap.size v (mRelease L clock).1 w' ∧ At pj n (mRelease L clock).2 w0 w' := by
  obtain ⟨b, rfl, h⟩ := h
  exact (own_release h hg hc clock).mono fun _ _ ⟨v, h1, h2, h3, _⟩ => ⟨v, h1, h2, b, rfl, h3⟩
theorem at_task_yes {pj n : Nat} {L : List T} {w0 w : World} (h : At pj n L w0 w) (id : Int) (hwf : (Lit.int .i64 id).wf = true) (t : T) (ht : find L id = some t) :
    Calls Try.prog 13 #[.pointer (some ⟨pj, 0, none⟩), .int .i64 id] w fun e w' => e = .returned (.tuple #[.agg t.cells, .bool true]) ∧ At pj n L w0 w' ∧ Fr (fun _ => False) w w' := by
  obtain ⟨b, rfl, h⟩ := h
  exact (own_task_yes h id hwf t ht).mono fun _ _ ⟨h1, h2, h3⟩ => ⟨h1, ⟨b, rfl, h2⟩, h3⟩
theorem at_task_no {pj n : Nat} {L : List T} {w0 w : World} (h : At pj n L w0 w) (id : Int) (hwf : (Lit.int .i64 id).wf = true) (ht : find L id = none) :
    Calls Try.prog 13 #[.pointer (some ⟨pj, 0, none⟩), .int .i64 id] w fun e w' => e = .returned (.tuple #[.agg noTask.cells, .bool false]) ∧ At pj n L w0 w' ∧ Fr (fun _ => False) w w' := by
  obtain ⟨b, rfl, h⟩ := h
  exact (own_task_no h id hwf ht).mono fun _ _ ⟨h1, h2, h3⟩ => ⟨h1, ⟨b, rfl, h2⟩, h3⟩
theorem At.fr {pj n : Nat} {L : List T} {w0 w : World} (h : At pj n L w0 w) : Fr (fun _ => False) w0 w := by
  obtain ⟨b, _, h⟩ := h
  exact h.fr
theorem At.quiet {pj n : Nat} {L : List T} {w0 w w' : World} (h : At pj n L w0 w) (hf : Fr (fun _ => False) w w') : At pj n L w0 w' := by
  obtain ⟨b, h1, h⟩ := h
  exact ⟨b, h1, h.quiet hf⟩

/-! ### ints -/
theorem ret_bool {a b : Bool} (h : a = b) : Ending.returned (.bool a) = .returned (.bool b) := by rw [h]
def eqL (xs ys : List Int) : Bool := decide (xs = ys)
theorem take_all_eq {xs ys : List Int} {k : Nat} (hx : xs.length = k) (hy : ys.length = k) (h : xs.take k = ys.take k) : eqL xs ys = true := by
  rw [List.take_of_length_le (by omega), List.take_of_length_le (by omega)] at h
  simp [eqL, h]
theorem take_snoc_eq {xs ys : List Int} {k : Nat} (hx : k < xs.length) (hy : k < ys.length) (h : xs.take k = ys.take k) (he : xs.getD k 0 = ys.getD k 0) : xs.take (k + 1) = ys.take (k + 1) := by
  rw [List.take_add_one, List.take_add_one, List.getElem?_eq_getElem hx, List.getElem?_eq_getElem hy, h]
  simp [List.getD, hx, hy] at he
  simp [he]
theorem eqL_ne {xs ys : List Int} {k : Nat} (he : xs.getD k 0 ≠ ys.getD k 0) : eqL xs ys = false := by
  simp only [eqL, decide_eq_false_iff_not]
  rintro rfl
  exact he rfl
theorem eqL_len {xs ys : List Int} (h : xs.length ≠ ys.length) : eqL xs ys = false := by
  simp only [eqL, decide_eq_false_iff_not]
  rintro rfl
  exact h rfl

theorem ints_ne {xs ys : List Int} {al bl : Nat} {va vb : Value} {w : World} (ha : Row al va xs w) (hb : Row bl vb ys w) (hl : xs.length ≠ ys.length) :
    Calls Try.prog 14 #[va, vb] w fun e w' => e = .returned (.bool (eqL xs ys)) ∧ Fr (fun _ => False) w w' := by
  obtain ⟨ao, ca, hia, rfl, ra, _⟩ := ha
  obtain ⟨bo, cb, hib, rfl, rb, _⟩ := hb
  have := ra.low
  have := rb.low
  rw [eqL_len hl]
  generalize xs.length = n at *
  generalize ys.length = m at *
  have hne : ((n : Int) != (m : Int)) = true := by simp; omega
  clear ra rb
  go_enter Try.func14, Try.ntmps14
  go_wp2_with fail
  go_ret
  exact ⟨rfl, Fr.refl _ _⟩

set_option maxHeartbeats 800000 in
theorem ints_any {xs ys : List Int} {al bl : Nat} {va vb : Value} {w : World} (ha : Row al va xs w) (hb : Row bl vb ys w) :
    Calls Try.prog 14 #[va, vb] w fun e w' => e = .returned (.bool (eqL xs ys)) ∧ Fr (fun _ => False) w w' := by
  by_cases hl : xs.length = ys.length
  · obtain ⟨ao, ca, hia, rfl, ra, _⟩ := ha
    obtain ⟨bo, cb, hib, rfl, rb, _⟩ := hb
    have hlow := ra.low
    generalize hn : xs.length = n at *
    rw [← hl] at rb ⊢
    have HL := hid hl
    have HN := hid hn
    have RA := hid ra
    have RB := hid rb
    clear hl hn ra rb
    go_enter Try.func14, Try.ntmps14
    go_wp2_with fail
    go_loopw [5] (fun s wr => ∃ k : Nat, k ≤ n ∧ s = .int .i64 k ∧ xs.take k = ys.take k ∧ Fr (fun _ => False) w wr) (fun s _ => n - (intOf s).toNat)
    case atStart => exact ⟨0, Nat.zero_le _, rfl, rfl, Fr.refl _ _⟩
    case round =>
      obtain ⟨k, hk, rfl, ht, hfr⟩ := hrel
      have HT := hid ht
      have HF := hid hfr
      clear ht hfr
      by_cases hlt : k < n
      · obtain ⟨g, rfl, _, _, hc⟩ := RA.out.cell k hlt
        obtain ⟨g', rfl, _, _, hc'⟩ := RB.out.cell k hlt
        have d := HF.out.cell hc _root_.id
        have d' := HF.out.cell hc' _root_.id
        clear hc hc'
        have i1 : (0 : Int) ≤ (k : Int) := by omega
        have i2 : (k : Int) < (n : Int) := by omega
        by_cases he : xs.getD k 0 = ys.getD k 0
        · have hs := take_snoc_eq (by rw [HN.out]; exact hlt) (by rw [← HL.out]; exact hlt) HT.out he
          have hb : (xs.getD k 0 != ys.getD k 0) = false := by rw [he]; simp
          have HS := hid hs
          clear hs
          rw [he] at d
          have hb' : (ys.getD k 0 != ys.getD k 0) = false := by simp
          clear hb he
          generalize ys.getD k 0 = z at *
          go_wp2_with fail
          go_quiet (fail)
          go_wp2_with fail
          go_roundw
          case rel => exact ⟨k + 1, by omega, by go_num, HS.out, HF.out.trans (Fr.drewN _ _ _)⟩
          case measure => simp [intOf]; omega
        · have hs := eqL_ne he
          have hb : (xs.getD k 0 != ys.getD k 0) = true := by simpa using he
          have HS := hid hs
          clear hs he
          generalize ys.getD k 0 = z at *
          generalize xs.getD k 0 = z' at *
          go_wp2_with fail
          go_quiet (fail)
          go_wp2_with fail
          go_ret
          exact ⟨ret_bool HS.out.symm, HF.out.trans (Fr.drewN _ _ _)⟩
      · obtain rfl : k = n := by omega
        go_wp2_with fail
        go_ret
        exact ⟨ret_bool (take_all_eq HN.out HL.out.symm HT.out).symm, HF.out⟩
  · exact ints_ne ha hb hl

/-! ### awake -/
theorem small_wf {n : Int} (h0 : 0 ≤ n) (h : n ≤ 1000000) : (Lit.int .i64 n).wf = true := wf_small h0 h
theorem good_nil (c : Int) : Good c [] := fun _ h => by cases h
theorem wp_fr {P : Program} {c : Code} {K : Exit → Act → World → Prop} {a : Act} (wr : World) {wz : World} (hz : Fr (fun _ => False) wr wz) (h : ∀ wq, Fr (fun _ => False) wr wq → Code.wp P c K a wq) : Code.wp P c K a wz := h _ hz

theorem row_new {w : World} {b n : Nat} {cs : Array Value} {xs : List Int} (h : w.heap[b]? = some (.cells cs 3 (0, 0))) (hc : cs.toList = xs.map (Value.int .i64)) (hn : xs.length = n) (hl : n ≤ 1000000) : Row b (.slice (some ⟨b, 0, none⟩) n n) xs w := by
  subst hn
  refine ⟨some ⟨b, 0, none⟩, xs.length, b + 1, rfl, ⟨rfl, hl, fun i hi => ⟨b, rfl, Nat.le_refl _, Nat.lt_succ_self _, ?_⟩⟩, lt_of_heap h⟩
  rw [cell_of_heap h, ← Array.getElem?_toList, hc]
  simp [List.getD, hi]

/-- A task that a call handed back is put into a place of its own. -/
theorem wpList_store_new {ops : Array Oper} {rest : List Oper} {op : Oper} {a : Act} {Q : Exit → Act → World → Prop} (hgd : op.guard = none) (x y : Operand) (ho : op.op = .store 35 x y)
    (w0 : World) (t : T) (H : Nat) (hH : w0.heap.size = H) (hx : a.eval x = .pointer (some ⟨H, 0, none⟩)) (hy : a.eval y = .agg t.cells)
    (h : ∀ w', w'.heap[H]? = some (.cells t.cells 35 (0, 0)) → Fr (fun _ => False) w0 w' → wpList Try.prog ops Q rest (a.put op.dst undef) w') :
    wpList Try.prog ops Q (op :: rest) a (w0.alloc (.cells #[.int .i64 0, .int .i64 0, .int .i64 0, .bool false, .bool false, .bool false, .bool false, .int .i64 0, .int .i64 0, .bool false, .int .i64 0] 35)) := by
  refine wpList_store_mid hgd 35 x y ho H 0 t.cells hx hy (fun j hj => ?_) info35 (cells_one t) ?_
  · have hj : j < 11 := hj
    have hh := heap_new w0 (.cells #[.int .i64 0, .int .i64 0, .int .i64 0, .bool false, .bool false, .bool false, .bool false, .int .i64 0, .int .i64 0, .bool false, .int .i64 0] 35) hH
    refine ⟨?_, free_of_heap hh _⟩
    rw [cell_of_heap hh, Array.getElem?_eq_getElem (by simp; omega)]
    rfl
  · refine h _ ?_ ?_
    · have hl : t.cells.toList.length = 11 := rfl
      have hl' : t.cells.size = 11 := rfl
      obtain ⟨cur, k1, k2, _, k4⟩ := setCells_heap t.cells.toList 0 _ _ (heap_new w0 (.cells #[.int .i64 0, .int .i64 0, .int .i64 0, .bool false, .bool false, .bool false, .bool false, .int .i64 0, .int .i64 0, .bool false, .int .i64 0] 35) hH) (by rw [hl]; simp)
      have k2 : cur.size = 11 := k2
      have he : cur = t.cells := Array.ext_getElem? fun j => by
        by_cases hj : j < 11
        · have := k4 j (by omega)
          rw [Nat.zero_add] at this
          rw [this, Array.getElem?_toList]
        · rw [Array.getElem?_eq_none (by omega), Array.getElem?_eq_none (by omega)]
      rw [k1, he]
    · exact (Fr.alloc _ _ _).then (Fr.cells (S := fun k => k = H) rfl _ _ _) (fun i hi => .inr (by omega))

set_option maxHeartbeats 1600000 in
theorem awake_any (w : World) : Calls Try.prog 7 #[] w fun e w' => e = .returned (.bool true) ∧ Fr (fun _ => False) w w' := by
  go_enter Try.func7, Try.ntmps7
  go_wp2_with fail
  refine (own_new 3 3 (by omega) (by omega) w w (Fr.refl _ _)).mono ?_
  rintro e w1 ⟨b, rfl, ho, _, _⟩
  have H1 := hid ho
  clear ho
  go_wp2_with fail
  refine (own_join H1.out 5 1 2 false (small_wf (by omega) (by omega))).mono ?_
  rintro e w2 ⟨he, ho, _⟩
  rw [show mJoin 3 [] 5 1 2 false = (0, [made 5 1 2 false]) from rfl] at he ho
  subst he
  have H2 := hid ho
  clear ho H1
  go_wp2_with fail
  have hg2 : Good 1 [made 5 1 2 false] := by simpa [mJoin, find, insT, made] using (good_nil 1).join (by omega) 3 5 1 2 false
  refine (own_release H2.out hg2 (by omega) 0).mono ?_
  rintro e w3 ⟨v, rfl, hr, ho, _⟩
  have hg3 := hg2.release (clock := 0) (by omega) (by omega)
  have hfar : ∀ k, w2.heap.size ≤ k → ¬ b.has k := fun k hk hb => by have := H2.out.lt hb; omega
  have HFAR := hid hfar
  have HSZ := hid hr
  have HG := hid hg3
  have HR := hid hr
  have H3 := hid ho
  clear ho hr hg2 hg3 H2 hfar
  go_wp2_with fail
  refine (own_task_yes H3.out 5 (small_wf (by omega) (by omega)) _ rfl).mono ?_
  rintro e w4 ⟨rfl, ho, hf⟩
  have HR4 := hid (HR.out.quiet hf)
  have H4 := hid ho
  clear ho hf H3 HR
  go_wp2_with (with_reducible (show wpList _ _ _ (⟨_, Op.store 35 _ _, _, _, _, _⟩ :: _) _ _); refine wpList_store_new rfl (.tmp 3) (.tmp 20) rfl w4 (begun 0 (made 5 1 2 false)) _ rfl rfl rfl ?_)
  intro w5 h5 hf5
  have H5 := hid (H4.out.quiet hf5)
  have HR5 := hid (HR4.out.quiet hf5)
  have HB : Hid (¬ b.has w4.heap.size) := hid (fun h => by have := H4.out.lt h; omega)
  have C5 := hid h5
  generalize hb5 : w4.heap.size = b5 at *
  clear hb5 h5 hf5 H4 HR4
  go_wp2_with fail
  refine (own_settle H5.out HG.out 2 (by omega)).mono ?_
  rintro e w6 ⟨v6, b6, he, hr, _, ho, hw⟩
  have e2 : (mSettle (mRelease [made 5 1 2 false] 0).2 2).1 = ([], 1) := by decide
  have e1 : (mRelease [made 5 1 2 false] 0).1 = [5] := by decide
  rw [e2] at he hr
  subst he
  have hr5 := HR5.out
  rw [e1] at hr5
  have hr6 := hr5.kept hw.fr HFAR.out
  have h6 := hw.fr.heap C5.out HB.out
  obtain ⟨ao, cap, hi, rfl, _, _⟩ := hr
  have c6 : w6.cell? ⟨b5, 6, none⟩ = some (.bool true) := by rw [cell_of_heap h6]; rfl
  have c10 : w6.cell? ⟨b5, 10, none⟩ = some (.int .i64 1) := by rw [cell_of_heap h6]; rfl
  have HF := hid ho.fr
  have HR6 := hid hr6
  clear e1 e2 hr5 hr6 h6 ho hw H5 HR5 HB C5 HG HSZ HFAR
  go_wp2_with fail
  have hfa : Fr (fun _ => False) w6 (w6.alloc (Obj.cells #[Value.int IntKind.i64 5] 3)) := Fr.alloc _ _ _
  have d6 := hfa.cell c6 _root_.id
  have d10 := hfa.cell c10 _root_.id
  clear c6 c10
  refine (ints_any (HR6.out.quiet hfa) (row_new (xs := [5]) (heap_new w6 _ rfl) rfl rfl (by simp))).mono ?_
  rintro e w7 ⟨rfl, hf7⟩
  have e6 := hf7.cell d6 _root_.id
  have e10 := hf7.cell d10 _root_.id
  have HF7 := hid (HF.out.trans (hfa.trans hf7))
  clear d6 d10 hf7 hfa
  have he : eqL [5] [5] = true := by decide
  rw [he]
  clear he
  go_wp2_with fail
  go_ret
  exact ⟨rfl, HF7.out⟩
end Go.Proofs.Ytajlilcodnkfdaa
