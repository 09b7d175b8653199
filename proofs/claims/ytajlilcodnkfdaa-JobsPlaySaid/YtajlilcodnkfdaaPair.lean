/-
  A table and the reference's row side by side.
-/
import Derived.Test.YtajlilcodnkfdaaTwo
import Derived.Test.YtajlilcodnkfdaaRefSettle
import Derived.Test.YtajlilcodnkfdaaRefJoin
namespace Go.Proofs.Ytajlilcodnkfdaa
open Go.Proofs
open Go.RowKit Go.WideMaps

set_option linter.unusedSimpArgs false

structure Pair (pj n : Nat) (L : List T) (bm : Nat) (M : List T) (K : Nat → Obj → Prop) (w0 w : World) : Prop where
  at' : ∃ b v, b.pj = pj ∧ Own b n L w0 w ∧ RefAt bm n v M w0.heap.size w ∧ (∀ k, b.has k → ¬ RefAt.has bm v k) ∧ ∀ g o, K g o → ¬ b.has g ∧ ¬ RefAt.has bm v g
  kept : ∀ g o, K g o → w.heap[g]? = some o
theorem RefAt.has_ge {bm n lo : Nat} {v : Value} {M : List T} {w : World} (h : RefAt bm n v M lo w) {k : Nat} (hk : RefAt.has bm v k) : lo ≤ k := by
  rcases hk with rfl | hk
  · exact h.ge
  · exact (h.row.lt k hk).1

section
variable {pj n : Nat} {L L' : List T} {bm : Nat} {M M' : List T} {K : Nat → Obj → Prop} {w0 w w' : World}
theorem Pair.fr (h : Pair pj n L bm M K w0 w) : Fr (fun _ => False) w0 w := by
  obtain ⟨b, v, h1, h2, _⟩ := h.at'
  exact h2.fr
theorem Pair.quiet (h : Pair pj n L bm M K w0 w) (hf : Fr (fun _ => False) w w') : Pair pj n L bm M K w0 w' := by
  obtain ⟨b, v, h1, h2, h3, h4, h5⟩ := h.at'
  exact ⟨⟨b, v, h1, h2.quiet hf, h3.quiet hf, h4, h5⟩, fun g o hk => hf.heap (h.kept g o hk) _root_.id⟩
theorem Pair.less {K' : Nat → Obj → Prop} (h : Pair pj n L bm M K w0 w) (hk : ∀ g o, K' g o → K g o) : Pair pj n L bm M K' w0 w := by
  obtain ⟨b, v, h1, h2, h3, h4, h5⟩ := h.at'
  exact ⟨⟨b, v, h1, h2, h3, h4, fun g o h => h5 g o (hk g o h)⟩, fun g o h' => h.kept g o (hk g o h')⟩
theorem Pair.keep (h : Pair pj n L bm M K w0 w) (hf : Fr (fun _ => False) w w') {g : Nat} {o : Obj} (hg : w.heap.size ≤ g) (ho : w'.heap[g]? = some o) : Pair pj n L bm M (fun i x => K i x ∨ (i = g ∧ x = o)) w0 w' := by
  have h' := h.quiet hf
  obtain ⟨b, v, h1, h2, h3, h4, h5⟩ := h.at'
  refine ⟨⟨b, v, h1, h2.quiet hf, h3.quiet hf, h4, fun i x hx => ?_⟩, fun i x hx => ?_⟩
  · rcases hx with hx | ⟨rfl, _⟩
    · exact h5 i x hx
    · exact ⟨fun ha => by have := h2.lt ha; omega, fun hb => by have := h3.has_lt hb; omega⟩
  · rcases hx with hx | ⟨rfl, rfl⟩
    · exact h'.kept i x hx
    · exact ho
theorem Pair.low (h : Pair pj n L bm M K w0 w) : L.length ≤ 4096 ∧ Rising L ∧ (∀ t ∈ L, (Lit.int .i64 t.ID).wf = true) ∧ n ≤ 4096 := by
  obtain ⟨b, v, h1, h2, _⟩ := h.at'
  have := h2.jobs.length_le
  exact ⟨by omega, h2.jobs.rising, fun t ht => h2.jobs.wf ht, this.2⟩
theorem pair_prog {b b' : JB} {v : Value} (h2 : Own b n L w0 w) (h3 : RefAt bm n v M w0.heap.size w) (h4 : ∀ k, b.has k → ¬ RefAt.has bm v k) (h5 : ∀ g o, K g o → ¬ b.has g ∧ ¬ RefAt.has bm v g) (hk : ∀ g o, K g o → w.heap[g]? = some o)
    (hj : Own b' n L' w0 w') (hw : Went b b' w w') : Own b' n L' w0 w' ∧ RefAt bm n v M w0.heap.size w' ∧ (∀ k, b'.has k → ¬ RefAt.has bm v k) ∧ (∀ g o, K g o → ¬ b'.has g ∧ ¬ RefAt.has bm v g) ∧ ∀ g o, K g o → w'.heap[g]? = some o :=
  ⟨hj, h3.kept hw.fr (fun k hr hb => h4 k hb hr), fun k hb hr => (hw.new k hb).elim (fun h => h4 k h hr) (fun h => by have := h3.has_lt hr; omega),
    fun g o hg => ⟨fun hb => (hw.new g hb).elim (h5 g o hg).1 (fun h => by have := lt_of_heap (hk g o hg); omega), (h5 g o hg).2⟩, fun g o hg => hw.fr.heap (hk g o hg) (h5 g o hg).1⟩
theorem pair_ref {b : JB} {v v' : Value} (h2 : Own b n L w0 w) (h3 : RefAt bm n v M w0.heap.size w) (h4 : ∀ k, b.has k → ¬ RefAt.has bm v k) (h5 : ∀ g o, K g o → ¬ b.has g ∧ ¬ RefAt.has bm v g) (hk : ∀ g o, K g o → w.heap[g]? = some o)
    (hj : RefAt bm n v' M' w0.heap.size w') (hw : RefWent bm v v' w w') : Pair b.pj n L bm M' K w0 w' := by
  have hbm := h3.has_lt (.inl rfl : RefAt.has bm v bm)
  refine ⟨⟨b, v', rfl, h2.kept hw.fr (fun k hb hr => h4 k hb hr) (fun k hr => h3.has_ge hr), hj, fun k hb hr => ?_, fun g o hg => ⟨(h5 g o hg).1, fun hr => ?_⟩⟩, fun g o hg => hw.fr.heap (hk g o hg) (h5 g o hg).2⟩
  · rcases hr with e | e
    · exact h4 k hb (.inl e)
    · rcases hw.new k e with e | e
      · exact h4 k hb (.inr e)
      · have := h2.lt hb; omega
  · rcases hr with e | e
    · exact (h5 g o hg).2 (.inl e)
    · rcases hw.new g e with e | e
      · exact (h5 g o hg).2 (.inr e)
      · have := lt_of_heap (hk g o hg); omega

theorem pair_join (h : Pair pj n L bm M K w0 w) (id E P : Int) (sp : Bool) (hwf : (Lit.int .i64 id).wf = true) :
    Calls Try.prog 9 #[.pointer (some ⟨pj, 0, none⟩), .int .i64 id, .int .i64 E, .int .i64 P, .bool sp] w fun e w' => e = .returned (.int .i64 (mJoin n L id E P sp).1) ∧ Pair pj n (mJoin n L id E P sp).2 bm M K w0 w' := by
  obtain ⟨b, v, rfl, h2, h3, h4, h5⟩ := h.at'
  exact (own_join h2 id E P sp hwf).mono fun _ _ ⟨h1, hj, hw⟩ => by
    obtain ⟨p1, p2, p3, p4, p5⟩ := pair_prog h2 h3 h4 h5 h.kept hj hw
    exact ⟨h1, ⟨b, v, rfl, p1, p2, p3, p4⟩, p5⟩
theorem pair_leave (h : Pair pj n L bm M K w0 w) (id : Int) (hwf : (Lit.int .i64 id).wf = true) :
    Calls Try.prog 12 #[.pointer (some ⟨pj, 0, none⟩), .int .i64 id] w fun e w' => e = .returned (.tuple #[.bool (mLeave L id).1.1, .int .i64 (mLeave L id).1.2]) ∧ Pair pj n (mLeave L id).2 bm M K w0 w' := by
  obtain ⟨b, v, rfl, h2, h3, h4, h5⟩ := h.at'
  exact (own_leave h2 id hwf).mono fun _ _ ⟨h1, b', hp, hj, hw⟩ => by
    obtain ⟨p1, p2, p3, p4, p5⟩ := pair_prog h2 h3 h4 h5 h.kept hj hw
    exact ⟨h1, ⟨b', v, hp, p1, p2, p3, p4⟩, p5⟩
theorem pair_arrive (h : Pair pj n L bm M K w0 w) (id : Int) (hwf : (Lit.int .i64 id).wf = true) :
    Calls Try.prog 15 #[.pointer (some ⟨pj, 0, none⟩), .int .i64 id] w fun e w' => e = .returned (.int .i64 (mArrive L id).1) ∧ Pair pj n (mArrive L id).2 bm M K w0 w' := by
  obtain ⟨b, v, rfl, h2, h3, h4, h5⟩ := h.at'
  exact (own_arrive h2 id hwf).mono fun _ _ ⟨h1, hj, hw⟩ => by
    obtain ⟨p1, p2, p3, p4, p5⟩ := pair_prog h2 h3 h4 h5 h.kept hj hw
    exact ⟨h1, ⟨b, v, rfl, p1, p2, p3, p4⟩, p5⟩
theorem pair_finish (h : Pair pj n L bm M K w0 w) (id : Int) (hwf : (Lit.int .i64 id).wf = true) :
    Calls Try.prog 19 #[.pointer (some ⟨pj, 0, none⟩), .int .i64 id] w fun e w' => e = .returned (.int .i64 (mFinish L id).1) ∧ Pair pj n (mFinish L id).2 bm M K w0 w' := by
  obtain ⟨b, v, rfl, h2, h3, h4, h5⟩ := h.at'
  exact (own_finish h2 id hwf).mono fun _ _ ⟨h1, hj, hw⟩ => by
    obtain ⟨p1, p2, p3, p4, p5⟩ := pair_prog h2 h3 h4 h5 h.kept hj hw
    exact ⟨h1, ⟨b, v, rfl, p1, p2, p3, p4⟩, p5⟩
theorem pair_give (h : Pair pj n L bm M K w0 w) {c : Int} (hg : Good c L) (id : Int) (hwf : (Lit.int .i64 id).wf = true) :
    Calls Try.prog 24 #[.pointer (some ⟨pj, 0, none⟩), .int .i64 id] w fun e w' => e = .returned (.bool (mGive L id).1) ∧ Pair pj n (mGive L id).2 bm M K w0 w' := by
  obtain ⟨b, v, rfl, h2, h3, h4, h5⟩ := h.at'
  exact (own_give h2 hg id hwf).mono fun _ _ ⟨h1, hj, hw⟩ => by
    obtain ⟨p1, p2, p3, p4, p5⟩ := pair_prog h2 h3 h4 h5 h.kept hj hw
    exact ⟨h1, ⟨b, v, rfl, p1, p2, p3, p4⟩, p5⟩
theorem pair_task (h : Pair pj n L bm M K w0 w) (id : Int) (hwf : (Lit.int .i64 id).wf = true) :
    Calls Try.prog 13 #[.pointer (some ⟨pj, 0, none⟩), .int .i64 id] w fun e w' => e = .returned (.tuple #[.agg ((find L id).getD noTask).cells, .bool (find L id).isSome]) ∧ Fr (fun _ => False) w w' := by
  obtain ⟨b, v, rfl, h2, _⟩ := h.at'
  cases hf : find L id with
  | none => exact (own_task_no h2 id hwf hf).mono fun _ _ ⟨h1, _, h2⟩ => ⟨h1, h2⟩
  | some t => exact (own_task_yes h2 id hwf t hf).mono fun _ _ ⟨h1, _, h2⟩ => ⟨h1, h2⟩
theorem pair_ids (h : Pair pj n L bm M K w0 w) :
    Calls Try.prog 26 #[.pointer (some ⟨pj, 0, none⟩)] w fun e w' => ∃ v, e = .returned v ∧ Row w.heap.size v (L.map (·.ID)) w' ∧ Fr (fun _ => False) w w' := by
  obtain ⟨b, v, rfl, h2, _⟩ := h.at'
  exact (own_ids h2).mono fun _ _ ⟨v, h1, h3, _, h4⟩ => ⟨v, h1, h3, h4⟩

/-- A row that a call of the table's handed back, beside. -/
def PairRow (pj n : Nat) (L : List T) (bm : Nat) (M : List T) (K : Nat → Obj → Prop) (r : Value) (xs : List Int) (w0 w : World) : Prop :=
  ∃ b v lo, b.pj = pj ∧ Own b n L w0 w ∧ RefAt bm n v M w0.heap.size w ∧ (∀ k, b.has k → ¬ RefAt.has bm v k) ∧ (∀ g o, K g o → ¬ b.has g ∧ ¬ RefAt.has bm v g) ∧ (∀ g o, K g o → w.heap[g]? = some o) ∧ Row lo r xs w ∧ ∀ k, RefAt.has bm v k → k < lo
theorem pair_release (h : Pair pj n L bm M K w0 w) {c : Int} (hg : Good c L) (hc : c ≤ 1000000000) (clock : Int) :
    Calls Try.prog 10 #[.pointer (some ⟨pj, 0, none⟩), .int .i64 clock] w fun e w' => ∃ r, e = .returned r ∧ PairRow pj n (mRelease L clock).2 bm M K r (mRelease L clock).1 w0 w' := by
  obtain ⟨b, v, rfl, h2, h3, h4, h5⟩ := h.at'
  exact (own_release h2 hg hc clock).mono fun _ _ ⟨r, h1, hr, hj, hw⟩ => by
    obtain ⟨p1, p2, p3, p4, p5⟩ := pair_prog h2 h3 h4 h5 h.kept hj hw
    exact ⟨r, h1, b, v, _, rfl, p1, p2, p3, p4, p5, hr, fun k hk => h3.has_lt hk⟩
theorem pair_settle (h : Pair pj n L bm M K w0 w) {c : Int} (hg : Good c L) (clock : Int) (hc : clock ≤ 1000000000) :
    Calls Try.prog 11 #[.pointer (some ⟨pj, 0, none⟩), .int .i64 clock] w fun e w' => ∃ r, e = .returned (.tuple #[r, .int .i64 (mSettle L clock).1.2]) ∧ PairRow pj n (mSettle L clock).2 bm M K r (mSettle L clock).1.1 w0 w' := by
  obtain ⟨b, v, rfl, h2, h3, h4, h5⟩ := h.at'
  exact (own_settle h2 hg clock hc).mono fun _ _ ⟨r, b', h1, hr, hp, hj, hw⟩ => by
    obtain ⟨p1, p2, p3, p4, p5⟩ := pair_prog h2 h3 h4 h5 h.kept hj hw
    exact ⟨r, h1, b', v, _, hp, p1, p2, p3, p4, p5, hr, fun k hk => h3.has_lt hk⟩

theorem pair_join_ref (h : Pair pj n L bm M K w0 w) (id E P : Int) (sp : Bool) :
    Calls Try.prog 16 #[.pointer (some ⟨bm, 0, none⟩), .int .i64 id, .int .i64 E, .int .i64 P, .bool sp] w fun e w' => e = .returned (.int .i64 (mJoin n M id E P sp).1) ∧ Pair pj n L bm (mJoin n M id E P sp).2 K w0 w' := by
  have hn := h.low.2.2.2
  obtain ⟨b, v, rfl, h2, h3, h4, h5⟩ := h.at'
  exact (join_ref id E P sp hn w h3).mono fun _ _ ⟨h1, v', hj, hw⟩ => ⟨h1, pair_ref h2 h3 h4 h5 h.kept hj hw⟩
theorem pair_leave_ref (hr : Rising M) (h : Pair pj n L bm M K w0 w) (id : Int) :
    Calls Try.prog 17 #[.pointer (some ⟨bm, 0, none⟩), .int .i64 id] w fun e w' => e = .returned (.tuple #[.bool (mLeave M id).1.1, .int .i64 (mLeave M id).1.2]) ∧ Pair pj n L bm (mLeave M id).2 K w0 w' := by
  obtain ⟨b, v, rfl, h2, h3, h4, h5⟩ := h.at'
  exact (leave_ref hr id w h3).mono fun _ _ ⟨h1, v', hj, hw⟩ => ⟨h1, pair_ref h2 h3 h4 h5 h.kept hj hw⟩
theorem pair_arrive_ref (hr : Rising M) (h : Pair pj n L bm M K w0 w) (id : Int) :
    Calls Try.prog 18 #[.pointer (some ⟨bm, 0, none⟩), .int .i64 id] w fun e w' => e = .returned (.int .i64 (mArrive M id).1) ∧ Pair pj n L bm (mArrive M id).2 K w0 w' := by
  obtain ⟨b, v, rfl, h2, h3, h4, h5⟩ := h.at'
  exact (arrive_ref hr id w h3).mono fun _ _ ⟨h1, hj, hw⟩ => ⟨h1, pair_ref h2 h3 h4 h5 h.kept hj ⟨hw, fun _ h => .inl h⟩⟩
theorem pair_finish_ref (hr : Rising M) (h : Pair pj n L bm M K w0 w) (id : Int) :
    Calls Try.prog 20 #[.pointer (some ⟨bm, 0, none⟩), .int .i64 id] w fun e w' => e = .returned (.int .i64 (mFinish M id).1) ∧ Pair pj n L bm (mFinish M id).2 K w0 w' := by
  obtain ⟨b, v, rfl, h2, h3, h4, h5⟩ := h.at'
  exact (finish_ref hr id w h3).mono fun _ _ ⟨h1, hj, hw⟩ => ⟨h1, pair_ref h2 h3 h4 h5 h.kept hj ⟨hw, fun _ h => .inl h⟩⟩
theorem pair_release_ref {r : Value} {xs : List Int} (h : PairRow pj n L bm M K r xs w0 w) {c : Int} (hg : Good c M) (hc : c ≤ 1000000000) (clock : Int) :
    Calls Try.prog 21 #[.pointer (some ⟨bm, 0, none⟩), .int .i64 clock] w fun e w' => ∃ s lo lo', e = .returned s ∧ Row lo r xs w' ∧ Row lo' s (mRelease M clock).1 w' ∧ Pair pj n L bm (mRelease M clock).2 K w0 w' := by
  obtain ⟨b, v, lo, rfl, h2, h3, h4, h5, h6, h7, h8⟩ := h
  refine (release_ref hg hc clock w h3).mono fun _ _ ⟨s, h1, ho, hj, hw⟩ => ⟨s, lo, _, h1, h7.kept hw (fun k hk hr => by have := h8 k hr; omega), Row.of_own ho ?_, pair_ref h2 h3 h4 h5 h6 hj ⟨hw, fun _ h => .inl h⟩⟩
  have h9 : ((M.filter (fun t => !rest t)).map (·.ID)).length ≤ M.length := by rw [List.length_map]; exact List.length_filter_le _ _
  have := h3.low
  unfold mRelease
  simp only
  omega
theorem pair_settle_ref {r : Value} {xs : List Int} (h : PairRow pj n L bm M K r xs w0 w) {c : Int} (hg : Good c M) (clock : Int) (h0 : 0 ≤ clock) (hc : clock ≤ 1000000000) :
    Calls Try.prog 22 #[.pointer (some ⟨bm, 0, none⟩), .int .i64 clock] w fun e w' => ∃ s lo lo', e = .returned (.tuple #[s, .int .i64 (mSettle M clock).1.2]) ∧ Row lo r xs w' ∧ Row lo' s (mSettle M clock).1.1 w' ∧ Pair pj n L bm (mSettle M clock).2 K w0 w' := by
  obtain ⟨b, v, lo, rfl, h2, h3, h4, h5, h6, h7, h8⟩ := h
  refine (settle_ref hg clock h0 hc w h3).mono fun _ _ ⟨s, v', h1, ho, hj, hw, _⟩ => ⟨s, lo, _, h1, h7.kept hw.fr (fun k hk hr => by have := h8 k hr; omega), Row.of_own ho ?_, pair_ref h2 h3 h4 h5 h6 hj hw⟩
  have h9 : ((M.filter (fun t => due clock t && t.Lv)).map (·.ID)).length ≤ M.length := by rw [List.length_map]; exact List.length_filter_le _ _
  have := h3.low
  unfold mSettle
  simp only
  omega
theorem pair_at_none (h : Pair pj n L bm M K w0 w) (id : Int) (hf : find M id = none) :
    Calls Try.prog 23 #[.pointer (some ⟨bm, 0, none⟩), .int .i64 id] w fun e w' => e = .returned (.int .i64 (-1)) ∧ w' = w := by
  obtain ⟨b, v, rfl, h2, h3, _⟩ := h.at'
  exact at_none id (fun x hx => find_none hf hx) w h3
end
end Go.Proofs.Ytajlilcodnkfdaa
