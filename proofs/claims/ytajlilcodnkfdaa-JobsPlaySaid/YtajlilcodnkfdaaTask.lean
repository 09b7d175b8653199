/-
  jobs.Jobs: a task comes, goes, is told.
-/
import Derived.Test.YtajlilcodnkfdaaJobs
import Derived.Deep.MidRow
namespace Go.Proofs.Ytajlilcodnkfdaa
open Go.Proofs
open Go.RowKit Go.WideMaps

set_option linter.unusedSimpArgs false

theorem task_yes {b : JB} {n : Nat} {L : List T} (id : Int) (hwf : (Lit.int .i64 id).wf = true) (t : T) (ht : find L id = some t) (w : World) (h : JobsIs b n L w) :
    Calls Try.prog 13 #[.pointer (some ⟨b.pj, 0, none⟩), .int .i64 id] w fun e w' => e = .returned (.tuple #[.agg t.cells, .bool true]) ∧ Fr (fun _ => False) w w' := by
  obtain ⟨Q, rfl, hQ⟩ := h.at'
  obtain ⟨s, hsl, hmem, hti⟩ := find_some ht
  subst hti
  have c0 : w.cell? ⟨b.bt, s * 11, none⟩ = some (.int .i64 t.ID) := hQ.cell hmem (j := 0) rfl
  have c1 : w.cell? ⟨b.bt, s * 11 + 1, none⟩ = some (.int .i64 t.E) := hQ.cell hmem rfl
  have c2 : w.cell? ⟨b.bt, s * 11 + 2, none⟩ = some (.int .i64 t.P) := hQ.cell hmem rfl
  have c3 : w.cell? ⟨b.bt, s * 11 + 3, none⟩ = some (.bool t.Sp) := hQ.cell hmem rfl
  have c4 : w.cell? ⟨b.bt, s * 11 + 4, none⟩ = some (.bool t.Lv) := hQ.cell hmem rfl
  have c5 : w.cell? ⟨b.bt, s * 11 + 5, none⟩ = some (.bool t.Wt) := hQ.cell hmem rfl
  have c6 : w.cell? ⟨b.bt, s * 11 + 6, none⟩ = some (.bool t.Ac) := hQ.cell hmem rfl
  have c7 : w.cell? ⟨b.bt, s * 11 + 7, none⟩ = some (.int .i64 t.Rl) := hQ.cell hmem rfl
  have c8 : w.cell? ⟨b.bt, s * 11 + 8, none⟩ = some (.int .i64 t.Gt) := hQ.cell hmem rfl
  have c9 : w.cell? ⟨b.bt, s * 11 + 9, none⟩ = some (.bool t.Dn) := hQ.cell hmem rfl
  have c10 : w.cell? ⟨b.bt, s * 11 + 10, none⟩ = some (.int .i64 t.Ct) := hQ.cell hmem rfl
  have HQ := hid hQ
  clear h hQ ht
  go_enter Try.func13, Try.ntmps13
  go_wp2_with fail
  have hfa : Fr (fun _ => False) w (w.alloc (Obj.cells #[.int .i64 0, .int .i64 0, .int .i64 0, .bool false, .bool false, .bool false, .bool false, .int .i64 0, .int .i64 0, .bool false, .int .i64 0] 35)) := Fr.alloc _ _ _
  refine (get_yes t.ID s hwf hsl _ (HQ.out.kept hfa (fun _ _ => _root_.id))).mono ?_
  rintro e w' ⟨rfl, hw⟩
  have hw := hw.symm; subst hw
  have d0 := hfa.cell c0 _root_.id
  have d1 := hfa.cell c1 _root_.id
  have d2 := hfa.cell c2 _root_.id
  have d3 := hfa.cell c3 _root_.id
  have d4 := hfa.cell c4 _root_.id
  have d5 := hfa.cell c5 _root_.id
  have d6 := hfa.cell c6 _root_.id
  have d7 := hfa.cell c7 _root_.id
  have d8 := hfa.cell c8 _root_.id
  have d9 := hfa.cell c9 _root_.id
  have d10 := hfa.cell c10 _root_.id
  clear c0 c1 c2 c3 c4 c5 c6 c7 c8 c9 c10
  go_wp2_with fail
  refine bodyPost_ret (v := .tuple #[.agg t.cells, .bool true]) ?_ rfl ⟨rfl, ?_⟩
  · rw [results_cell_tmp rfl]
    go_simp
    rfl
  · exact Fr.alloc _ _ _

theorem task_no {b : JB} {n : Nat} {L : List T} (id : Int) (hwf : (Lit.int .i64 id).wf = true) (ht : find L id = none) (w : World) (h : JobsIs b n L w) :
    Calls Try.prog 13 #[.pointer (some ⟨b.pj, 0, none⟩), .int .i64 id] w fun e w' => e = .returned (.tuple #[.agg noTask.cells, .bool false]) ∧ Fr (fun _ => False) w w' := by
  obtain ⟨Q, rfl, hQ⟩ := h.at'
  have hsl := find_gone ht
  have HQ := hid hQ
  clear h hQ ht
  go_enter Try.func13, Try.ntmps13
  go_wp2_with fail
  have hfa : Fr (fun _ => False) w (w.alloc (Obj.cells #[.int .i64 0, .int .i64 0, .int .i64 0, .bool false, .bool false, .bool false, .bool false, .int .i64 0, .int .i64 0, .bool false, .int .i64 0] 35)) := Fr.alloc _ _ _
  refine (get_no id hwf hsl _ (HQ.out.kept hfa (fun _ _ => _root_.id))).mono ?_
  rintro e w' ⟨rfl, hw⟩
  have hw := hw.symm; subst hw
  go_wp2_with fail
  refine bodyPost_ret (v := .tuple #[.agg noTask.cells, .bool false]) ?_ rfl ⟨rfl, ?_⟩
  · rw [results_cell_tmp rfl]
    go_simp
    rfl
  · exact Fr.alloc _ _ _

theorem ids_jobs {b : JB} {n : Nat} {L : List T} (w : World) (h : JobsIs b n L w) :
    Calls Try.prog 26 #[.pointer (some ⟨b.pj, 0, none⟩)] w fun e w' => ∃ v, e = .returned v ∧ w'.ownsRow w.heap.size 3 1 v L.length (L.map (fun t => Value.int .i64 t.ID)) ∧ w.grownBy w' none := by
  obtain ⟨Q, rfl, hQ⟩ := h.at'
  have hc0 : w.cell? ⟨b.pj, 0, none⟩ = some (.pointer (some ⟨b.s.ps, 0, none⟩)) := by rw [cell_of_heap hQ.box]; rfl
  have HQ := hid hQ
  clear h hQ
  go_enter Try.func26, Try.ntmps26
  go_wp2_with fail
  refine (ids_any w HQ.out.slots).mono ?_
  rintro e w' ⟨v, rfl, hown, hg⟩
  have HO := hid hown
  have HG := hid hg
  clear hown hg
  go_wp2_with fail
  go_ret
  refine ⟨v, rfl, ?_, HG.out⟩
  have := HO.out
  rw [keysOf, List.map_map, List.length_map] at this
  rw [List.length_map, List.map_map]
  exact this

theorem Fr.cells {S : Nat → Prop} {b : Nat} (hb : S b) : ∀ (vs : List Value) (o : Nat) (w : World), Fr S w (w.setCells b o vs)
  | [], _, w => Fr.refl _ w
  | v :: r, o, w => (Fr.set w hb o v).trans (Fr.cells hb r (o + 1) _)
theorem setCells_heap {b : Nat} {ty : TypeId} : ∀ (vs : List Value) (o : Nat) (w : World) (cur : Array Value), w.heap[b]? = some (.cells cur ty (0, 0)) → o + vs.length ≤ cur.size →
    ∃ cur', (w.setCells b o vs).heap[b]? = some (.cells cur' ty (0, 0)) ∧ cur'.size = cur.size ∧ (∀ i, i < o ∨ o + vs.length ≤ i → cur'[i]? = cur[i]?) ∧ (∀ j, j < vs.length → cur'[o + j]? = vs[j]?)
  | [], o, w, cur, h, _ => ⟨cur, h, rfl, fun _ _ => rfl, fun j hj => by simp at hj⟩
  | v :: r, o, w, cur, h, hlen => by
    simp only [List.length_cons] at hlen
    obtain ⟨cur', h1, h2, h3, h4⟩ := setCells_heap r (o + 1) (w.setCell ⟨b, o, none⟩ v) _ (heap_set h o v) (by simp; omega)
    refine ⟨cur', h1, by simpa using h2, fun i hi => ?_, fun j hj => ?_⟩
    · simp only [List.length_cons] at hi
      rw [h3 i (by omega), Array.getElem?_setIfInBounds, if_neg (by omega)]
    · cases j with
      | zero =>
        rw [Nat.add_zero, h3 o (by omega), Array.getElem?_setIfInBounds, if_pos rfl, if_pos (by omega)]
        rfl
      | succ j =>
        simp only [List.length_cons] at hj
        rw [show o + (j + 1) = o + 1 + j by omega, h4 j (by omega)]
        rfl
theorem JobsAt.there {b : JB} {n : Nat} {Q : List (T × Nat)} {w : World} (h : JobsAt b n Q w) {s : Nat} (hs : s < n) : w.there b.bt (s * 11) 11 := by
  obtain ⟨cur, h1, h2, _⟩ := h.tasks
  intro j hj
  refine ⟨?_, free_of_heap h1 _⟩
  rw [cell_of_heap h1, Array.getElem?_eq_getElem (by omega)]
  rfl
theorem JobsAt.rangeAt {b : JB} {n : Nat} {Q : List (T × Nat)} {w : World} (h : JobsAt b n Q w) {t : T} {s : Nat} (hp : (t, s) ∈ Q) : w.rangeAt b.bt (s * 11) t.cells.toList := fun j v hv => h.cell hp (by simpa using hv)
theorem tasks_set {bt n : Nat} {Q : List (T × Nat)} {w : World} (h : ∃ cur, w.heap[bt]? = some (.cells cur 35 (0, 0)) ∧ cur.size = n * 11 ∧ ∀ p ∈ Q, ∀ j v, p.1.cells[j]? = some v → cur[p.2 * 11 + j]? = some v) {s : Nat} (hs : s < n) (t : T) : ∃ cur, (w.setCells bt (s * 11) t.cells.toList).heap[bt]? = some (.cells cur 35 (0, 0)) ∧ cur.size = n * 11 ∧
    (∀ p ∈ Q, p.2 ≠ s → ∀ j v, p.1.cells[j]? = some v → cur[p.2 * 11 + j]? = some v) ∧ ∀ j v, t.cells[j]? = some v → cur[s * 11 + j]? = some v := by
  obtain ⟨cur, h1, h2, h3⟩ := h
  have hl : t.cells.toList.length = 11 := rfl
  obtain ⟨cur', k1, k2, k3, k4⟩ := setCells_heap t.cells.toList (s * 11) w cur h1 (by omega)
  refine ⟨cur', k1, by omega, fun p hp hne j v hv => ?_, fun j v hv => ?_⟩
  · have hj : j < 11 := by simpa [T.cells] using (Array.getElem?_eq_some_iff.1 hv).1
    rw [k3 _ (by omega)]
    exact h3 p hp j v hv
  · have hj : j < 11 := by simpa [T.cells] using (Array.getElem?_eq_some_iff.1 hv).1
    rw [k4 j (by omega)]
    simpa using hv

def lessQ (Q : List (T × Nat)) (id : Int) : List (T × Nat) := Q.filter (fun p => !(p.1.ID == id))
theorem lessQ_keys (Q : List (T × Nat)) (id : Int) : keysOf (lessQ Q id) = lessId (keysOf Q) id := by
  rw [keysOf, lessQ, lessId, keysOf, List.filter_map]; rfl
theorem lessQ_list (Q : List (T × Nat)) (id : Int) : (lessQ Q id).map (·.1) = delT (Q.map (·.1)) id := by
  rw [lessQ, delT, List.filter_map]; rfl
def withQ : List (T × Nat) → T × Nat → List (T × Nat)
  | [], x => [x]
  | y :: r, x => if x.1.ID < y.1.ID then x :: y :: r else y :: withQ r x
theorem withQ_keys (x : T × Nat) : ∀ Q : List (T × Nat), keysOf (withQ Q x) = withId (keysOf Q) (x.1.ID, x.2)
  | [] => rfl
  | y :: r => by
    rw [withQ, show keysOf (y :: r) = (y.1.ID, y.2) :: keysOf r from rfl, withId]
    by_cases h : x.1.ID < y.1.ID
    · rw [if_pos h, if_pos h]; rfl
    · rw [if_neg h, if_neg h, ← withQ_keys x r]; rfl
theorem withQ_list (x : T × Nat) : ∀ Q : List (T × Nat), (withQ Q x).map (·.1) = insT (Q.map (·.1)) x.1
  | [] => rfl
  | y :: r => by
    rw [withQ, List.map_cons, insT]
    by_cases h : x.1.ID < y.1.ID
    · rw [if_pos h, if_pos h]; rfl
    · rw [if_neg h, if_neg h, ← withQ_list x r]; rfl
theorem mem_withQ {x y : T × Nat} : ∀ {Q : List (T × Nat)}, y ∈ withQ Q x → y = x ∨ y ∈ Q
  | [], h => by simpa [withQ] using h
  | z :: r, h => by
    rw [withQ] at h
    split at h
    · simpa using h
    · rcases List.mem_cons.1 h with h | h
      · exact .inr (by simp [h])
      · rcases mem_withQ h with h | h
        · exact .inl h
        · exact .inr (List.mem_cons_of_mem _ h)

theorem cells_one (t : T) : t.cells.all (·.oneCell') = true := Array.all_eq_true_iff_forall_mem.2 (fun v hv => by
  simp only [T.cells, List.mem_toArray, List.mem_cons, List.not_mem_nil, or_false] at hv
  rcases hv with h | h | h | h | h | h | h | h | h | h | h <;> subst h <;> rfl)
theorem info35 : (Try.prog.info? 35).map (·.size) = some 11 := by kernel_rfl

theorem gone_any {b : JB} {n : Nat} {L : List T} (id : Int) (hwf : (Lit.int .i64 id).wf = true) (t : T) (ht : find L id = some t) (w : World) (h : JobsIs b n L w) :
    Calls Try.prog 30 #[.pointer (some ⟨b.pj, 0, none⟩), .int .i64 id] w fun e w' => e = .returned (.tuple #[]) ∧ ∃ b', JobsIs b' n (delT L id) w' ∧ Went b b' w w' := by
  obtain ⟨Q, rfl, hQ⟩ := h.at'
  obtain ⟨s, hsl, hmem, hti⟩ := find_some ht
  have hsn := hQ.slots.slotOf_lt hsl
  have hth := hQ.there hsn
  have HQ := hid hQ
  obtain ⟨w2, hw2⟩ : ∃ x, x = w.setCells b.bt (s * 11) noTask.cells.toList := ⟨_, rfl⟩
  have hfr2 : Fr (fun k => k = b.bt) w w2 := by rw [hw2]; exact Fr.cells (S := fun k => k = b.bt) rfl _ _ _
  have hbox2 := hfr2.heap hQ.box hQ.apart.1
  have hc0 : w2.cell? ⟨b.pj, 0, none⟩ = some (.pointer (some ⟨b.s.ps, 0, none⟩)) := by rw [cell_of_heap hbox2]; rfl
  have hS2 := hQ.slots.kept hfr2 (fun k hk e => hQ.apart.2.2 (e ▸ hk))
  have HW := hid hw2
  have HF2 := hid hfr2
  have HS2 := hid hS2
  clear h hQ ht hw2 hfr2 hbox2 hS2
  subst hti
  go_enter Try.func30, Try.ntmps30
  go_wp2_with (first
    | (go_at_call 29; refine (get_yes t.ID s hwf hsl _ HQ.out).mono ?_; rintro e w' ⟨rfl, hw⟩; have hw := hw.symm; subst hw)
    | (refine wpList_store_mid rfl 35 _ _ rfl b.bt (s * 11) noTask.cells rfl rfl hth info35 (cells_one _) ?_; rw [← HW.out]))
  refine (drop_any t.ID s hwf hsl w2 HS2.out).mono ?_
  rintro e w3 ⟨rfl, g', cap', hS3, hg', hfr3⟩
  have HS3 := hid hS3
  have HF3 := hid hfr3
  clear hS3 hfr3 hc0
  go_wp2_with fail
  go_end0
  have hQ := HQ.out
  have hF2 := HF2.out
  obtain ⟨a1, a2, a3⟩ := hQ.apart
  obtain ⟨cur, k1, k2, k3, _⟩ := tasks_set hQ.tasks hsn noTask
  rw [← HW.out] at k1
  have hsz := hF2.size
  have lpj := lt_of_heap hQ.box
  have lbt : b.bt < w2.heap.size := lt_of_heap k1
  refine ⟨rfl, { b with s := { b.s with g := g', cap := cap' } }, ⟨lessQ Q t.ID, lessQ_list Q t.ID, ?_⟩, ?_⟩
  · refine ⟨HF3.out.heap (hF2.heap hQ.box a1) a2, ?_, ⟨cur, HF3.out.heap k1 a3, k2, fun p hp j v hv => ?_⟩, a1, ?_, ?_⟩
    · rw [lessQ_keys]; exact HS3.out
    · obtain ⟨hp1, hp2⟩ := List.mem_filter.1 hp
      refine k3 p hp1 (fun e => ?_) j v hv
      have := hQ.one hp1 hmem e
      rw [this] at hp2
      simp at hp2
    · intro e
      rcases e with e | e | e | e | e | e
      · exact a2 (.inl e)
      · exact a2 (.inr (.inl e))
      · exact a2 (.inr (.inr (.inl e)))
      · exact a2 (.inr (.inr (.inr (.inl e))))
      · exact a2 (.inr (.inr (.inr (.inr (.inl e)))))
      · rcases hg' with h | h
        · exact a2 (.inr (.inr (.inr (.inr (.inr (e.trans h))))))
        · simp only at e; omega
    · intro e
      rcases e with e | e | e | e | e | e
      · exact a3 (.inl e)
      · exact a3 (.inr (.inl e))
      · exact a3 (.inr (.inr (.inl e)))
      · exact a3 (.inr (.inr (.inr (.inl e))))
      · exact a3 (.inr (.inr (.inr (.inr (.inl e)))))
      · rcases hg' with h | h
        · exact a3 (.inr (.inr (.inr (.inr (.inr (e.trans h))))))
        · simp only at e; omega
  · refine ⟨(hF2.mono (fun k _ e => .inr (.inl e))).trans (HF3.out.mono (fun k _ e => .inr (.inr e))), ?_, rfl⟩
    intro k hk
    rcases hk with e | e | e | e | e | e | e | e
    · exact .inl (.inl e)
    · exact .inl (.inr (.inl e))
    · exact .inl (.inr (.inr (.inl e)))
    · exact .inl (.inr (.inr (.inr (.inl e))))
    · exact .inl (.inr (.inr (.inr (.inr (.inl e)))))
    · exact .inl (.inr (.inr (.inr (.inr (.inr (.inl e))))))
    · exact .inl (.inr (.inr (.inr (.inr (.inr (.inr (.inl e)))))))
    · rcases hg' with h | h
      · exact .inl (.inr (.inr (.inr (.inr (.inr (.inr (.inr (e.trans h))))))))
      · right; simp only at e; omega

theorem leave_any {b : JB} {n : Nat} {L : List T} (id : Int) (hwf : (Lit.int .i64 id).wf = true) (w : World) (h : JobsIs b n L w) :
    Calls Try.prog 12 #[.pointer (some ⟨b.pj, 0, none⟩), .int .i64 id] w fun e w' => e = .returned (.tuple #[.bool (mLeave L id).1.1, .int .i64 (mLeave L id).1.2]) ∧ ∃ b', JobsIs b' n (mLeave L id).2 w' ∧ Went b b' w w' := by
  have HJ := hid h
  obtain ⟨Q, rfl, hQ⟩ := h.at'
  cases hfd : find (Q.map (·.1)) id with
  | none =>
    have HQ := hid hQ
    have hm : mLeave (Q.map (·.1)) id = ((false, 5), Q.map (·.1)) := by simp [mLeave, hfd]
    rw [hm]
    have hsl := find_gone hfd
    clear hQ h hfd
    go_enter Try.func12, Try.ntmps12
    go_wp2_with fail
    refine (get_no id hwf hsl w HQ.out).mono ?_
    rintro e w' ⟨rfl, hw⟩
    have hw := hw.symm; subst hw
    go_wp2_with fail
    go_ret2
    exact ⟨rfl, b, HJ.out, Went.refl _ _⟩
  | some t =>
    obtain ⟨s, hsl, hmem, hti⟩ := find_some hfd
    have c4 : w.cell? ⟨b.bt, s * 11 + 4, none⟩ = some (.bool t.Lv) := hQ.cell hmem rfl
    have c6 : w.cell? ⟨b.bt, s * 11 + 6, none⟩ = some (.bool t.Ac) := hQ.cell hmem rfl
    have fz := hQ.cellFree (s * 11 + 4)
    have HQ := hid hQ
    have hput := hQ.put hmem (t := { t with Lv := true }) rfl (j := 4) (by omega) (v := .bool true) rfl
    have hul := upd_list hQ hmem (t := { t with Lv := true }) rfl
    have HU := hid hput
    have hm : mLeave (Q.map (·.1)) id = if t.Lv then ((false, 13), Q.map (·.1)) else if t.Ac then ((false, 0), (upd Q s { t with Lv := true }).map (·.1)) else ((true, 0), delT (Q.map (·.1)) id) := by
      rw [hul]; simp [mLeave, hfd]
    have hgn := hid (gone_any id hwf t hfd w h)
    clear hQ h hfd hput hul
    have hfr : Fr b.has w (w.setCell ⟨b.bt, s * 11 + 4, none⟩ (.bool true)) := Fr.set (S := b.has) w (.inr (.inl rfl)) _ _
    have HF := hid hfr
    clear hfr
    generalize hx : upd Q s { t with Lv := true } = Q' at *
    clear hx
    cases hlv : t.Lv <;> cases hac : t.Ac
    all_goals
      simp only [hlv, hac, Bool.false_eq_true, if_true, if_false] at hm c4 c6
      rw [hm]
      clear hm
      go_enter Try.func12, Try.ntmps12
      go_wp2_with fail
      refine (get_yes id s hwf hsl w HQ.out).mono ?_
      rintro e w' ⟨rfl, hw⟩
      have hw := hw.symm; subst hw
      go_wp2_with fail
      first
        | (go_ret2
           first
             | exact ⟨rfl, b, HJ.out, Went.refl _ _⟩
             | exact ⟨rfl, b, ⟨Q', rfl, HU.out⟩, HF.out, fun _ h => .inl h, rfl⟩)
        | (refine hgn.out.mono ?_
           rintro e w3 ⟨rfl, b', hJ', hW'⟩
           have HJ' := hid hJ'
           have HW' := hid hW'
           clear hJ' hW'
           go_wp2_with fail
           go_ret2
           exact ⟨rfl, b', HJ'.out, HW'.out⟩)

theorem join_any {b : JB} {n : Nat} {L : List T} (id E P : Int) (sp : Bool) (hwf : (Lit.int .i64 id).wf = true) (w : World) (h : JobsIs b n L w) :
    Calls Try.prog 9 #[.pointer (some ⟨b.pj, 0, none⟩), .int .i64 id, .int .i64 E, .int .i64 P, .bool sp] w fun e w' => e = .returned (.int .i64 (mJoin n L id E P sp).1) ∧ JobsIs b n (mJoin n L id E P sp).2 w' ∧ Went b b w w' := by
  have HJ := hid h
  by_cases hbad : E < 1 ∨ P < E ∨ 1048575 < P
  · have hm : mJoin n L id E P sp = (2, L) := by simp only [mJoin, if_pos hbad]
    rw [hm]
    clear h
    by_cases h1 : E < 1
    · go_enter Try.func9, Try.ntmps9
      go_wp2_with fail
      go_ret
      exact ⟨rfl, HJ.out, Went.refl _ _⟩
    · by_cases h2 : P < E
      · go_enter Try.func9, Try.ntmps9
        go_wp2_with fail
        go_ret
        exact ⟨rfl, HJ.out, Went.refl _ _⟩
      · have h3 : 1048575 < P := by omega
        go_enter Try.func9, Try.ntmps9
        go_wp2_with fail
        go_ret
        exact ⟨rfl, HJ.out, Went.refl _ _⟩
  · have h1 : ¬ E < 1 := by omega
    have h2 : ¬ P < E := by omega
    have h3 : ¬ 1048575 < P := by omega
    obtain ⟨Q, rfl, hQ⟩ := h.at'
    have hc0 : w.cell? ⟨b.pj, 0, none⟩ = some (.pointer (some ⟨b.s.ps, 0, none⟩)) := by rw [cell_of_heap hQ.box]; rfl
    have HQ := hid hQ
    have HB := hid hbad
    cases hfd : find (Q.map (·.1)) id with
    | some t =>
      obtain ⟨s, hsl, hmem, hti⟩ := find_some hfd
      have hm : mJoin n (Q.map (·.1)) id E P sp = (4, Q.map (·.1)) := by simp only [mJoin, if_neg hbad, hfd, Option.isSome_some, if_true]
      rw [hm]
      have hne : slotOf (keysOf Q) id ≠ none := by rw [hsl]; exact Option.some_ne_none _
      clear h hQ hfd hbad hm hsl
      go_enter Try.func9, Try.ntmps9
      go_wp2_with fail
      refine (put_there id hwf hne w HQ.out.slots).mono ?_
      rintro e w' ⟨rfl, hw⟩
      have hw := hw.symm; subst hw
      go_wp2_with fail
      go_ret
      exact ⟨rfl, HJ.out, Went.refl _ _⟩
    | none =>
      have hsl := find_gone hfd
      by_cases hfull : n ≤ Q.length
      · have hm : mJoin n (Q.map (·.1)) id E P sp = (6, Q.map (·.1)) := by
          simp only [mJoin, if_neg hbad, hfd, Option.isSome_none, List.length_map, if_pos hfull, Bool.false_eq_true, if_false]
        rw [hm]
        have hfull' : n ≤ (keysOf Q).length := by simpa [keysOf] using hfull
        clear h hQ hfd hbad hm
        go_enter Try.func9, Try.ntmps9
        go_wp2_with fail
        refine (put_full id hwf hsl hfull' w HQ.out.slots).mono ?_
        rintro e w' ⟨rfl, hw⟩
        have hw := hw.symm; subst hw
        go_wp2_with fail
        go_ret
        exact ⟨rfl, HJ.out, Went.refl _ _⟩
      · have hm : mJoin n (Q.map (·.1)) id E P sp = (0, insT (Q.map (·.1)) (made id E P sp)) := by
          simp only [mJoin, if_neg hbad, hfd, Option.isSome_none, List.length_map, if_neg hfull, Bool.false_eq_true, if_false]
        rw [hm]
        have hroom : (keysOf Q).length < n := by simpa [keysOf] using hfull
        clear h hQ hfd hbad hm
        go_enter Try.func9, Try.ntmps9
        go_wp2_with fail
        refine (put_any id hwf hsl hroom w HQ.out.slots).mono ?_
        rintro e w1 ⟨s, rfl, hsn, hnew, hS1, hfr1⟩
        have HS1 := hid hS1
        have HF1 := hid hfr1
        have HN := hid hnew
        have hbox1 := hfr1.heap HQ.out.box HQ.out.apart.2.1
        have hc1 : w1.cell? ⟨b.pj, 1, none⟩ = some (.slice (some ⟨b.bt, 0, none⟩) n n) := by rw [cell_of_heap hbox1]; rfl
        have HX1 := hid hbox1
        have hlow := HQ.out.slots.low
        have n1 : (0 : Int) ≤ (s : Int) := by omega
        have n2 : (s : Int) < (n : Int) := by omega
        clear hS1 hfr1 hnew hbox1 hc0
        obtain ⟨w2, hw2⟩ : ∃ x, x = w1.setCells b.bt (s * 11) (made id E P sp).cells.toList := ⟨_, rfl⟩
        have HW := hid hw2
        have hth : w1.there b.bt (s * 11) 11 := by
          obtain ⟨cur, k1, k2, _⟩ := HQ.out.tasks
          have k1' := HF1.out.heap k1 HQ.out.apart.2.2
          intro j hj
          refine ⟨?_, free_of_heap k1' _⟩
          rw [cell_of_heap k1', Array.getElem?_eq_getElem (by omega)]
          rfl
        clear hw2
        go_wp2_with (refine wpList_store_mid rfl 35 _ _ rfl b.bt (s * 11) (made id E P sp).cells rfl rfl hth info35 (cells_one _) ?_; rw [← HW.out])
        go_ret
        have hfr2 : Fr (fun k => k = b.bt) w1 w2 := by rw [HW.out]; exact Fr.cells (S := fun k => k = b.bt) rfl _ _ _
        have hQ := HQ.out
        obtain ⟨a1, a2, a3⟩ := hQ.apart
        have ht1 : ∃ cur, w1.heap[b.bt]? = some (.cells cur 35 (0, 0)) ∧ cur.size = n * 11 ∧ ∀ p ∈ Q, ∀ j v, p.1.cells[j]? = some v → cur[p.2 * 11 + j]? = some v := by
          obtain ⟨cur, k1, k2⟩ := hQ.tasks
          exact ⟨cur, HF1.out.heap k1 a3, k2⟩
        obtain ⟨cur, k1, k2, k3, k4⟩ := tasks_set ht1 hsn (made id E P sp)
        rw [← HW.out] at k1
        refine ⟨rfl, ⟨withQ Q (made id E P sp, s), withQ_list _ Q, ?_⟩, ?_⟩
        · refine ⟨hfr2.heap HX1.out a1, ?_, ⟨cur, k1, k2, fun p hp j v hv => ?_⟩, a1, a2, a3⟩
          · rw [withQ_keys]
            exact HS1.out.kept hfr2 (fun k hk e => a3 (e ▸ hk))
          · rcases mem_withQ hp with rfl | hp
            · exact k4 j v hv
            · refine k3 p hp (fun e => HN.out ?_) j v hv
              rw [keysOf, List.map_map]
              exact List.mem_map.2 ⟨p, hp, e⟩
        · exact ⟨(HF1.out.mono (fun k _ e => .inr (.inr e))).trans (hfr2.mono (fun k _ e => .inr (.inl e))), fun _ h => .inl h, rfl⟩
end Go.Proofs.Ytajlilcodnkfdaa
