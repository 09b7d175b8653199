/-
  jobs.Jobs: tasks by id: one place is read or written.
-/
import Derived.Test.YtajlilcodnkfdaaSlots
import Derived.Test.YtajlilcodnkfdaaModel
namespace Go.Proofs.Ytajlilcodnkfdaa
open Go.Proofs
open Go.RowKit Go.WideMaps

set_option linter.unusedSimpArgs false

def T.cells (t : T) : Array Value := #[.int .i64 t.ID, .int .i64 t.E, .int .i64 t.P, .bool t.Sp, .bool t.Lv, .bool t.Wt, .bool t.Ac, .int .i64 t.Rl, .int .i64 t.Gt, .bool t.Dn, .int .i64 t.Ct]
def noTask : T := ⟨0, 0, 0, false, false, false, false, 0, 0, false, 0⟩

structure JB where
  (pj bt : Nat) (s : SB)
def JB.has (b : JB) (k : Nat) : Prop := k = b.pj ∨ k = b.bt ∨ b.s.has k

def keysOf (Q : List (T × Nat)) : List (Int × Nat) := Q.map (fun p => (p.1.ID, p.2))
/-- The task in slot s is t now. -/
def upd (Q : List (T × Nat)) (s : Nat) (t : T) : List (T × Nat) := Q.map (fun p => if p.2 = s then (t, s) else p)

structure JobsAt (b : JB) (n : Nat) (Q : List (T × Nat)) (w : World) : Prop where
  box : w.heap[b.pj]? = some (.cells #[.pointer (some ⟨b.s.ps, 0, none⟩), .slice (some ⟨b.bt, 0, none⟩) n n] 65 (0, 0))
  slots : SlotsAt b.s n (keysOf Q) w
  tasks : ∃ cur, w.heap[b.bt]? = some (.cells cur 35 (0, 0)) ∧ cur.size = n * 11 ∧ ∀ p ∈ Q, ∀ j v, p.1.cells[j]? = some v → cur[p.2 * 11 + j]? = some v
  apart : b.pj ≠ b.bt ∧ ¬ b.s.has b.pj ∧ ¬ b.s.has b.bt

theorem JobsAt.kept {b : JB} {n : Nat} {Q : List (T × Nat)} {w w' : World} (h : JobsAt b n Q w) {S : Nat → Prop} (hf : Fr S w w') (hs : ∀ k, b.has k → ¬ S k) : JobsAt b n Q w' where
  box := hf.heap h.box (hs _ (.inl rfl))
  slots := h.slots.kept hf (fun k hk => hs k (.inr (.inr hk)))
  tasks := by obtain ⟨c, h1, h2⟩ := h.tasks; exact ⟨c, hf.heap h1 (hs _ (.inr (.inl rfl))), h2⟩
  apart := h.apart

theorem SlotsAt.slots_nodup {b : SB} {n : Nat} {A : List (Int × Nat)} {w : World} (h : SlotsAt b n A w) : (A.map (·.2)).Nodup := by
  obtain ⟨F, _, h2⟩ := h.free
  have hnd : (nats n).Nodup := by
    unfold nats List.Nodup
    exact List.pairwise_map.2 (List.nodup_range.imp (fun h e => h (by omega)))
  have h1 := (List.nodup_append.1 (h2.symm.nodup hnd)).2.1
  unfold List.Nodup at h1 ⊢
  rw [List.pairwise_map] at h1 ⊢
  exact h1.imp (fun h e => h (by rw [e]))
theorem JobsAt.one {b : JB} {n : Nat} {Q : List (T × Nat)} {w : World} (h : JobsAt b n Q w) {p q : T × Nat} (hp : p ∈ Q) (hq : q ∈ Q) (he : p.2 = q.2) : p = q := by
  have h1 := h.slots.slots_nodup
  rw [keysOf, List.map_map] at h1
  have h2 : Q.Pairwise (fun p q => p.2 ≠ q.2) := List.pairwise_map.1 h1
  exact Classical.byContradiction fun hne => by
    rcases List.mem_iff_getElem.1 hp with ⟨i, hi, rfl⟩
    rcases List.mem_iff_getElem.1 hq with ⟨j, hj, rfl⟩
    rcases Nat.lt_trichotomy i j with h3 | h3 | h3
    · exact List.pairwise_iff_getElem.1 h2 i j hi hj h3 he
    · subst h3; exact hne rfl
    · exact List.pairwise_iff_getElem.1 h2 j i hj hi h3 he.symm

theorem keys_upd {Q : List (T × Nat)} {s : Nat} {t : T} (h : ∀ p ∈ Q, p.2 = s → p.1.ID = t.ID) : keysOf (upd Q s t) = keysOf Q := by
  rw [keysOf, upd, List.map_map]
  refine List.map_congr_left fun p hp => ?_
  show ((if p.2 = s then (t, s) else p : T × Nat).1.ID, (if p.2 = s then (t, s) else p : T × Nat).2) = (p.1.ID, p.2)
  split
  · next e => rw [h p hp e, e]
  · rfl
theorem mem_upd {Q : List (T × Nat)} {s : Nat} {t t0 : T} (h : (t0, s) ∈ Q) : (t, s) ∈ upd Q s t := List.mem_map.2 ⟨(t0, s), h, by simp⟩
theorem upd_upd (Q : List (T × Nat)) (s : Nat) (t u : T) : upd (upd Q s t) s u = upd Q s u := by
  rw [upd, upd, List.map_map]
  refine List.map_congr_left fun p _ => ?_
  show (if (if p.2 = s then (t, s) else p : T × Nat).2 = s then (u, s) else (if p.2 = s then (t, s) else p)) = _
  by_cases h : p.2 = s <;> simp [h]

theorem JobsAt.cell {b : JB} {n : Nat} {Q : List (T × Nat)} {w : World} (h : JobsAt b n Q w) {t : T} {s : Nat} (hp : (t, s) ∈ Q) {j : Nat} {v : Value} (hv : t.cells[j]? = some v) : w.cell? ⟨b.bt, s * 11 + j, none⟩ = some v := by
  obtain ⟨cur, h1, h2, h3⟩ := h.tasks
  rw [cell_of_heap h1]
  exact h3 _ hp j v hv
theorem JobsAt.cellFree {b : JB} {n : Nat} {Q : List (T × Nat)} {w : World} (h : JobsAt b n Q w) (i : Nat) : w.frozen? ⟨b.bt, i, none⟩ = false := by
  obtain ⟨cur, h1, _⟩ := h.tasks
  exact free_of_heap h1 i

theorem JobsAt.put {b : JB} {n : Nat} {Q : List (T × Nat)} {w : World} (h : JobsAt b n Q w) {t0 t : T} {s : Nat} (hp : (t0, s) ∈ Q) (hid : t.ID = t0.ID) {j : Nat} (hj : j < 11) {v : Value} (hv : t.cells = t0.cells.setIfInBounds j v) :
    JobsAt b n (upd Q s t) (w.setCell ⟨b.bt, s * 11 + j, none⟩ v) := by
  obtain ⟨a1, a2, a3⟩ := h.apart
  obtain ⟨cur, h1, h2, h3⟩ := h.tasks
  have hk : keysOf (upd Q s t) = keysOf Q := keys_upd (fun p hq e => by rw [h.one hq hp e]; exact hid.symm)
  have hf : Fr (fun k => k = b.bt) w (w.setCell ⟨b.bt, s * 11 + j, none⟩ v) := Fr.set (S := fun k => k = b.bt) w rfl _ _
  refine ⟨hf.heap h.box a1, ?_, ⟨_, heap_set h1 _ v, by simpa using h2, ?_⟩, h.apart⟩
  · rw [hk]
    exact h.slots.kept hf (fun k hk e => a3 (e ▸ hk))
  · intro p hpm i u hu
    obtain ⟨q, hq, rfl⟩ := List.mem_map.1 hpm
    rw [Array.getElem?_setIfInBounds]
    have hi : i < 11 := by
      have := (Array.getElem?_eq_some_iff.1 hu).1
      simpa [T.cells] using this
    by_cases he : q.2 = s
    · have hq2 := h.one hq hp he
      subst hq2
      simp only [if_pos] at hu ⊢
      rw [hv, Array.getElem?_setIfInBounds] at hu
      by_cases hij : j = i
      · subst hij
        rw [if_pos rfl, if_pos (by simp [T.cells]; omega)] at hu
        have hlt : s < n := h.slots.slot_lt (p := (t0.ID, s)) (List.mem_map.2 ⟨(t0, s), hp, rfl⟩)
        rw [if_pos rfl, if_pos (by omega)]
        exact hu
      · rw [if_neg hij] at hu
        rw [if_neg (by omega)]
        exact h3 _ hp i u hu
    · simp only [if_neg he] at hu ⊢
      rw [if_neg (by omega)]
      exact h3 _ hq i u hu

/-! ### by id -/
structure JobsIs (b : JB) (n : Nat) (L : List T) (w : World) : Prop where
  at' : ∃ Q, Q.map (·.1) = L ∧ JobsAt b n Q w

theorem JobsIs.kept {b : JB} {n : Nat} {L : List T} {w w' : World} (h : JobsIs b n L w) {S : Nat → Prop} (hf : Fr S w w') (hs : ∀ k, b.has k → ¬ S k) : JobsIs b n L w' := by
  obtain ⟨Q, h1, h2⟩ := h.at'
  exact ⟨Q, h1, h2.kept hf hs⟩
theorem find_slot (Q : List (T × Nat)) (id : Int) : find (Q.map (·.1)) id = (Q.find? (fun p => p.1.ID == id)).map (·.1) ∧ slotOf (keysOf Q) id = (Q.find? (fun p => p.1.ID == id)).map (·.2) := by
  constructor
  · rw [find, List.find?_map]; rfl
  · rw [slotOf, keysOf, List.find?_map, Option.map_map]; rfl
theorem find_some {Q : List (T × Nat)} {id : Int} {t : T} (h : find (Q.map (·.1)) id = some t) : ∃ s, slotOf (keysOf Q) id = some s ∧ (t, s) ∈ Q ∧ t.ID = id := by
  obtain ⟨h1, h2⟩ := find_slot Q id
  rw [h1] at h
  obtain ⟨p, hp, rfl⟩ := Option.map_eq_some_iff.1 h
  exact ⟨p.2, by rw [h2, hp]; rfl, List.mem_of_find?_eq_some hp, by simpa using List.find?_some hp⟩
theorem find_gone {Q : List (T × Nat)} {id : Int} (h : find (Q.map (·.1)) id = none) : slotOf (keysOf Q) id = none := by
  obtain ⟨h1, h2⟩ := find_slot Q id
  rw [h1, Option.map_eq_none_iff] at h
  rw [h2, h]; rfl
theorem JobsAt.rising {b : JB} {n : Nat} {Q : List (T × Nat)} {w : World} (h : JobsAt b n Q w) : Rising (Q.map (·.1)) := by
  have := h.slots.sorted
  rw [keysOf, List.pairwise_map] at this
  exact List.pairwise_map.2 this
theorem JobsIs.rising {b : JB} {n : Nat} {L : List T} {w : World} (h : JobsIs b n L w) : Rising L := by
  obtain ⟨Q, rfl, h2⟩ := h.at'
  exact h2.rising
theorem upd_list {b : JB} {n : Nat} {Q : List (T × Nat)} {w : World} (h : JobsAt b n Q w) {t t0 : T} {s : Nat} (hp : (t0, s) ∈ Q) (hi : t.ID = t0.ID) : (upd Q s t).map (·.1) = setT (Q.map (·.1)) t := by
  rw [upd, setT, List.map_map, List.map_map]
  refine List.map_congr_left fun p hq => ?_
  show (if p.2 = s then (t, s) else p : T × Nat).1 = if p.1.ID = t.ID then t else p.1
  by_cases he : p.2 = s
  · have := h.one hq hp he
    subst this
    rw [if_pos rfl, if_pos hi.symm]
  · rw [if_neg he, if_neg]
    intro e
    have hr := h.slots.sorted
    rw [keysOf, List.pairwise_map] at hr
    have : p = (t0, s) := by
      rcases List.mem_iff_getElem.1 hq with ⟨i, hi', rfl⟩
      rcases List.mem_iff_getElem.1 hp with ⟨j, hj, hj'⟩
      rcases Nat.lt_trichotomy i j with h3 | h3 | h3
      · have := List.pairwise_iff_getElem.1 hr i j hi' hj h3
        rw [hj'] at this
        simp only at this
        omega
      · subst h3; exact hj'
      · have := List.pairwise_iff_getElem.1 hr j i hj hi' h3
        rw [hj'] at this
        simp only at this
        omega
    exact he (by rw [this])

theorem get_no {b : JB} {n : Nat} {Q : List (T × Nat)} (id : Int) (hwf : (Lit.int .i64 id).wf = true) (hs : slotOf (keysOf Q) id = none) (w : World) (h : JobsAt b n Q w) :
    Calls Try.prog 29 #[.pointer (some ⟨b.pj, 0, none⟩), .int .i64 id] w fun e w' => e = .returned (.pointer none) ∧ w' = w := by
  have hc0 : w.cell? ⟨b.pj, 0, none⟩ = some (.pointer (some ⟨b.s.ps, 0, none⟩)) := by rw [cell_of_heap h.box]; rfl
  have HS := hid h.slots
  clear h
  go_enter Try.func29, Try.ntmps29
  go_wp2_with fail
  refine (get_any id hwf w HS.out).mono ?_
  rintro e w' ⟨rfl, hw⟩
  have hw := hw.symm; subst hw
  rw [hs]
  simp only [Option.getD_none, Option.isSome_none]
  go_wp2_with fail
  go_ret
  exact ⟨rfl, rfl⟩
theorem get_yes {b : JB} {n : Nat} {Q : List (T × Nat)} (id : Int) (s : Nat) (hwf : (Lit.int .i64 id).wf = true) (hs : slotOf (keysOf Q) id = some s) (w : World) (h : JobsAt b n Q w) :
    Calls Try.prog 29 #[.pointer (some ⟨b.pj, 0, none⟩), .int .i64 id] w fun e w' => e = .returned (.pointer (some ⟨b.bt, s * 11, none⟩)) ∧ w' = w := by
  have hc0 : w.cell? ⟨b.pj, 0, none⟩ = some (.pointer (some ⟨b.s.ps, 0, none⟩)) := by rw [cell_of_heap h.box]; rfl
  have hc1 : w.cell? ⟨b.pj, 1, none⟩ = some (.slice (some ⟨b.bt, 0, none⟩) n n) := by rw [cell_of_heap h.box]; rfl
  have hlt := h.slots.slotOf_lt hs
  have hlow := h.slots.low
  have HS := hid h.slots
  have n1 : (0 : Int) ≤ (s : Int) := by omega
  have n2 : (s : Int) < (n : Int) := by omega
  clear h
  go_enter Try.func29, Try.ntmps29
  go_wp2_with fail
  refine (get_any id hwf w HS.out).mono ?_
  rintro e w' ⟨rfl, hw⟩
  have hw := hw.symm; subst hw
  rw [hs]
  simp only [Option.getD_some, Option.isSome_some]
  go_wp2_with fail
  go_ret
  exact ⟨rfl, rfl⟩

/-- What is asked of a call: nobody else's memory turns; the table's own blocks may move to new ones. -/
structure Went (b b' : JB) (w w' : World) : Prop where
  fr : Fr b.has w w'
  new : ∀ k, b'.has k → b.has k ∨ w.heap.size ≤ k
  same : b'.pj = b.pj
theorem Went.refl (b : JB) (w : World) : Went b b w w := ⟨Fr.refl _ _, fun _ h => .inl h, rfl⟩
theorem Went.trans {b1 b2 b3 : JB} {w1 w2 w3 : World} (h : Went b1 b2 w1 w2) (k : Went b2 b3 w2 w3) : Went b1 b3 w1 w3 :=
  ⟨h.fr.then k.fr h.new, fun i hi => (k.new i hi).elim (h.new i) (fun e => .inr (Nat.le_trans h.fr.size e)), k.same.trans h.same⟩

theorem arrive_any {b : JB} {n : Nat} {L : List T} (id : Int) (hwf : (Lit.int .i64 id).wf = true) (w : World) (h : JobsIs b n L w) :
    Calls Try.prog 15 #[.pointer (some ⟨b.pj, 0, none⟩), .int .i64 id] w fun e w' => e = .returned (.int .i64 (mArrive L id).1) ∧ JobsIs b n (mArrive L id).2 w' ∧ Went b b w w' := by
  obtain ⟨Q, rfl, hQ⟩ := h.at'
  cases hfd : find (Q.map (·.1)) id with
  | none =>
    have HQ := hid hQ
    have hm : mArrive (Q.map (·.1)) id = (5, Q.map (·.1)) := by simp [mArrive, hfd]
    rw [hm]
    have hsl := find_gone hfd
    clear hQ h hfd
    go_enter Try.func15, Try.ntmps15
    go_wp2_with fail
    refine (get_no id hwf hsl w HQ.out).mono ?_
    rintro e w' ⟨rfl, hw⟩
    have hw := hw.symm; subst hw
    go_wp2_with fail
    go_ret
    exact ⟨rfl, ⟨Q, rfl, HQ.out⟩, Went.refl _ _⟩
  | some t =>
    obtain ⟨s, hsl, hmem, hti⟩ := find_some hfd
    have c3 : w.cell? ⟨b.bt, s * 11 + 3, none⟩ = some (.bool t.Sp) := hQ.cell hmem rfl
    have c4 : w.cell? ⟨b.bt, s * 11 + 4, none⟩ = some (.bool t.Lv) := hQ.cell hmem rfl
    have c5 : w.cell? ⟨b.bt, s * 11 + 5, none⟩ = some (.bool t.Wt) := hQ.cell hmem rfl
    have c6 : w.cell? ⟨b.bt, s * 11 + 6, none⟩ = some (.bool t.Ac) := hQ.cell hmem rfl
    have fz := hQ.cellFree (s * 11 + 5)
    have HQ := hid hQ
    have hput := hQ.put hmem (t := { t with Wt := true }) rfl (j := 5) (by omega) (v := .bool true) rfl
    have hul := upd_list hQ hmem (t := { t with Wt := true }) rfl
    have HU := hid hput
    have hm : mArrive (Q.map (·.1)) id = if t.Sp then (if t.Lv then (13, Q.map (·.1)) else if t.Ac || t.Wt then (10, Q.map (·.1)) else (0, (upd Q s { t with Wt := true }).map (·.1))) else (9, Q.map (·.1)) := by
      rw [hul]; simp [mArrive, hfd]
    clear hQ h hfd hput hul
    have hfr : Fr b.has w (w.setCell ⟨b.bt, s * 11 + 5, none⟩ (.bool true)) := Fr.set (S := b.has) w (.inr (.inl rfl)) _ _
    have HF := hid hfr
    clear hfr
    generalize hx : upd Q s { t with Wt := true } = Q' at *
    clear hx
    cases hsp : t.Sp <;> cases hlv : t.Lv <;> cases hac : t.Ac <;> cases hwt : t.Wt
    all_goals
      simp only [hsp, hlv, hac, hwt, Bool.or_true, Bool.or_false, Bool.true_or, Bool.false_or, Bool.false_eq_true, if_true, if_false] at hm c3 c4 c5 c6
      rw [hm]
      clear hm
      go_enter Try.func15, Try.ntmps15
      go_wp2_with fail
      refine (get_yes id s hwf hsl w HQ.out).mono ?_
      rintro e w' ⟨rfl, hw⟩
      have hw := hw.symm; subst hw
      go_wp2_with fail
      go_ret
      first
        | exact ⟨rfl, ⟨Q, rfl, HQ.out⟩, Went.refl _ _⟩
        | exact ⟨rfl, ⟨Q', rfl, HU.out⟩, HF.out, fun _ h => .inl h, rfl⟩

theorem finish_any {b : JB} {n : Nat} {L : List T} (id : Int) (hwf : (Lit.int .i64 id).wf = true) (w : World) (h : JobsIs b n L w) :
    Calls Try.prog 19 #[.pointer (some ⟨b.pj, 0, none⟩), .int .i64 id] w fun e w' => e = .returned (.int .i64 (mFinish L id).1) ∧ JobsIs b n (mFinish L id).2 w' ∧ Went b b w w' := by
  obtain ⟨Q, rfl, hQ⟩ := h.at'
  cases hfd : find (Q.map (·.1)) id with
  | none =>
    have HQ := hid hQ
    have hm : mFinish (Q.map (·.1)) id = (5, Q.map (·.1)) := by simp [mFinish, hfd]
    rw [hm]
    have hsl := find_gone hfd
    clear hQ h hfd
    go_enter Try.func19, Try.ntmps19
    go_wp2_with fail
    refine (get_no id hwf hsl w HQ.out).mono ?_
    rintro e w' ⟨rfl, hw⟩
    have hw := hw.symm; subst hw
    go_wp2_with fail
    go_ret
    exact ⟨rfl, ⟨Q, rfl, HQ.out⟩, Went.refl _ _⟩
  | some t =>
    obtain ⟨s, hsl, hmem, hti⟩ := find_some hfd
    have c1 : w.cell? ⟨b.bt, s * 11 + 1, none⟩ = some (.int .i64 t.E) := hQ.cell hmem rfl
    have c6 : w.cell? ⟨b.bt, s * 11 + 6, none⟩ = some (.bool t.Ac) := hQ.cell hmem rfl
    have c8 : w.cell? ⟨b.bt, s * 11 + 8, none⟩ = some (.int .i64 t.Gt) := hQ.cell hmem rfl
    have c9 : w.cell? ⟨b.bt, s * 11 + 9, none⟩ = some (.bool t.Dn) := hQ.cell hmem rfl
    have fz := hQ.cellFree (s * 11 + 9)
    have HQ := hid hQ
    have hput := fun q : Nat => (hQ.kept (S := fun _ => False) (Fr.drewN _ w q) (fun _ _ => _root_.id)).put hmem (t := { t with Dn := true }) rfl (j := 9) (by omega) (v := .bool true) rfl
    have hul := upd_list hQ hmem (t := { t with Dn := true }) rfl
    have HU := hid hput
    have hm : mFinish (Q.map (·.1)) id = if t.Ac then (if t.Dn || t.Gt == t.E then (12, Q.map (·.1)) else (0, (upd Q s { t with Dn := true }).map (·.1))) else (11, Q.map (·.1)) := by
      rw [hul]; simp [mFinish, hfd]
    clear hQ h hfd hput hul
    have hfr : ∀ q : Nat, Fr b.has w ((w.drewN q).setCell ⟨b.bt, s * 11 + 9, none⟩ (.bool true)) := fun q => (Fr.drewN _ w q).trans (Fr.set (S := b.has) _ (.inr (.inl rfl)) _ _)
    have HF := hid hfr
    clear hfr
    generalize hx : upd Q s { t with Dn := true } = Q' at *
    clear hx
    cases hac : t.Ac <;> cases hdn : t.Dn <;> cases hge : (t.Gt == t.E)
    all_goals
      simp only [hac, hdn, hge, Bool.or_true, Bool.or_false, Bool.true_or, Bool.false_or, Bool.false_eq_true, if_true, if_false] at hm c6 c9
      rw [hm]
      clear hm
      have hne : decide (t.Gt = t.E) = (t.Gt == t.E) := rfl
      rw [hge] at hne
      go_enter Try.func19, Try.ntmps19
      go_wp2_with fail
      refine (get_yes id s hwf hsl w HQ.out).mono ?_
      rintro e w' ⟨rfl, hw⟩
      have hw := hw.symm; subst hw
      first
        | (go_upto_region 8 with fail
           go_quiet (fail)
           go_wp2_with fail)
        | go_wp2_with fail
      go_ret
      first
        | exact ⟨rfl, ⟨Q, rfl, HQ.out⟩, Went.refl _ _⟩
        | exact ⟨rfl, ⟨Q, rfl, HQ.out.kept (S := fun _ => False) (Fr.drewN _ _ _) (fun _ _ => _root_.id)⟩, Fr.drewN _ _ _, fun _ h => .inl h, rfl⟩
        | exact ⟨rfl, ⟨Q', rfl, HU.out _⟩, HF.out _, fun _ h => .inl h, rfl⟩

theorem give_any {b : JB} {n : Nat} {L : List T} {c : Int} (hgood : Good c L) (id : Int) (hwf : (Lit.int .i64 id).wf = true) (w : World) (h : JobsIs b n L w) :
    Calls Try.prog 24 #[.pointer (some ⟨b.pj, 0, none⟩), .int .i64 id] w fun e w' => e = .returned (.bool (mGive L id).1) ∧ JobsIs b n (mGive L id).2 w' ∧ Went b b w w' := by
  obtain ⟨Q, rfl, hQ⟩ := h.at'
  cases hfd : find (Q.map (·.1)) id with
  | none =>
    have HQ := hid hQ
    have hm : mGive (Q.map (·.1)) id = (false, Q.map (·.1)) := by simp [mGive, hfd]
    rw [hm]
    have hsl := find_gone hfd
    clear hQ h hfd hgood
    go_enter Try.func24, Try.ntmps24
    go_wp2_with fail
    refine (get_no id hwf hsl w HQ.out).mono ?_
    rintro e w' ⟨rfl, hw⟩
    have hw := hw.symm; subst hw
    go_upto_region 2 with fail
    go_quiet (fail)
    go_wp2_with fail
    go_ret
    exact ⟨rfl, ⟨Q, rfl, HQ.out.kept (S := fun _ => False) (Fr.drewN _ _ _) (fun _ _ => _root_.id)⟩, Fr.drewN _ _ _, fun _ h => .inl h, rfl⟩
  | some t =>
    obtain ⟨s, hsl, hmem, hti⟩ := find_some hfd
    have c1 : w.cell? ⟨b.bt, s * 11 + 1, none⟩ = some (.int .i64 t.E) := hQ.cell hmem rfl
    have c6 : w.cell? ⟨b.bt, s * 11 + 6, none⟩ = some (.bool t.Ac) := hQ.cell hmem rfl
    have c8 : w.cell? ⟨b.bt, s * 11 + 8, none⟩ = some (.int .i64 t.Gt) := hQ.cell hmem rfl
    have fz := hQ.cellFree (s * 11 + 8)
    have hok := hgood t (find_mem hfd).1
    have o1 := hok.g0
    have o2 := hok.ge
    have o3 := hok.ep
    have o4 := hok.p1
    have HQ := hid hQ
    have hput := fun q : Nat => (hQ.kept (S := fun _ => False) (Fr.drewN _ w q) (fun _ _ => _root_.id)).put hmem (t := { t with Gt := t.Gt + 1 }) rfl (j := 8) (by omega) (v := .int .i64 (t.Gt + 1)) rfl
    have hul := upd_list hQ hmem (t := { t with Gt := t.Gt + 1 }) rfl
    have HU := hid hput
    have hm : mGive (Q.map (·.1)) id = if t.Ac && !(t.Gt == t.E) then (true, (upd Q s { t with Gt := t.Gt + 1 }).map (·.1)) else (false, Q.map (·.1)) := by
      rw [hul]; simp [mGive, hfd]
    clear hQ h hfd hput hul hok hgood
    have hfr : ∀ q : Nat, Fr b.has w ((w.drewN q).setCell ⟨b.bt, s * 11 + 8, none⟩ (.int .i64 (t.Gt + 1))) := fun q => (Fr.drewN _ w q).trans (Fr.set (S := b.has) _ (.inr (.inl rfl)) _ _)
    have HF := hid hfr
    clear hfr
    generalize hx : upd Q s { t with Gt := t.Gt + 1 } = Q' at *
    clear hx
    cases hac : t.Ac <;> cases hge : (t.Gt == t.E)
    all_goals
      simp only [hac, hge, Bool.and_true, Bool.and_false, Bool.true_and, Bool.false_and, Bool.not_true, Bool.not_false, Bool.false_eq_true, if_true, if_false] at hm c6
      rw [hm]
      clear hm
      have hne : decide (t.Gt = t.E) = (t.Gt == t.E) := rfl
      rw [hge] at hne
      go_enter Try.func24, Try.ntmps24
      go_wp2_with fail
      refine (get_yes id s hwf hsl w HQ.out).mono ?_
      rintro e w' ⟨rfl, hw⟩
      have hw := hw.symm; subst hw
      go_upto_region 2 with fail
      go_quiet (fail)
      go_wp2_with fail
      go_ret
      first
        | exact ⟨rfl, ⟨Q, rfl, HQ.out.kept (S := fun _ => False) (Fr.drewN _ _ _) (fun _ _ => _root_.id)⟩, Fr.drewN _ _ _, fun _ h => .inl h, rfl⟩
        | exact ⟨rfl, ⟨Q', rfl, HU.out _⟩, HF.out _, fun _ h => .inl h, rfl⟩
end Go.Proofs.Ytajlilcodnkfdaa
