/-
  The reference's jobs: a row of tasks behind a pointer; one place is read or written.
-/
import Derived.Test.YtajlilcodnkfdaaOwn
namespace Go.Proofs.Ytajlilcodnkfdaa
open Go.Proofs
open Go.RowKit Go.WideMaps

set_option linter.unusedSimpArgs false

def flat (M : List T) : List Value := M.flatMap (fun t => t.cells.toList)
theorem flat_cons (t : T) (M : List T) : flat (t :: M) = t.cells.toList ++ flat M := by simp [flat]
theorem flat_append (A B : List T) : flat (A ++ B) = flat A ++ flat B := by simp [flat]
theorem flat_length : ∀ M : List T, (flat M).length = M.length * 11
  | [] => rfl
  | t :: M => by
    rw [flat_cons, List.length_append, flat_length M, List.length_cons]
    show 11 + M.length * 11 = (M.length + 1) * 11
    omega
theorem flat_get : ∀ (M : List T) (i : Nat) (h : i < M.length) (j : Nat), j < 11 → (flat M)[i * 11 + j]? = (M[i]).cells[j]?
  | t :: M, 0, _, j, hj => by
    have hl : t.cells.toList.length = 11 := rfl
    rw [flat_cons, List.getElem?_append_left (by omega)]
    simp
  | t :: M, i + 1, h, j, hj => by
    have hl : t.cells.toList.length = 11 := rfl
    rw [flat_cons, List.getElem?_append_right (by omega), show (i + 1) * 11 + j - t.cells.toList.length = i * 11 + j by omega]
    exact flat_get M i (by simpa using h) j hj
theorem flat_one (t : T) : flat [t] = t.cells.toList := by simp [flat]
theorem flat_ones (M : List T) : ∀ v ∈ flat M, v.oneCell' = true := fun v hv => by
  obtain ⟨t, _, ht⟩ := List.mem_flatMap.1 hv
  exact (Array.all_eq_true_iff_forall_mem.1 (cells_one t)) v (by simpa using ht)

structure RefAt (bm n : Nat) (v : Value) (M : List T) (lo : Nat) (w : World) : Prop where
  box : w.heap[bm]? = some (.cells #[.int .i64 n, v] 47 (0, 0))
  row : w.ownsRow lo 54 11 v M.length (flat M)
  far : v.ownBlock ≠ some bm
  ge : lo ≤ bm
  low : M.length ≤ 4096

def RefAt.has (bm : Nat) (v : Value) (k : Nat) : Prop := k = bm ∨ v.ownBlock = some k

theorem RefAt.kept {bm n lo : Nat} {v : Value} {M : List T} {w w' : World} (h : RefAt bm n v M lo w) {S : Nat → Prop} (hf : Fr S w w') (hs : ∀ k, RefAt.has bm v k → ¬ S k) : RefAt bm n v M lo w' := by
  refine ⟨hf.heap h.box (hs _ (.inl rfl)), ⟨h.row.1, ?_⟩, h.far, h.ge, h.low⟩
  rcases h.row.2 with h2 | ⟨g, cap, cur, hv, hb, hg, r⟩
  · exact .inl h2
  · exact .inr ⟨g, cap, cur, hv, hb, hf.heap hg (hs g (.inr (by rw [hv]; rfl))), r⟩
theorem RefAt.quiet {bm n lo : Nat} {v : Value} {M : List T} {w w' : World} (h : RefAt bm n v M lo w) (hf : Fr (fun _ => False) w w') : RefAt bm n v M lo w' := h.kept hf (fun _ _ => _root_.id)

/-- What the walk is told of the row. -/
structure RefRow (ao : Option Addr) (cap : Nat) (v : Value) (M : List T) (w : World) : Prop where
  val : v = .slice ao M.length cap
  lecap : M.length ≤ cap
  cell : ∀ i, (h : i < M.length) → ∃ g, ao = some ⟨g, 0, none⟩ ∧ v.ownBlock = some g ∧ (∀ k, w.frozen? ⟨g, k, none⟩ = false) ∧ ∀ j u, (M[i]).cells[j]? = some u → w.cell? ⟨g, i * 11 + j, none⟩ = some u
theorem RefAt.open {bm n lo : Nat} {v : Value} {M : List T} {w : World} (h : RefAt bm n v M lo w) : ∃ ao cap, RefRow ao cap v M w := by
  rcases h.row.2 with ⟨h1, h2⟩ | ⟨g, cap, cur, hv, hb, hg, h1, h2, h3, ht⟩
  · exact ⟨none, 0, by rw [h2]; exact h1, by omega, fun i hi => by omega⟩
  · refine ⟨some ⟨g, 0, none⟩, cap, hv, h1, fun i hi => ⟨g, rfl, by rw [hv]; rfl, fun k => free_of_heap hg k, fun j u hu => ?_⟩⟩
    have hj : j < 11 := by
      have := (Array.getElem?_eq_some_iff.1 hu).1
      simpa [T.cells] using this
    rw [cell_of_heap hg, ← Array.getElem?_toList]
    have hlt : i * 11 + j < M.length * 11 := by omega
    have := congrArg (fun l => l[i * 11 + j]?) ht
    simp only [List.getElem?_take, if_pos hlt] at this
    rw [this, flat_get M i hi j hj, hu]
theorem RefAt.put {bm n lo : Nat} {v : Value} {A B : List T} {t t' : T} {w : World} (h : RefAt bm n v (A ++ t :: B) lo w) {g : Nat} (hg : v.ownBlock = some g) {j : Nat} (hj : j < 11) {u : Value} (hu : t'.cells = t.cells.setIfInBounds j u) :
    RefAt bm n v (A ++ t' :: B) lo (w.setCell ⟨g, A.length * 11 + j, none⟩ u) := by
  have hne : bm ≠ g := fun e => h.far (by rw [hg, e])
  rcases h.row.2 with ⟨h1, _⟩ | ⟨g', cap, cur, hv, hb, hgh, h1, h2, h3, ht⟩
  · rw [h1] at hg; cases hg
  · have e : g' = g := by rw [hv] at hg; simpa [Value.ownBlock] using hg
    subst e
    refine ⟨(heap_set_far hne _ _).trans h.box, ⟨?_, .inr ⟨g', cap, _, ?_, hb, heap_set hgh _ u, ?_, h2, by simpa using h3, ?_⟩⟩, h.far, h.ge, ?_⟩
    · rw [flat_length]
    · rw [hv]; simp
    · simpa using h1
    · have hl : t.cells.toList.length = 11 := rfl
      have hla := flat_length A
      have e1 : (A ++ t' :: B).length = (A ++ t :: B).length := by simp
      rw [e1, Array.toList_setIfInBounds, List.take_set, ht, flat_append, flat_append, flat_cons, flat_cons, hu, Array.toList_setIfInBounds,
        List.set_append_right _ _ (by omega), show A.length * 11 + j - (flat A).length = j by omega, List.set_append_left _ _ (by omega)]
    · have := h.low; simpa using this

/-! ### At -/
def idx : List T → Int → Int
  | [], _ => -1
  | t :: M, id => if t.ID = id then 0 else if idx M id < 0 then -1 else idx M id + 1
theorem find_split {M : List T} {id : Int} {t : T} (h : find M id = some t) : ∃ A B, M = A ++ t :: B ∧ (∀ x ∈ A, x.ID ≠ id) ∧ t.ID = id := by
  induction M with
  | nil => cases h
  | cons y r ih =>
    by_cases hy : y.ID = id
    · have : y = t := by simpa [find, hy] using h
      subst this
      exact ⟨[], r, rfl, (fun x hx => by cases hx), hy⟩
    · have h' : find r id = some t := by simpa [find, hy] using h
      obtain ⟨A, B, h1, h2, h3⟩ := ih h'
      refine ⟨y :: A, B, by rw [h1]; rfl, fun x hx => ?_, h3⟩
      rcases List.mem_cons.1 hx with rfl | hx
      · exact hy
      · exact h2 x hx

theorem at_none {bm n lo : Nat} {v : Value} {M : List T} (id : Int) (hno : ∀ x ∈ M, x.ID ≠ id) (w : World) (h : RefAt bm n v M lo w) :
    Calls Try.prog 23 #[.pointer (some ⟨bm, 0, none⟩), .int .i64 id] w fun e w' => e = .returned (.int .i64 (-1)) ∧ w' = w := by
  obtain ⟨ao, cap, hrow⟩ := h.open
  have hc : w.cell? ⟨bm, 1, none⟩ = some v := by rw [cell_of_heap h.box]; rfl
  have hlow := h.low
  obtain rfl := hrow.val
  have HR := hid hrow
  have HN := hid hno
  generalize hM : M.length = N at *
  clear h hrow hno
  go_enter Try.func23, Try.ntmps23
  go_wp2_with fail
  go_loop [5] (fun s => ∃ i : Nat, i ≤ N ∧ s = .int .i64 i) (fun s => N - (intOf s).toNat)
  case atStart => exact ⟨0, Nat.zero_le _, rfl⟩
  case round =>
    obtain ⟨i, hi, rfl⟩ := hrel
    by_cases hlt : i < N
    · have hiM : i < M.length := by omega
      obtain ⟨g, rfl, _, _, hcell⟩ := HR.out.cell i hiM
      have c0 : w.cell? ⟨g, i * 11, none⟩ = some (.int .i64 (M[i]'hiM).ID) := hcell 0 _ rfl
      have hne := HN.out _ (List.getElem_mem hiM)
      obtain ⟨x, hx⟩ : ∃ x, (M[i]'hiM).ID = x := ⟨_, rfl⟩
      rw [hx] at c0 hne
      have hb : (x == id) = false := by simpa using hne
      have i0 : (0 : Int) ≤ (i : Int) := by omega
      have i1 : (i : Int) < (N : Int) := by omega
      clear hcell hx hne
      go_wp2_with fail
      go_round
      case rel => exact ⟨i + 1, by omega, by go_num⟩
      case measure => simp [intOf]; omega
    · go_wp2_with fail
      go_ret
      exact ⟨rfl, rfl⟩
theorem at_idx {bm n lo : Nat} {v : Value} {M : List T} {a : Nat} {id : Int} (ha : a < M.length) (hid' : (M[a]'ha).ID = id) (hpre : ∀ i (h : i < a), (M[i]'(by omega)).ID ≠ id) (w : World) (h : RefAt bm n v M lo w) :
    Calls Try.prog 23 #[.pointer (some ⟨bm, 0, none⟩), .int .i64 id] w fun e w' => e = .returned (.int .i64 a) ∧ w' = w := by
  obtain ⟨ao, cap, hrow⟩ := h.open
  have hc : w.cell? ⟨bm, 1, none⟩ = some v := by rw [cell_of_heap h.box]; rfl
  have hlow := h.low
  obtain rfl := hrow.val
  have HR := hid hrow
  have HP := hid hpre
  have HAT := hid hid'
  clear h hrow hpre hid'
  go_enter Try.func23, Try.ntmps23
  go_wp2_with fail
  go_loop [5] (fun s => ∃ i : Nat, i ≤ a ∧ s = .int .i64 i) (fun s => a - (intOf s).toNat)
  case atStart => exact ⟨0, Nat.zero_le _, rfl⟩
  case round =>
    obtain ⟨i, hi, rfl⟩ := hrel
    have hiM : i < M.length := by omega
    obtain ⟨g, rfl, _, _, hcell⟩ := HR.out.cell i hiM
    have c0 : w.cell? ⟨g, i * 11, none⟩ = some (.int .i64 (M[i]'hiM).ID) := hcell 0 _ rfl
    have i0 : (0 : Int) ≤ (i : Int) := by omega
    have i1 : (i : Int) < (M.length : Int) := by omega
    by_cases hlt : i < a
    · have hne := HP.out i hlt
      obtain ⟨x, hx⟩ : ∃ x, (M[i]'hiM).ID = x := ⟨_, rfl⟩
      rw [hx] at c0 hne
      have hb : (x == id) = false := by simpa using hne
      clear hcell hx hne
      go_wp2_with fail
      go_round
      case rel => exact ⟨i + 1, by omega, by go_num⟩
      case measure => simp [intOf]; omega
    · obtain rfl : i = a := by omega
      have he := HAT.out
      rw [he] at c0
      clear hcell he
      go_wp2_with fail
      go_ret
      exact ⟨rfl, rfl⟩
theorem at_some {bm n lo : Nat} {v : Value} {A B : List T} {t : T} {id : Int} (hno : ∀ x ∈ A, x.ID ≠ id) (ht : t.ID = id) (w : World) (h : RefAt bm n v (A ++ t :: B) lo w) :
    Calls Try.prog 23 #[.pointer (some ⟨bm, 0, none⟩), .int .i64 id] w fun e w' => e = .returned (.int .i64 A.length) ∧ w' = w := by
  refine at_idx (by simp) (by simpa using ht) (fun i hi => ?_) w h
  rw [List.getElem_append_left hi]
  exact hno _ (List.getElem_mem hi)
end Go.Proofs.Ytajlilcodnkfdaa
