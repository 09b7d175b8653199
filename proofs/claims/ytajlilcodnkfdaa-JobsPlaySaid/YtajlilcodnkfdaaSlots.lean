/-
  slots.Slots: what it holds is a list of ids with their slots, rising by id; the free slots are the others.
-/
import Derived.Test.YtajlilcodnkfdaaHeap
import Derived.Test.YtajlilcodnkfdaaBase
import Derived.Test.YtajlilcodnkfdaaKeys
import Derived.WideKeyEntry
namespace Go.Proofs.Ytajlilcodnkfdaa
open Go.Proofs
open Go.RowKit Go.WideMaps

def entryOf (p : Int × Nat) : Lit × DataW Unit := (.int .i64 p.1, .lit (.int .i64 (p.2 : Int)))
def mapOf (A : List (Int × Nat)) : DataW Unit := .map (A.map entryOf)
def slotOf (A : List (Int × Nat)) (id : Int) : Option Nat := (A.find? (fun p => p.1 == id)).map (·.2)
/-- With one more, at its place. -/
def withId : List (Int × Nat) → Int × Nat → List (Int × Nat)
  | [], x => [x]
  | y :: r, x => if x.1 < y.1 then x :: y :: r else y :: withId r x
def lessId (A : List (Int × Nat)) (id : Int) : List (Int × Nat) := A.filter (fun p => !(p.1 == id))

theorem same_int (a b : Int) : (Lit.int .i64 a).sameKey (Lit.int .i64 b) = (a == b) := by
  by_cases h : a = b <;> simp [Lit.sameKey, h]

theorem mapOf_at (A : List (Int × Nat)) (id : Int) : (mapOf A).atKey (.int .i64 id) (.lit (.int .i64 0)) = .lit (.int .i64 (((slotOf A id).getD 0 : Nat) : Int)) ∧ Maps.has (mapOf A) (.int .i64 id) = (slotOf A id).isSome := by
  have hf : ((fun p : Lit × DataW Unit => p.1.sameKey (.int .i64 id)) ∘ entryOf) = (fun p : Int × Nat => p.1 == id) := by
    funext p; exact same_int _ _
  constructor
  · simp only [mapOf, DataW.atKey, List.find?_map, hf, slotOf]
    cases A.find? (fun p => p.1 == id) <;> rfl
  · show (A.map entryOf).any (fun p => p.1.sameKey (.int .i64 id)) = _
    rw [List.any_map, hf, slotOf, Option.isSome_map]
    rw [Bool.eq_iff_iff]
    simp [List.find?_isSome]

theorem filter_entries (A : List (Int × Nat)) (id : Int) : (A.map entryOf).filter (fun p => !p.1.sameKey (.int .i64 id)) = (lessId A id).map entryOf := by
  have hf : ((fun p : Lit × DataW Unit => !p.1.sameKey (.int .i64 id)) ∘ entryOf) = (fun p : Int × Nat => !(p.1 == id)) := by
    funext p; exact congrArg _ (same_int _ _)
  rw [List.filter_map, hf, lessId]

theorem mapOf_del (A : List (Int × Nat)) (id : Int) : (mapOf A).del (.int .i64 id) = mapOf (lessId A id) := congrArg DataW.map (filter_entries A id)

theorem insert_entries (x : Int × Nat) : ∀ A : List (Int × Nat), DataW.insert (entryOf x) (A.map entryOf) = (withId A x).map entryOf
  | [] => rfl
  | y :: r => by
    have hb : (entryOf x).1.before (entryOf y).1 = decide (x.1 < y.1) := rfl
    rw [List.map_cons, DataW.insert, hb, withId]
    by_cases h : x.1 < y.1
    · simp [h]
    · simp [h, insert_entries x r]

theorem lessId_none {A : List (Int × Nat)} {id : Int} (h : slotOf A id = none) : lessId A id = A := by
  simp only [slotOf, Option.map_eq_none_iff, List.find?_eq_none] at h
  simp only [lessId, List.filter_eq_self]
  intro p hp
  simpa using h p hp

theorem mapOf_put {A : List (Int × Nat)} {id : Int} (h : slotOf A id = none) (s : Nat) : (mapOf A).put (.int .i64 id) (.lit (.int .i64 (s : Int))) = mapOf (withId A (id, s)) := by
  show DataW.map (DataW.insert (entryOf (id, s)) ((A.map entryOf).filter fun p => !p.1.sameKey (.int .i64 id))) = _
  rw [filter_entries, lessId_none h, insert_entries]; rfl

theorem withId_perm (x : Int × Nat) : ∀ A : List (Int × Nat), (withId A x).Perm (x :: A)
  | [] => List.Perm.refl _
  | y :: r => by
    rw [withId]
    split
    · exact List.Perm.refl _
    · exact ((withId_perm x r).cons y).trans (List.Perm.swap x y r)

theorem withId_sorted {x : Int × Nat} : ∀ {A : List (Int × Nat)}, A.Pairwise (fun p q => p.1 < q.1) → slotOf A x.1 = none → (withId A x).Pairwise (fun p q => p.1 < q.1)
  | [], _, _ => by simp [withId]
  | y :: r, h, hn => by
    simp only [slotOf, Option.map_eq_none_iff, List.find?_eq_none] at hn
    have hy := hn y (by simp)
    have hr : slotOf r x.1 = none := by
      simp only [slotOf, Option.map_eq_none_iff, List.find?_eq_none]
      exact fun p hp => hn p (List.mem_cons_of_mem _ hp)
    rw [List.pairwise_cons] at h
    rw [withId]
    split
    · next hl =>
      rw [List.pairwise_cons]
      refine ⟨fun p hp => ?_, List.pairwise_cons.2 h⟩
      rcases List.mem_cons.1 hp with rfl | hp
      · exact hl
      · exact Int.lt_trans hl (h.1 p hp)
    · next hl =>
      rw [List.pairwise_cons]
      refine ⟨fun p hp => ?_, withId_sorted h.2 hr⟩
      rcases List.mem_cons.1 ((withId_perm x r).mem_iff.1 hp) with rfl | hp
      · simp at hy; omega
      · exact h.1 p hp

/-- The blocks of a table of slots. -/
structure SB where
  (ps bi bu bm pf g cap : Nat)
def SB.has (b : SB) (k : Nat) : Prop := k = b.ps ∨ k = b.bi ∨ k = b.bu ∨ k = b.bm ∨ k = b.pf ∨ k = b.g

def nats (n : Nat) : List Int := (List.range n).map (fun (i : Nat) => (i : Int))

structure SlotsAt (b : SB) (n : Nat) (A : List (Int × Nat)) (w : World) : Prop where
  box : w.heap[b.ps]? = some (.cells #[.slice (some ⟨b.bi, 0, none⟩) n n, .slice (some ⟨b.bu, 0, none⟩) n n, .map (some b.bm), .pointer (some ⟨b.pf, 0, none⟩)] 78 (0, 0))
  ids : ∃ cur, w.heap[b.bi]? = some (.cells cur 3 (0, 0)) ∧ cur.size = n
  used : ∃ cur, w.heap[b.bu]? = some (.cells cur 4 (0, 0)) ∧ cur.size = n
  map : w.ownsMap Try.prog 3 (plainElem (H := Unit) Try.prog 3) b.bm A.length (mapOf A)
  free : ∃ F, FreeAt b.pf b.g b.cap F.length F w ∧ (F ++ A.map (fun p => (p.2 : Int))).Perm (nats n)
  sorted : A.Pairwise (fun p q => p.1 < q.1)
  wf : ∀ p ∈ A, (Lit.int .i64 p.1).wf = true
  low : n ≤ 4096
  apart : [b.ps, b.bi, b.bu, b.bm, b.pf, b.g].Nodup

theorem zero3 (w : World) : (zeroValue 3).run Try.prog w = .ok (.int .i64 0) w := by kernel_rfl

theorem SlotsAt.kept {b : SB} {n : Nat} {A : List (Int × Nat)} {w w' : World} (h : SlotsAt b n A w) {S : Nat → Prop} (hf : Fr S w w') (hs : ∀ k, b.has k → ¬ S k) : SlotsAt b n A w' where
  box := hf.heap h.box (hs _ (.inl rfl))
  ids := by obtain ⟨c, h1, h2⟩ := h.ids; exact ⟨c, hf.heap h1 (hs _ (.inr (.inl rfl))), h2⟩
  used := by obtain ⟨c, h1, h2⟩ := h.used; exact ⟨c, hf.heap h1 (hs _ (.inr (.inr (.inl rfl)))), h2⟩
  map := by
    obtain ⟨es, clock, hb, r⟩ := h.map
    exact ⟨es, clock, hf.heap hb (hs _ (.inr (.inr (.inr (.inl rfl))))), r⟩
  free := by obtain ⟨F, h1, h2⟩ := h.free; exact ⟨F, h1.kept hf (hs _ (.inr (.inr (.inr (.inr (.inl rfl)))))) (hs _ (.inr (.inr (.inr (.inr (.inr rfl)))))), h2⟩
  sorted := h.sorted
  wf := h.wf
  low := h.low
  apart := h.apart

theorem SlotsAt.slot_lt {b : SB} {n : Nat} {A : List (Int × Nat)} {w : World} (h : SlotsAt b n A w) {p : Int × Nat} (hp : p ∈ A) : p.2 < n := by
  obtain ⟨F, _, h2⟩ := h.free
  have : (p.2 : Int) ∈ nats n := h2.mem_iff.1 (List.mem_append_right _ (List.mem_map.2 ⟨p, hp, rfl⟩))
  simp [nats] at this
  omega
theorem SlotsAt.slotOf_lt {b : SB} {n : Nat} {A : List (Int × Nat)} {w : World} (h : SlotsAt b n A w) {id : Int} {s : Nat} (hp : slotOf A id = some s) : s < n := by
  simp only [slotOf, Option.map_eq_some_iff] at hp
  obtain ⟨p, hp, rfl⟩ := hp
  exact h.slot_lt (List.mem_of_find?_eq_some hp)

theorem get_any {b : SB} {n : Nat} {A : List (Int × Nat)} (id : Int) (hwf : (Lit.int .i64 id).wf = true) (w : World) (h : SlotsAt b n A w) :
    Calls Try.prog 38 #[.pointer (some ⟨b.ps, 0, none⟩), .int .i64 id] w fun e w' => e = .returned (.tuple #[.int .i64 (((slotOf A id).getD 0 : Nat) : Int), .bool (slotOf A id).isSome]) ∧ w' = w := by
  have hm := h.map
  have hc : w.cell? ⟨b.ps, 2, none⟩ = some (.map (some b.bm)) := by rw [cell_of_heap h.box]; rfl
  obtain ⟨h1, h2⟩ := mapOf_at A id
  have H1 := hid h1
  have H2 := hid h2
  clear h h1 h2
  go_enter Try.func38, Try.ntmps38
  go_wp2_with (at_lookup; refine wpList_lookup_own_ok_int _ rfl _ _ 74 rfl 3 3 .i64 (Maps.int_keyed Try.underlying3) Try.underlying74 Try.underlying3 (zero3 _) b.bm _ _ rfl hm _ _ rfl (Maps.keyOf_int_mk Try.underlying3 hwf) ?_; intro c hat hwc)
  have hc' : c = (((slotOf A id).getD 0 : Nat) : Int) := by
    have := hat.symm.trans H1.out
    injection this with this
    injection this
  have he : Ending.returned (.tuple #[.int .i64 c, .bool (Maps.has (mapOf A) (.int .i64 id))]) = .returned (.tuple #[.int .i64 (((slotOf A id).getD 0 : Nat) : Int), .bool (slotOf A id).isSome]) := by rw [hc', H2.out]
  go_ret2
  exact ⟨he, rfl⟩

/-! ### IDs -/
theorem sortsA (m : Nat) : AnyZI.SortsIn Try.prog Try.sortedA_ren Fence.wide m :=
  ⟨fun blk off cap ss W hH hblk hsz => callsIn_wide.2 (AnyM.slices_Sort_int Try.sortA blk off cap ss W hH hblk hsz),
   fun p cap W => callsIn_wide.2 (AnyM.slices_Sort_int_none Try.sortA p cap W)⟩

set_option maxHeartbeats 1000000 in
theorem ids_map (bps bm nn : Nat) (D0 : DataW Unit) (c0 c1 c3 : Value) (w : World) (hbox : w.heap[bps]? = some (.cells #[c0, c1, .map (some bm), c3] 78 (0, 0))) (hown : w.ownsMap Try.prog 3 (plainElem (H := Unit) Try.prog 3) bm nn D0) (hmax : Maps.size D0 ≤ 4096) :
    Calls Try.prog 34 #[.pointer (some ⟨bps, 0, none⟩)] w fun e w' => ∃ (v : Value) (ss : List Int), e = .returned v ∧ ss.Perm (Go.intKeys D0) ∧
      w'.ownsRow w.heap.size 3 1 v ss.length ((ss.mergeSort (fun x y => decide (x ≤ y))).map encZ) ∧ Below w.heap.size w w' := by
  refine (callsIn_wide (n := 6)).1 ?_
  have hbl := hown.lt
  have hc : w.cell? ⟨bps, 2, none⟩ = some (.map (some bm)) := by rw [cell_of_heap hbox]; rfl
  have hseq : SeqGives Fence.wide 2 Try.prog 46 #[.pointer (some ⟨w.heap.size, 0, none⟩)] encZ (fun ss => ss.Perm (Go.intKeys D0)) (Maps.size D0) (w.alloc (.cells #[.map (some bm)] 74)) :=
    AnyZI.keys_gives (ρ := Try.keysA_ren) { Try.keysA with } Fence.wide _ trivial rfl (by omega) w.heap.size bm nn D0 _ (by simp) (by simp) (by
      obtain ⟨es, clock, hb, Ft, hs, hD⟩ := hown
      exact ⟨es, clock, (Below.heap_alloc _ _ bm hbl).trans hb, Ft, hs, hD⟩)
  have cK : ∀ mb W, CallsIn Fence.wide 5 Try.prog 41 #[.map mb] W fun e w' => e = .returned (.func (.func 46) #[] #[.pointer (some ⟨W.heap.size, 0, none⟩)]) ∧ w' = W.alloc (.cells #[.map mb] 74) := fun mb W => AnyZI.keys_in Try.keysA Fence.wide 5 trivial rfl mb W
  have cS := AnyZI.sorted_in Try.sortedA Fence.wide 5 trivial trivial trivial trivial rfl (by omega) (sortsA _) (enters_of Try.func45 (by kernel_rfl) rfl) 46 #[.pointer (some ⟨w.heap.size, 0, none⟩)] trivial (enters_of Try.func46 (by kernel_rfl) rfl) _ _ (Nat.le_trans hmax (by decide)) (by omega) _ hseq
  change CallsIn _ _ Try.prog 40 _ _ _ at cS
  have hfK : Fence.wide.fn 41 := trivial
  have hfS : Fence.wide.fn 40 := trivial
  refine callsIn_of_wp Try.func34 rfl trivial ?_ rfl
  simp only [Try.ntmps34, List.size_toArray, List.length_cons, List.length_nil, Nat.reduceAdd, Nat.reduceSub, Array.replicate_succ, Array.replicate_zero, List.push_toArray, List.append_toArray, List.nil_append, List.cons_append]
  gi_wp2_with (first
    | (gi_at_call 41; refine (cK _ _).mono ?_; rintro e w' ⟨rfl, rfl⟩)
    | (gi_at_call 40; refine cS.mono ?_; rintro e w' ⟨v, ss, rfl, hS, hrow, hnil, hb⟩))
  go_ret
  exact ⟨v, ss, rfl, hS, ownsRow_base_a hrow (by simp), ((Below.refl _ w).alloc (Nat.le_refl _) _).trans (hb.mono (by simp))⟩

theorem intKeys_mapOf (A : List (Int × Nat)) : Go.intKeys (mapOf A) = A.map (·.1) := by
  simp only [mapOf, Go.intKeys, List.map_map]; rfl
theorem sorted_keys {A : List (Int × Nat)} (h : A.Pairwise (fun p q => p.1 < q.1)) {ss : List Int} (hp : ss.Perm (A.map (·.1))) : ss.mergeSort (fun x y => decide (x ≤ y)) = A.map (·.1) := by
  rw [mergeSort_of_perm_i hp]
  refine List.mergeSort_of_pairwise ?_
  rw [List.pairwise_map]
  exact h.imp (fun h => by simpa using Int.le_of_lt h)

theorem ids_any {b : SB} {n : Nat} {A : List (Int × Nat)} (w : World) (h : SlotsAt b n A w) :
    Calls Try.prog 34 #[.pointer (some ⟨b.ps, 0, none⟩)] w fun e w' => ∃ v, e = .returned v ∧ w'.ownsRow w.heap.size 3 1 v A.length (A.map (fun p => Value.int .i64 p.1)) ∧ w.grownBy w' none := by
  have hl : A.length ≤ n := by
    obtain ⟨F, _, h2⟩ := h.free
    have := h2.length_eq
    simp [nats] at this
    omega
  have hlow := h.low
  refine (ids_map b.ps b.bm _ _ _ _ _ w h.box h.map (by simp [mapOf, Maps.size]; omega)).mono ?_
  rintro e w' ⟨v, ss, rfl, hp, hrow, hb⟩
  rw [intKeys_mapOf] at hp
  have hlen := hp.length_eq
  rw [sorted_keys h.sorted hp, List.map_map, hlen, List.length_map] at hrow
  exact ⟨v, rfl, hrow, hb.os, hb.tape, hb.output, hb.size, fun k hk _ => hb.block k hk⟩

/-! ### Drop -/
theorem Fr.turned {S : Nat → Prop} {w w' : World} {b : Nat} (h : w.mapTurned w' b) (hb : S b) : Fr S w w' := by
  obtain ⟨es, c, es', c', h1, rfl⟩ := h
  refine ⟨rfl, rfl, rfl, by simp [Go.ChangeMaps.setBlock], fun k hk hn => ?_⟩
  show (w.heap.setIfInBounds b _)[k]? = _
  rw [Array.getElem?_setIfInBounds_ne]
  rintro rfl
  exact hn hb
theorem own_tight {w : World} {bm n : Nat} {A : List (Int × Nat)} (h : w.ownsMap Try.prog 3 (plainElem (H := Unit) Try.prog 3) bm n (mapOf A)) : w.ownsMap Try.prog 3 (plainElem (H := Unit) Try.prog 3) bm A.length (mapOf A) := by
  obtain ⟨es, clock, hb, F, hs, hD⟩ := h
  refine ⟨es, clock, hb, F, ?_, hD⟩
  simp only [mapOf, DataW.map.injEq] at hD
  have := congrArg List.length hD
  rw [length_sorted] at this
  simp at this
  omega
/-- While a slot goes from one to the other. -/
structure SlotsMid (b : SB) (n : Nat) (A : List (Int × Nat)) (F : List Int) (w : World) : Prop where
  box : w.heap[b.ps]? = some (.cells #[.slice (some ⟨b.bi, 0, none⟩) n n, .slice (some ⟨b.bu, 0, none⟩) n n, .map (some b.bm), .pointer (some ⟨b.pf, 0, none⟩)] 78 (0, 0))
  ids : ∃ cur, w.heap[b.bi]? = some (.cells cur 3 (0, 0)) ∧ cur.size = n
  used : ∃ cur, w.heap[b.bu]? = some (.cells cur 4 (0, 0)) ∧ cur.size = n
  map : w.ownsMap Try.prog 3 (plainElem (H := Unit) Try.prog 3) b.bm A.length (mapOf A)
  free : FreeAt b.pf b.g b.cap F.length F w
  apart : [b.ps, b.bi, b.bu, b.bm, b.pf, b.g].Nodup

theorem SlotsAt.mid {b : SB} {n : Nat} {A : List (Int × Nat)} {w : World} (h : SlotsAt b n A w) : ∃ F, SlotsMid b n A F w ∧ (F ++ A.map (fun p => (p.2 : Int))).Perm (nats n) := by
  obtain ⟨F, h1, h2⟩ := h.free
  exact ⟨F, ⟨h.box, h.ids, h.used, h.map, h1, h.apart⟩, h2⟩
theorem SlotsMid.whole {b : SB} {n : Nat} {A : List (Int × Nat)} {F : List Int} {w : World} (h : SlotsMid b n A F w) (hp : (F ++ A.map (fun p => (p.2 : Int))).Perm (nats n))
    (hs : A.Pairwise (fun p q => p.1 < q.1)) (hw : ∀ p ∈ A, (Lit.int .i64 p.1).wf = true) (hn : n ≤ 4096) : SlotsAt b n A w :=
  ⟨h.box, h.ids, h.used, h.map, ⟨F, h.free, hp⟩, hs, hw, hn, h.apart⟩
theorem nodup_six {a b c d e f : Nat} (h : [a, b, c, d, e, f].Nodup) : (a ≠ b ∧ a ≠ c ∧ a ≠ d ∧ a ≠ e ∧ a ≠ f) ∧ (b ≠ c ∧ b ≠ d ∧ b ≠ e ∧ b ≠ f) ∧ (c ≠ d ∧ c ≠ e ∧ c ≠ f) ∧ (d ≠ e ∧ d ≠ f) ∧ e ≠ f := by
  simp only [List.nodup_cons, List.mem_cons, List.not_mem_nil, or_false, not_or] at h
  obtain ⟨h1, h2, h3, h4, h5, -⟩ := h
  exact ⟨h1, h2, h3, h4, h5⟩
theorem SlotsMid.turn {b : SB} {n : Nat} {A A' : List (Int × Nat)} {F : List Int} {w w1 : World} (h : SlotsMid b n A F w) (hf : Fr (fun k => k = b.bm) w w1) {m : Nat} (hm : w1.ownsMap Try.prog 3 (plainElem (H := Unit) Try.prog 3) b.bm m (mapOf A')) : SlotsMid b n A' F w1 := by
  obtain ⟨⟨p1, p2, p3, p4, p5⟩, ⟨p6, p7, p8, p9⟩, ⟨p10, p11, p12⟩, ⟨p13, p14⟩, p15⟩ := nodup_six h.apart
  obtain ⟨ci, k1, k2⟩ := h.ids
  obtain ⟨cu, k3, k4⟩ := h.used
  exact ⟨hf.heap h.box p3, ⟨ci, hf.heap k1 p7, k2⟩, ⟨cu, hf.heap k3 p10, k4⟩, own_tight hm, h.free.kept hf (Ne.symm p13) (Ne.symm p14), h.apart⟩
theorem SlotsMid.ids_set {b : SB} {n : Nat} {A : List (Int × Nat)} {F : List Int} {w : World} (h : SlotsMid b n A F w) (i : Nat) (v : Value) : SlotsMid b n A F (w.setCell ⟨b.bi, i, none⟩ v) := by
  obtain ⟨⟨p1, p2, p3, p4, p5⟩, ⟨p6, p7, p8, p9⟩, ⟨p10, p11, p12⟩, ⟨p13, p14⟩, p15⟩ := nodup_six h.apart
  obtain ⟨ci, k1, k2⟩ := h.ids
  obtain ⟨cu, k3, k4⟩ := h.used
  have hf : Fr (fun k => k = b.bi) w (w.setCell ⟨b.bi, i, none⟩ v) := Fr.set (S := fun k => k = b.bi) w rfl i v
  exact ⟨hf.heap h.box p1, ⟨_, heap_set k1 i v, by simp [k2]⟩, ⟨cu, hf.heap k3 (Ne.symm p6), k4⟩,
    by obtain ⟨es, clock, hb, r⟩ := h.map; exact ⟨es, clock, hf.heap hb (Ne.symm p7), r⟩, h.free.kept hf (Ne.symm p8) (Ne.symm p9), h.apart⟩
theorem SlotsMid.used_set {b : SB} {n : Nat} {A : List (Int × Nat)} {F : List Int} {w : World} (h : SlotsMid b n A F w) (i : Nat) (v : Value) : SlotsMid b n A F (w.setCell ⟨b.bu, i, none⟩ v) := by
  obtain ⟨⟨p1, p2, p3, p4, p5⟩, ⟨p6, p7, p8, p9⟩, ⟨p10, p11, p12⟩, ⟨p13, p14⟩, p15⟩ := nodup_six h.apart
  obtain ⟨ci, k1, k2⟩ := h.ids
  obtain ⟨cu, k3, k4⟩ := h.used
  have hf : Fr (fun k => k = b.bu) w (w.setCell ⟨b.bu, i, none⟩ v) := Fr.set (S := fun k => k = b.bu) w rfl i v
  exact ⟨hf.heap h.box p2, ⟨ci, hf.heap k1 p6, k2⟩, ⟨_, heap_set k3 i v, by simp [k4]⟩,
    by obtain ⟨es, clock, hb, r⟩ := h.map; exact ⟨es, clock, hf.heap hb (Ne.symm p10), r⟩, h.free.kept hf (Ne.symm p11) (Ne.symm p12), h.apart⟩
theorem SlotsMid.free_to {b : SB} {n : Nat} {A : List (Int × Nat)} {F F' : List Int} {w w' : World} {g' cap' : Nat} (h : SlotsMid b n A F w) (hf : Fr (fun k => k = b.pf ∨ k = b.g) w w') (hF : FreeAt b.pf g' cap' F'.length F' w') (hg : g' = b.g ∨ w.heap.size ≤ g') : SlotsMid { b with g := g', cap := cap' } n A F' w' := by
  obtain ⟨⟨p1, p2, p3, p4, p5⟩, ⟨p6, p7, p8, p9⟩, ⟨p10, p11, p12⟩, ⟨p13, p14⟩, p15⟩ := nodup_six h.apart
  obtain ⟨ci, k1, k2⟩ := h.ids
  obtain ⟨cu, k3, k4⟩ := h.used
  have l1 := lt_of_heap h.box
  have l2 := lt_of_heap k1
  have l3 := lt_of_heap k3
  have l4 := h.map.lt
  have l5 := lt_of_heap h.free.box
  have q : b.ps ≠ g' ∧ b.bi ≠ g' ∧ b.bu ≠ g' ∧ b.bm ≠ g' ∧ b.pf ≠ g' := by
    rcases hg with rfl | hg
    · exact ⟨p5, p9, p12, p14, p15⟩
    · refine ⟨?_, ?_, ?_, ?_, ?_⟩ <;> omega
  refine ⟨hf.heap h.box (fun h => h.elim p4 p5), ⟨ci, hf.heap k1 (fun h => h.elim p8 p9), k2⟩, ⟨cu, hf.heap k3 (fun h => h.elim p11 p12), k4⟩,
    by obtain ⟨es, clock, hb, r⟩ := h.map; exact ⟨es, clock, hf.heap hb (fun h => h.elim p13 p14), r⟩, hF, ?_⟩
  simp only [List.nodup_cons, List.mem_cons, List.not_mem_nil, or_false, not_or, List.nodup_nil, and_true, not_false_eq_true]
  exact ⟨⟨p1, p2, p3, p4, q.1⟩, ⟨p6, p7, p8, q.2.1⟩, ⟨p10, p11, q.2.2.1⟩, ⟨p13, q.2.2.2.1⟩, q.2.2.2.2⟩
theorem SlotsMid.drew {b : SB} {n : Nat} {A : List (Int × Nat)} {F : List Int} {w : World} (h : SlotsMid b n A F w) : SlotsMid b n A F w.drew := h.turn (Fr.drew _ _) (m := A.length) (by obtain ⟨es, clock, r⟩ := h.map; exact ⟨es, clock, r⟩)

/-- An id's slot goes back. -/
theorem lessId_perm : ∀ {A : List (Int × Nat)} {id : Int} {s : Nat}, A.Pairwise (fun p q => p.1 < q.1) → slotOf A id = some s → A.Perm ((id, s) :: lessId A id)
  | [], _, _, _, h => by simp [slotOf] at h
  | y :: r, id, s, hA, h => by
    rw [List.pairwise_cons] at hA
    by_cases hy : y.1 = id
    · have h1 : s = y.2 := by simpa [slotOf, hy] using h.symm
      have h2 : lessId (y :: r) id = r := by
        have h3 : r.filter (fun p => !(p.1 == id)) = r := by
          rw [List.filter_eq_self]
          intro p hp
          have := hA.1 p hp
          simp
          omega
        simp only [lessId, List.filter_cons]
        simp [hy, h3]
      rw [h2, h1, ← hy]
    · have h1 : slotOf r id = some s := by simpa [slotOf, hy] using h
      have h2 : lessId (y :: r) id = y :: lessId r id := by simp [lessId, hy]
      rw [h2]
      exact ((lessId_perm hA.2 h1).cons y).trans (List.Perm.swap _ _ _)
theorem lessId_sub (A : List (Int × Nat)) (id : Int) : (lessId A id).Sublist A := List.filter_sublist

theorem drop_any {b : SB} {n : Nat} {A : List (Int × Nat)} (id : Int) (s : Nat) (hwf : (Lit.int .i64 id).wf = true) (hs : slotOf A id = some s) (w : World) (h : SlotsAt b n A w) :
    Calls Try.prog 39 #[.pointer (some ⟨b.ps, 0, none⟩), .int .i64 id] w fun e w' => e = .returned (.bool true) ∧ ∃ g' cap', SlotsAt { b with g := g', cap := cap' } n (lessId A id) w' ∧ (g' = b.g ∨ w.heap.size ≤ g') ∧ Fr b.has w w' := by
  have HH := hid h
  have hc2 : w.cell? ⟨b.ps, 2, none⟩ = some (.map (some b.bm)) := by rw [cell_of_heap h.box]; rfl
  have hlt := h.slotOf_lt hs
  have hm := h.map
  have hlow := h.low
  clear h
  go_enter Try.func39, Try.ntmps39
  go_wp2_with fail
  refine (get_any id hwf w HH.out).mono ?_
  rintro e w' ⟨rfl, hw⟩
  have hw := hw.symm; subst hw
  rw [hs]
  simp only [Option.getD_some, Option.isSome_some]
  go_wp2_with (at_delete; refine wpList_delete_own _ rfl _ _ 74 3 rfl 3 (Maps.int_keyed Try.underlying3) Try.underlying74 _ b.bm _ _ rfl hm _ _ rfl (Maps.keyOf_int_mk Try.underlying3 hwf) ?_; intro w1 hown1 hturn1)
  rw [mapOf_del] at hown1
  have hap := HH.out.apart
  simp only [List.nodup_cons, List.mem_cons, List.not_mem_nil, or_false, not_or] at hap
  obtain ⟨⟨p1, p2, p3, p4, p5⟩, ⟨p6, p7, p8, p9⟩, ⟨p10, p11, p12⟩, ⟨p13, p14⟩, p15, -⟩ := hap
  have hfr1 : Fr (fun k => k = b.bm) w w1 := Fr.turned hturn1 rfl
  have hb1 := hfr1.heap HH.out.box p3
  obtain ⟨ci, k1, k2⟩ := HH.out.ids
  obtain ⟨cu, k3, k4⟩ := HH.out.used
  have hi1 := hfr1.heap k1 p7
  have hu1 := hfr1.heap k3 p10
  have hc0 : w1.cell? ⟨b.ps, 0, none⟩ = some (.slice (some ⟨b.bi, 0, none⟩) n n) := by rw [cell_of_heap hb1]; rfl
  have hc1 : w1.cell? ⟨b.ps, 1, none⟩ = some (.slice (some ⟨b.bu, 0, none⟩) n n) := by rw [cell_of_heap hb1]; rfl
  have hc1' : ∀ v, (w1.setCell ⟨b.bi, s, none⟩ v).cell? ⟨b.ps, 1, none⟩ = some (.slice (some ⟨b.bu, 0, none⟩) n n) := fun v => kc_set hc1 (Ne.symm p1) v
  have hci : w1.cell? ⟨b.bi, s, none⟩ = some (ci[s]'(by omega)) := by rw [cell_of_heap hi1]; exact Array.getElem?_eq_getElem (by omega)
  have hcu : w1.cell? ⟨b.bu, s, none⟩ = some (cu[s]'(by omega)) := by rw [cell_of_heap hu1]; exact Array.getElem?_eq_getElem (by omega)
  have hcu' : ∀ v, (w1.setCell ⟨b.bi, s, none⟩ v).cell? ⟨b.bu, s, none⟩ = some (cu[s]'(by omega)) := fun v => kc_set hcu p6 v
  have hfi : w1.frozen? ⟨b.bi, s, none⟩ = false := free_of_heap hi1 s
  have hfu : w1.frozen? ⟨b.bu, s, none⟩ = false := free_of_heap hu1 s
  generalize ci[s]'(by omega) = vi at *
  generalize cu[s]'(by omega) = vu at *
  have HF1 := hid hfr1
  have HT := hid hown1
  have n1 : (0 : Int) ≤ (s : Int) := by omega
  have n2 : (s : Int) < (n : Int) := by omega
  clear hfr1 hown1 hturn1 hb1 k1 k3 hi1 hu1 hm
  obtain ⟨F, hmid, hperm⟩ := HH.out.mid
  have hmid2 : SlotsMid b n (lessId A id) F ((w1.setCell ⟨b.bi, s, none⟩ (.int .i64 0)).setCell ⟨b.bu, s, none⟩ (.bool false)).drew := (((hmid.turn HF1.out HT.out).ids_set s _).used_set s _).drew
  have hfr2 : Fr b.has w ((w1.setCell ⟨b.bi, s, none⟩ (.int .i64 0)).setCell ⟨b.bu, s, none⟩ (.bool false)).drew :=
    ((((HF1.out.mono (fun k _ h => by unfold SB.has; omega)).trans (Fr.set (S := b.has) _ (by unfold SB.has; omega) _ _))).trans (Fr.set (S := b.has) _ (by unfold SB.has; omega) _ _)).trans (Fr.drew _ _)
  have HM := hid hmid2
  have HR := hid hfr2
  have HP := hid hperm
  clear hmid hmid2 hfr2 hperm
  go_region
  clear hc0 hc1 hc1' hfi hfu hci hcu hcu' HT HF1
  generalize ((w1.setCell ⟨b.bi, s, none⟩ (.int .i64 0)).setCell ⟨b.bu, s, none⟩ (.bool false)).drew = w2 at *
  have hc3 : w2.cell? ⟨b.ps, 3, none⟩ = some (.pointer (some ⟨b.pf, 0, none⟩)) := by rw [cell_of_heap HM.out.box]; rfl
  have hFl : F.length < 4096 := by
    have := HP.out.length_eq
    have h2 := (lessId_perm HH.out.sorted hs).length_eq
    simp [nats] at this
    simp at h2
    omega
  go_wp2_with fail
  refine (heap_push_any (s : Int) w2 HM.out.free hFl).mono ?_
  rintro e w3 ⟨rfl, F', g', cap', hpF, hF', hg', hfr3⟩
  have hF'' : FreeAt b.pf g' cap' F'.length F' w3 := by rw [hpF.length_eq, List.length_append]; exact hF'
  have hM3 := HM.out.free_to hfr3 hF'' hg'
  have hR3 : Fr b.has w w3 := HR.out.trans (hfr3.mono (fun k _ h => by unfold SB.has; omega))
  have hres : SlotsAt { b with g := g', cap := cap' } n (lessId A id) w3 := by
    refine hM3.whole ?_ (HH.out.sorted.sublist (lessId_sub A id)) (fun p hp => HH.out.wf p ((lessId_sub A id).mem hp)) HH.out.low
    refine List.Perm.trans ?_ HP.out
    have h1 := (lessId_perm HH.out.sorted hs).map (fun p : Int × Nat => (p.2 : Int))
    refine (hpF.append_right _).trans ?_
    rw [List.append_assoc]
    exact List.Perm.append_left _ h1.symm
  have hsz := HR.out.size
  have HRES := hid hres
  have HR4 := hid hR3
  clear hF' hF'' hM3 hR3 hres hfr3 hpF HM HR hc3
  go_wp2_with fail
  go_ret
  exact ⟨rfl, g', cap', HRES.out, by omega, HR4.out⟩

/-! ### Put -/
open Go.ChangeMaps Go.MapKept in
theorem entry_new {bm N : Nat} {A : List (Int × Nat)} {id : Int} {s : Nat} {w : World} (h : w.ownsMap Try.prog 3 (plainElem (H := Unit) Try.prog 3) bm N (mapOf A)) (hwf : (Lit.int .i64 id).wf = true) (hn : slotOf A id = none)
    (hs : (Lit.int .i64 (s : Int)).wf = true) (hN : N < maxLen) : ∃ es clock es1 clock1 es2, w.heap[bm]? = some (.map es clock) ∧
      (∀ w' : World, w'.heap[bm]? = some (.map es clock) → (Instr.mapEntry 74 (.map (some bm)) (.int .i64 id)).run Try.prog w' = .ok (.tuple #[.int .i64 0, .int .i64 (clock : Int)]) (setBlock w' bm (.map es1 clock1))) ∧
      (∀ w' : World, w'.heap[bm]? = some (.map es1 clock1) → (Instr.entryStore 74 (.map (some bm)) (.int .i64 (clock : Int)) (.int .i64 (s : Int))).run Try.prog w' = .ok () (setBlock w' bm (.map es2 clock1))) ∧
      (∀ w' : World, w'.heap[bm]? = some (.map es2 clock1) → w'.ownsMap Try.prog 3 (plainElem (H := Unit) Try.prog 3) bm (N + 1) (mapOf (withId A (id, s)))) := by
  have K := Maps.int_keyed Try.underlying3
  have hkey := Maps.keyOf_int_mk Try.underlying3 hwf
  have hcopy := h; obtain ⟨es, clock, hb, F, hsz, hD⟩ := hcopy
  have habs : ∀ e ∈ es.toList, e.key ≠ .int .i64 id := by
    intro e he hk
    obtain ⟨y, hy⟩ := F.reads e he
    have h1 := WideElems.rd_key hy
    rw [hk, hkey] at h1
    have h2 : WideElems.rg Try.prog 3 (plainElem (H := Unit) Try.prog 3) e = y := by simp [WideElems.rg, hy]
    have h3 : y ∈ A.map entryOf := by
      simp only [mapOf, DataW.map.injEq] at hD
      rw [hD, (WideShapes.sorted_perm _).mem_iff]
      exact List.mem_map.2 ⟨e, he, h2⟩
    obtain ⟨p, hp, rfl⟩ := List.mem_map.1 h3
    simp only [entryOf, Option.some.injEq, Lit.int.injEq, true_and] at h1
    simp only [slotOf, Option.map_eq_none_iff, List.find?_eq_none] at hn
    exact hn p hp (by simp [h1])
  have hfind : ∀ w' : World, (Instr.findKey 3 (.int .i64 id) es.toList).run Try.prog w' = .ok none w' := by
    intro w'
    rcases K.find w' hkey es.toList F.keys with ⟨h1, _⟩ | ⟨j, e0, _, h2, h3⟩
    · exact h1
    · exact absurd h3 (habs e0 (List.mem_of_getElem? h2))
  obtain ⟨s1, s2, _⟩ := F.stamped
  obtain ⟨w2, hrun, hown, _⟩ := h.store K Try.underlying74 hN hkey (plainElem_int (H := Unit) Try.underlying3 hs)
  rw [mapOf_put hn] at hown
  have hupd : (Instr.mapUpdate 74 (.map (some bm)) (.int .i64 id) (.int .i64 (s : Int))).run Try.prog w = .ok () (setBlock w bm (.map (es.push ⟨.int .i64 id, .int .i64 (s : Int), clock⟩) (clock + 1))) := by
    simp [Instr.mapUpdate, run_underlying Try.underlying74, Go.MapKept.run_getObj_map hb, K.check w false hkey, hfind w, Go.MapKept.run_setObj_map _ hb, Result.andThen, setBlock]
  rw [hupd] at hrun
  obtain rfl : setBlock w bm (.map (es.push ⟨.int .i64 id, .int .i64 (s : Int), clock⟩) (clock + 1)) = w2 := by injection hrun
  refine ⟨es, clock, es.push ⟨.int .i64 id, .int .i64 0, clock⟩, clock + 1, es.push ⟨.int .i64 id, .int .i64 (s : Int), clock⟩, hb, fun w' hw' => ?_, fun w' hw' => ?_, fun w' hw' => ?_⟩
  · simp [Instr.mapEntry, run_underlying Try.underlying74, Go.MapKept.run_getObj_map hw', K.check w' false hkey, hfind w', Go.MapKept.run_setObj_map _ hw', Result.andThen, setBlock, goInt]
  · have hidx : (es.push ⟨.int .i64 id, .int .i64 0, clock⟩).findIdx? (fun e => ((e.born : Nat) : Int) == ((clock : Nat) : Int)) = some es.size := by
      rw [WideElems.findIdx_arr]
      have := WideElems.findIdx_born (l := (es.push ⟨.int .i64 id, .int .i64 0, clock⟩).toList) (j := es.size) (e0 := ⟨.int .i64 id, .int .i64 0, clock⟩) (by
        simp only [Array.toList_push, List.map_append, List.map_cons, List.map_nil]
        refine List.nodup_append.2 ⟨s2, by simp, fun a ha c hc e1 => ?_⟩
        simp only [List.mem_singleton] at hc
        obtain ⟨x, hx, rfl⟩ := List.mem_map.1 ha
        have := s1 x hx
        omega) (by simp)
      exact this
    have hmod : (es.push ⟨.int .i64 id, .int .i64 0, clock⟩).modify es.size (fun e => { e with val := .int .i64 (s : Int) }) = es.push ⟨.int .i64 id, .int .i64 (s : Int), clock⟩ := by
      apply Array.ext'
      rw [Array.toList_modify, Array.toList_push, Array.toList_push, ← Array.length_toList, WideElems.modify_last]
    simp [Instr.entryStore, Go.MapKept.run_getObj_map hw', asInt, asIntOf, hidx, hmod, Go.MapKept.run_setObj_map _ hw', Result.andThen, setBlock]
  · obtain ⟨es', clock', hb', r⟩ := hown
    have hbb : (setBlock w bm (.map (es.push ⟨.int .i64 id, .int .i64 (s : Int), clock⟩) (clock + 1))).heap[bm]? = some (.map (es.push ⟨.int .i64 id, .int .i64 (s : Int), clock⟩) (clock + 1)) := heap_setBlock_same hb _
    rw [hbb] at hb'
    injection hb' with hb'
    injection hb' with e1 e2
    subst e1; subst e2
    exact ⟨_, _, hw', r⟩

theorem heap_block_same {w : World} {b : Nat} {o : Obj} (h : w.heap[b]? = some o) (o' : Obj) : (Go.ChangeMaps.setBlock w b o').heap[b]? = some o' := by
  have := lt_of_heap h
  simp [Go.ChangeMaps.setBlock, this]
theorem Fr.put {S : Nat → Prop} (w : World) {b : Nat} (hb : S b) (o : Obj) : Fr S w (Go.ChangeMaps.setBlock w b o) := by
  refine ⟨rfl, rfl, rfl, by simp [Go.ChangeMaps.setBlock], fun k hk hn => ?_⟩
  show (w.heap.setIfInBounds b _)[k]? = _
  rw [Array.getElem?_setIfInBounds_ne]
  rintro rfl
  exact hn hb
theorem wf_small {n : Int} (h0 : 0 ≤ n) (h : n ≤ 1000000) : (Lit.int .i64 n).wf = true := by
  simp [Lit.wf, IntKind.min, IntKind.max, IntKind.signed, IntKind.bits]; omega
theorem assert_int_ok (x : Int) (w : World) : (Instr.typeAssert (.iface 3 (.int .i64 x)) 20 3 true).run Try.prog w = .ok (.tuple #[.int .i64 x, .bool true]) w := assert_int x w

theorem put_any {b : SB} {n : Nat} {A : List (Int × Nat)} (id : Int) (hwf : (Lit.int .i64 id).wf = true) (hs : slotOf A id = none) (hroom : A.length < n) (w : World) (h : SlotsAt b n A w) :
    Calls Try.prog 28 #[.pointer (some ⟨b.ps, 0, none⟩), .int .i64 id] w fun e w' => ∃ s : Nat, e = .returned (.tuple #[.int .i64 (s : Int), .int .i64 0]) ∧ s < n ∧ s ∉ A.map (·.2) ∧ SlotsAt b n (withId A (id, s)) w' ∧ Fr b.has w w' := by
  have HH := hid h
  have hc2 : w.cell? ⟨b.ps, 2, none⟩ = some (.map (some b.bm)) := by rw [cell_of_heap h.box]; rfl
  have hc3 : w.cell? ⟨b.ps, 3, none⟩ = some (.pointer (some ⟨b.pf, 0, none⟩)) := by rw [cell_of_heap h.box]; rfl
  have hm := h.map
  have hlow := h.low
  obtain ⟨h1, h2⟩ := mapOf_at A id
  obtain ⟨F, hmid, hperm⟩ := h.mid
  have hpf := hmid.free.boxed
  have HM := hid hmid
  have HP := hid hperm
  have hhas : Maps.has (mapOf A) (.int .i64 id) = false := by rw [h2, hs]; rfl
  clear h h1 h2 hmid
  have hlen : F.length + A.length = n := by
    have := hperm.length_eq
    simpa [nats] using this
  clear hperm
  have hF0 : ((F.length : Int) = 0) = False := by simp; intro h; subst h; simp at hlen; omega
  have hta := assert_int_ok
  go_enter Try.func28, Try.ntmps28
  go_wp2_with (at_lookup; refine wpList_lookup_own_ok_int _ rfl _ _ 74 rfl 3 3 .i64 (Maps.int_keyed Try.underlying3) Try.underlying74 Try.underlying3 (zero3 _) b.bm _ _ rfl hm _ _ rfl (Maps.keyOf_int_mk Try.underlying3 hwf) ?_; intro c hat hwc; rw [hhas])
  refine (free_len_any _ _ _ w).mono ?_
  rintro e w' ⟨rfl, hw⟩
  have hw := hw.symm; subst hw
  go_wp2_with fail
  obtain ⟨nf, hnf⟩ : ∃ k, F.length = k + 1 := ⟨F.length - 1, by omega⟩
  have hfree : FreeAt b.pf b.g b.cap (nf + 1) F w := hnf ▸ HM.out.free
  refine (heap_pop_any w hfree).mono ?_
  rintro e w1 ⟨F', x, hpx, rfl, hF', hfr1⟩
  have hxn : x ∈ nats n := HP.out.mem_iff.1 (List.mem_append_left _ (hpx.mem_iff.1 (by simp)))
  obtain ⟨s, hsn, rfl⟩ : ∃ s : Nat, s < n ∧ (s : Int) = x := by simpa [nats] using hxn
  have hM1 : SlotsMid b n A F' w1 := HM.out.free_to hfr1 (g' := b.g) (cap' := b.cap) (by have := hpx.length_eq; simp at this; rw [show F'.length = nf by omega]; exact hF') (.inl rfl)
  have hswf : (Lit.int .i64 (s : Int)).wf = true := wf_small (by omega) (by omega)
  obtain ⟨es, clock, es1, clock1, es2, hmb, hE, hS, hOwn⟩ := entry_new hM1.map hwf hs hswf (by have := hM1.map.lt; unfold maxLen; omega)
  obtain ⟨⟨p1, p2, p3, p4, p5⟩, ⟨p6, p7, p8, p9⟩, ⟨p10, p11, p12⟩, ⟨p13, p14⟩, p15⟩ := nodup_six HH.out.apart
  obtain ⟨ci, k1, k2⟩ := hM1.ids
  obtain ⟨cu, k3, k4⟩ := hM1.used
  have hc0 : w1.cell? ⟨b.ps, 0, none⟩ = some (.slice (some ⟨b.bi, 0, none⟩) n n) := by rw [cell_of_heap hM1.box]; rfl
  have hc1 : w1.cell? ⟨b.ps, 1, none⟩ = some (.slice (some ⟨b.bu, 0, none⟩) n n) := by rw [cell_of_heap hM1.box]; rfl
  have hc2 : w1.cell? ⟨b.ps, 2, none⟩ = some (.map (some b.bm)) := by rw [cell_of_heap hM1.box]; rfl
  have hc1' : ∀ v, (w1.setCell ⟨b.bi, s, none⟩ v).cell? ⟨b.ps, 1, none⟩ = some (.slice (some ⟨b.bu, 0, none⟩) n n) := fun v => kc_set hc1 (Ne.symm p1) v
  have hci : w1.cell? ⟨b.bi, s, none⟩ = some (ci[s]'(by omega)) := by rw [cell_of_heap k1]; exact Array.getElem?_eq_getElem (by omega)
  have hcu : w1.cell? ⟨b.bu, s, none⟩ = some (cu[s]'(by omega)) := by rw [cell_of_heap k3]; exact Array.getElem?_eq_getElem (by omega)
  have hcu' : ∀ v, (w1.setCell ⟨b.bi, s, none⟩ v).cell? ⟨b.bu, s, none⟩ = some (cu[s]'(by omega)) := fun v => kc_set hcu p6 v
  have hfi : w1.frozen? ⟨b.bi, s, none⟩ = false := free_of_heap k1 s
  have hfu : w1.frozen? ⟨b.bu, s, none⟩ = false := free_of_heap k3 s
  generalize ci[s]'(by omega) = vi at *
  generalize cu[s]'(by omega) = vu at *
  have n1 : (0 : Int) ≤ (s : Int) := by omega
  have n2 : (s : Int) < (n : Int) := by omega
  have HF1 := hid hfr1
  have HM1 := hid hM1
  have HPX := hid hpx
  have hb3 : ((w1.setCell ⟨b.bi, s, none⟩ (.int .i64 id)).setCell ⟨b.bu, s, none⟩ (.bool true)).drew.heap[b.bm]? = some (.map es clock) := by
    show ((w1.setCell ⟨b.bi, s, none⟩ (.int .i64 id)).setCell ⟨b.bu, s, none⟩ (.bool true)).heap[b.bm]? = _
    rw [heap_set_far (Ne.symm p10), heap_set_far (Ne.symm p7)]; exact hmb
  have hE3 := hE _ hb3
  have hb4 := heap_block_same hb3 (.map es1 clock1)
  have hS4 := hS _ hb4
  have hb5 := heap_block_same hb4 (.map es2 clock1)
  have hO5 := hOwn _ hb5
  have hM5 := ((((hM1.ids_set s (.int .i64 id)).used_set s (.bool true)).drew).turn (((Fr.put (S := fun k => k = b.bm) _ rfl (.map es1 clock1))).trans (Fr.put (S := fun k => k = b.bm) _ rfl (.map es2 clock1))) hO5)
  have hR5 : Fr b.has w (Go.ChangeMaps.setBlock (Go.ChangeMaps.setBlock ((w1.setCell ⟨b.bi, s, none⟩ (.int .i64 id)).setCell ⟨b.bu, s, none⟩ (.bool true)).drew b.bm (.map es1 clock1)) b.bm (.map es2 clock1)) :=
    (((((hfr1.mono (fun k _ h => by unfold SB.has; omega)).trans (Fr.set (S := b.has) _ (by unfold SB.has; omega) _ _)).trans (Fr.set (S := b.has) _ (by unfold SB.has; omega) _ _)).trans (Fr.drew _ _)).trans (Fr.put (S := b.has) _ (by unfold SB.has; omega) _)).trans (Fr.put (S := b.has) _ (by unfold SB.has; omega) _)
  have HM5 := hid hM5
  have HR5 := hid hR5
  have HPX := hid hpx
  clear hE hS hOwn hfr1 hM1 hpx hF' hfree k1 k3 hm hxn hswf hb3 hb4 hb5 hO5 hM5 hR5 hmb HM hnf hlen hF0
  go_upto_region 9 with fail
  go_region
  clear hc0 hc1 hc2 hc1' hfi hfu hci hcu hcu' HM1 hE3 hS4
  generalize Go.ChangeMaps.setBlock (Go.ChangeMaps.setBlock ((w1.setCell ⟨b.bi, s, none⟩ (.int .i64 id)).setCell ⟨b.bu, s, none⟩ (.bool true)).drew b.bm (.map es1 clock1)) b.bm (.map es2 clock1) = w5 at *
  have hperm5 : (F' ++ (withId A (id, s)).map (fun p => (p.2 : Int))).Perm (nats n) := by
    refine List.Perm.trans ?_ HP.out
    refine (List.Perm.append_left _ ((withId_perm (id, s) A).map _)).trans ?_
    rw [List.map_cons]
    refine List.perm_middle.trans ?_
    rw [← List.cons_append]
    exact HPX.out.append_right _
  have hnew : s ∉ A.map (·.2) := by
    intro hmem
    have hnd : (nats n).Nodup := by
      unfold nats List.Nodup
      exact List.pairwise_map.2 (List.nodup_range.imp (fun h e => h (by omega)))
    have h1 := HP.out.symm.nodup hnd
    rw [List.nodup_append] at h1
    obtain ⟨p, hp, rfl⟩ := List.mem_map.1 hmem
    exact h1.2.2 _ (HPX.out.mem_iff.1 (by simp)) _ (List.mem_map.2 ⟨p, hp, rfl⟩) rfl
  have hres : SlotsAt b n (withId A (id, s)) w5 := HM5.out.whole hperm5 (withId_sorted HH.out.sorted hs) (fun p hp => by
    rcases List.mem_cons.1 ((withId_perm _ A).mem_iff.1 hp) with rfl | hp
    · exact hwf
    · exact HH.out.wf p hp) HH.out.low
  have HRES := hid hres
  clear hres hperm5 HM5
  have HN := hid hnew
  clear hnew
  go_wp2_with fail
  go_ret2
  exact ⟨s, rfl, hsn, HN.out, HRES.out, HR5.out⟩

theorem put_there {b : SB} {n : Nat} {A : List (Int × Nat)} (id : Int) (hwf : (Lit.int .i64 id).wf = true) (hs : slotOf A id ≠ none) (w : World) (h : SlotsAt b n A w) :
    Calls Try.prog 28 #[.pointer (some ⟨b.ps, 0, none⟩), .int .i64 id] w fun e w' => e = .returned (.tuple #[.int .i64 0, .int .i64 4]) ∧ w' = w := by
  have hc2 : w.cell? ⟨b.ps, 2, none⟩ = some (.map (some b.bm)) := by rw [cell_of_heap h.box]; rfl
  have hm := h.map
  obtain ⟨h1, h2⟩ := mapOf_at A id
  have hhas : Maps.has (mapOf A) (.int .i64 id) = true := by rw [h2]; exact Option.isSome_iff_ne_none.2 hs
  clear h h1 h2 hs
  go_enter Try.func28, Try.ntmps28
  go_wp2_with (at_lookup; refine wpList_lookup_own_ok_int _ rfl _ _ 74 rfl 3 3 .i64 (Maps.int_keyed Try.underlying3) Try.underlying74 Try.underlying3 (zero3 _) b.bm _ _ rfl hm _ _ rfl (Maps.keyOf_int_mk Try.underlying3 hwf) ?_; intro c hat hwc; rw [hhas])
  go_ret2
  exact ⟨rfl, rfl⟩

theorem put_full {b : SB} {n : Nat} {A : List (Int × Nat)} (id : Int) (hwf : (Lit.int .i64 id).wf = true) (hs : slotOf A id = none) (hroom : n ≤ A.length) (w : World) (h : SlotsAt b n A w) :
    Calls Try.prog 28 #[.pointer (some ⟨b.ps, 0, none⟩), .int .i64 id] w fun e w' => e = .returned (.tuple #[.int .i64 0, .int .i64 6]) ∧ w' = w := by
  have hc2 : w.cell? ⟨b.ps, 2, none⟩ = some (.map (some b.bm)) := by rw [cell_of_heap h.box]; rfl
  have hc3 : w.cell? ⟨b.ps, 3, none⟩ = some (.pointer (some ⟨b.pf, 0, none⟩)) := by rw [cell_of_heap h.box]; rfl
  have hm := h.map
  obtain ⟨h1, h2⟩ := mapOf_at A id
  have hhas : Maps.has (mapOf A) (.int .i64 id) = false := by rw [h2, hs]; rfl
  obtain ⟨F, hmid, hperm⟩ := h.mid
  have hlen : F.length + A.length = n := by
    have := hperm.length_eq
    simpa [nats] using this
  have hpf := hmid.free.boxed
  have hF0 : F.length = 0 := by omega
  rw [hF0] at hpf
  clear h h1 h2 hmid hperm
  go_enter Try.func28, Try.ntmps28
  go_wp2_with (at_lookup; refine wpList_lookup_own_ok_int _ rfl _ _ 74 rfl 3 3 .i64 (Maps.int_keyed Try.underlying3) Try.underlying74 Try.underlying3 (zero3 _) b.bm _ _ rfl hm _ _ rfl (Maps.keyOf_int_mk Try.underlying3 hwf) ?_; intro c hat hwc; rw [hhas])
  refine (free_len_any _ _ _ w).mono ?_
  rintro e w' ⟨rfl, hw⟩
  have hw := hw.symm; subst hw
  go_wp2_with fail
  go_ret2
  exact ⟨rfl, rfl⟩

end Go.Proofs.Ytajlilcodnkfdaa
