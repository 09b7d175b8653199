/-
  The reference's jobs: a task is taken out of the row.
-/
import Derived.Test.YtajlilcodnkfdaaRefDo
import Derived.Maps.AppendAt
import Derived.Deep.RegionLaw
namespace Go.Proofs.Ytajlilcodnkfdaa
open Go.Proofs
open Go.RowKit Go.WideMaps

set_option linter.unusedSimpArgs false

/-- What is appended: nothing, or a row that lies somewhere. -/
def Src (size : Nat) (w : World) (x : Value) (m : Nat) (news : List Value) : Prop :=
  (x = .slice none 0 0 ∧ m = 0 ∧ news = []) ∨ ∃ ad c, x = .slice (some ad) m c ∧ news.length = m * size ∧ ∀ j u, news[j]? = some u → w.cell? (ad.add j) = some u

section
variable {P : Program} {w : World}
theorem wp_append_src {o : Oper} {a : Act} {K : Act → World → Prop} {Q : Exit → Act → World → Prop} (s x : Operand) (t : TypeId)
    (ho : o.op = .call { callee := .builtin .append, args := #[s, x], argTypes := #[t, t] })
    (base : Nat) (e : TypeId) (i : TypeInfo) (z : Value) (size bytes : Nat) (ht : P.underlying t = some (.slice e)) (hi : P.info? e = some i) (hz : i.zero = some z)
    (hsize : i.size = size) (hby : i.bytes = bytes) (hzs : z.cells.size = size) (hsz : 0 < size)
    (v : Value) (n : Nat) (xs : List Value) (hs : a.eval s = v) (hown : w.ownsRow base e size v n xs)
    (m : Nat) (news : List Value) (hsrc : Src size w (a.eval x) m news) (h1 : ∀ u ∈ news, u.oneCell' = true)
    (h63 : n + m ≤ maxLen) (hbytes : (n + m) * bytes ≤ 140737488355328) (hbase : base ≤ w.heap.size)
    (h : ∀ ao cap w', w'.ownsRow base e size (.slice ao (n + m) cap) (n + m) (xs ++ news) → w.grownBy w' v.ownBlock → ((Value.slice ao (n + m) cap).ownBlock = v.ownBlock ∨ (Value.slice ao (n + m) cap).ownBlock = some w.heap.size) → K (a.put o.dst (.slice ao (n + m) cap)) w') : o.wp P a w K Q := by
  obtain ⟨v', w', hr, h2, h3, h5⟩ : ∃ v' w', (Builtin.append_ #[t, t] o.type #[v, a.eval x]).run P w = .ok v' w' ∧ w'.ownsRow base e size v' (n + m) (xs ++ news) ∧ w.grownBy w' v.ownBlock ∧ (v'.ownBlock = v.ownBlock ∨ v'.ownBlock = some w.heap.size) := by
    rcases hsrc with ⟨hx, rfl, rfl⟩ | ⟨ad, c, hx, hl, hn⟩
    · rw [hx]
      exact ⟨v, w, run_append_owned_none (P := P) (w := w) base t o.type e i size ht hi v n xs hown, by rw [List.append_nil]; exact hown, ⟨rfl, rfl, rfl, Nat.le_refl _, fun _ _ _ => rfl⟩, .inl rfl⟩
    · rw [hx]
      obtain ⟨v', w', k1, k2, k3, _, k5⟩ := run_append_own_at (P := P) w base t o.type e i z size bytes ht hi hz hsize hby hzs hsz v n xs hown ad m c news hl hn h1 h63 hbytes hbase
      exact ⟨v', w', k1, k2, k3, k5⟩
  have hf : ∃ ao cap, v' = .slice ao (n + m) cap := by
    rcases h2.2 with ⟨e1, e2⟩ | ⟨g, cap, cur, hv, _⟩
    · exact ⟨none, 0, by rw [e1, e2]⟩
    · exact ⟨_, cap, hv⟩
  obtain ⟨ao, cap, rfl⟩ := hf
  unfold Oper.wp execOp
  simp only [ho, resolve, invoke, builtin, Sem.run_bind, Sem.run_pure, Result.andThen_ok, List.map_toArray, List.map_cons, List.map_nil, hs, hr]
  exact h ao cap w' h2 h3 h5
theorem step_append_src {ops : Array Oper} {o : Oper} {a : Act} {K : Act → World → Prop} {Q : Exit → Act → World → Prop} {E : Prop} (hgd : o.guard = none) (s x : Operand) (t : TypeId)
    (ho : o.op = .call { callee := .builtin .append, args := #[s, x], argTypes := #[t, t] })
    (base : Nat) (e : TypeId) (i : TypeInfo) (z : Value) (size bytes : Nat) (ht : P.underlying t = some (.slice e)) (hi : P.info? e = some i) (hz : i.zero = some z)
    (hsize : i.size = size) (hby : i.bytes = bytes) (hzs : z.cells.size = size) (hsz : 0 < size)
    (v : Value) (n : Nat) (xs : List Value) (hs : a.eval s = v) (hown : w.ownsRow base e size v n xs)
    (m : Nat) (news : List Value) (hsrc : Src size w (a.eval x) m news) (h1 : ∀ u ∈ news, u.oneCell' = true)
    (h63 : n + m ≤ maxLen) (hbytes : (n + m) * bytes ≤ 140737488355328) (hbase : base ≤ w.heap.size)
    (h : ∀ ao cap w', w'.ownsRow base e size (.slice ao (n + m) cap) (n + m) (xs ++ news) → w.grownBy w' v.ownBlock → ((Value.slice ao (n + m) cap).ownBlock = v.ownBlock ∨ (Value.slice ao (n + m) cap).ownBlock = some w.heap.size) → K (a.put o.dst (.slice ao (n + m) cap)) w') :
    if Region.wanted o (yielded ops a.tmps) = true then Oper.wp P o a w K Q else E := by
  have hw : Region.wanted o (yielded ops a.tmps) = true := by simp [Region.wanted, hgd]
  rw [if_pos hw]
  exact wp_append_src s x t ho base e i z size bytes ht hi hz hsize hby hzs hsz v n xs hs hown m news hsrc h1 h63 hbytes hbase h
theorem wpList_append_src {ops : Array Oper} {rest : List Oper} {o : Oper} {a : Act} {Q : Exit → Act → World → Prop} (hgd : o.guard = none) (s x : Operand) (t : TypeId)
    (ho : o.op = .call { callee := .builtin .append, args := #[s, x], argTypes := #[t, t] })
    (base : Nat) (e : TypeId) (i : TypeInfo) (z : Value) (size bytes : Nat) (ht : P.underlying t = some (.slice e)) (hi : P.info? e = some i) (hz : i.zero = some z)
    (hsize : i.size = size) (hby : i.bytes = bytes) (hzs : z.cells.size = size) (hsz : 0 < size)
    (v : Value) (n : Nat) (xs : List Value) (hs : a.eval s = v) (hown : w.ownsRow base e size v n xs)
    (m : Nat) (news : List Value) (hsrc : Src size w (a.eval x) m news) (h1 : ∀ u ∈ news, u.oneCell' = true)
    (h63 : n + m ≤ maxLen) (hbytes : (n + m) * bytes ≤ 140737488355328) (hbase : base ≤ w.heap.size)
    (h : ∀ ao cap w', w'.ownsRow base e size (.slice ao (n + m) cap) (n + m) (xs ++ news) → w.grownBy w' v.ownBlock → ((Value.slice ao (n + m) cap).ownBlock = v.ownBlock ∨ (Value.slice ao (n + m) cap).ownBlock = some w.heap.size) → wpList P ops Q rest (a.put o.dst (.slice ao (n + m) cap)) w') : wpList P ops Q (o :: rest) a w :=
  wpList_plain hgd fun _ hK => wp_append_src s x t ho base e i z size bytes ht hi hz hsize hby hzs hsz v n xs hs hown m news hsrc h1 h63 hbytes hbase fun ao cap w' h2 h3 h4 => hK _ _ (h ao cap w' h2 h3 h4)
end

theorem info54 : (Try.prog.info? 54).map (fun i => (i.zero, i.size, i.bytes)) = some (some (.agg #[.int .i64 0, .int .i64 0, .int .i64 0, .bool false, .bool false, .bool false, .bool false, .int .i64 0, .int .i64 0, .bool false, .int .i64 0]), 11, 64) := by kernel_rfl

/-- The row's own cells, for an append: the first ones, and those behind. -/
theorem RefAt.front {bm n lo : Nat} {A B : List T} {ao : Option Addr} {cap : Nat} {w : World} (h : RefAt bm n (.slice ao (A ++ B).length cap) (A ++ B) lo w) : ∃ g, ao = none ∧ (A ++ B) = [] ∨ ao = some ⟨g, 0, none⟩ ∧ ∀ j u, (flat A)[j]? = some u → w.cell? ((⟨g, 0, none⟩ : Addr).add j) = some u := by
  rcases h.row.2 with ⟨h1, h2⟩ | ⟨g, cap', cur, hv, hb, hg, h1, h2, h3, ht⟩
  · refine ⟨0, .inl ⟨?_, List.eq_nil_of_length_eq_zero h2⟩⟩
    simpa using (Value.slice.inj h1).1
  · refine ⟨g, .inr ⟨(Value.slice.inj hv).1, fun j u hu => ?_⟩⟩
    rw [Go.Addr.add_mid, Nat.zero_add, cell_of_heap hg, ← Array.getElem?_toList]
    have hj : j < (flat A).length := (List.getElem?_eq_some_iff.1 hu).1
    have hla := flat_length A
    have hlt : j < (A ++ B).length * 11 := by simp; omega
    have := congrArg (fun l => l[j]?) ht
    simp only [List.getElem?_take, if_pos hlt] at this
    rw [this, flat_append, List.getElem?_append_left hj, hu]
theorem RefAt.behind {bm n lo : Nat} {A B : List T} {g : Nat} {cap : Nat} {w : World} (h : RefAt bm n (.slice (some ⟨g, 0, none⟩) (A ++ B).length cap) (A ++ B) lo w) : ∀ j u, (flat B)[j]? = some u → w.cell? ((⟨g, A.length * 11, none⟩ : Addr).add j) = some u := by
  intro j u hu
  rcases h.row.2 with ⟨h1, h2⟩ | ⟨g', cap', cur, hv, hb, hg, h1, h2, h3, ht⟩
  · cases h1
  · have e : g = g' := by simpa using (Value.slice.inj hv).1
    subst e
    rw [Go.Addr.add_mid, cell_of_heap hg, ← Array.getElem?_toList]
    have hj : j < (flat B).length := (List.getElem?_eq_some_iff.1 hu).1
    have hla := flat_length A
    have hlb := flat_length B
    have hlt : A.length * 11 + j < (A ++ B).length * 11 := by simp; omega
    have := congrArg (fun l => l[A.length * 11 + j]?) ht
    simp only [List.getElem?_take, if_pos hlt] at this
    rw [this, flat_append, List.getElem?_append_right (by omega), show A.length * 11 + j - (flat A).length = j by omega, hu]

/-- A new row is put into the place. -/
theorem ref_stored {bm n lo : Nat} {v v' : Value} {M M' : List T} {w w2 : World} (h : RefAt bm n v M lo w) (hf : Fr (fun _ => False) w w2) (ho : w2.ownsRow w.heap.size 54 11 v' M'.length (flat M')) (hl : M'.length ≤ 4096) :
    RefAt bm n v' M' lo (w2.setCell ⟨bm, 1, none⟩ v') ∧ Fr (fun k => k = bm) w (w2.setCell ⟨bm, 1, none⟩ v') ∧ ∀ k, v'.ownBlock = some k → w.heap.size ≤ k := by
  have hlt := lt_of_heap h.box
  have hge : ∀ k, v'.ownBlock = some k → w.heap.size ≤ k := fun k hk => (ho.lt k hk).1
  have hne : v'.ownBlock ≠ some bm := fun e => by have := hge bm e; omega
  refine ⟨⟨heap_set (hf.heap h.box _root_.id) 1 v', ?_, hne, h.ge, hl⟩, (hf.mono (fun _ _ h => h.elim)).trans (Fr.set (S := fun k => k = bm) _ rfl _ _), hge⟩
  have h1 : (w2.setCell ⟨bm, 1, none⟩ v').ownsRow w.heap.size 54 11 v' M'.length (flat M') := by
    refine ⟨ho.1, ?_⟩
    rcases ho.2 with e | ⟨g, cap, cur, hv, hb, hg, r⟩
    · exact .inl e
    · exact .inr ⟨g, cap, cur, hv, hb, (heap_set_far (fun e => hne (by rw [hv, e]; rfl)) _ _).trans hg, r⟩
  refine ⟨h1.1, ?_⟩
  rcases h1.2 with e | ⟨g, cap, cur, hv, hb, r⟩
  · exact .inl e
  · exact .inr ⟨g, cap, cur, hv, by have := h.ge; omega, r⟩

set_option maxHeartbeats 1600000 in
theorem without_any {bm n lo : Nat} {v : Value} {A B : List T} {t : T} (w : World) (h : RefAt bm n v (A ++ t :: B) lo w) :
    Calls Try.prog 32 #[.pointer (some ⟨bm, 0, none⟩), .int .i64 A.length] w fun e w' => e = .returned (.tuple #[]) ∧ ∃ v', RefAt bm n v' (A ++ B) lo w' ∧ Fr (fun k => k = bm) w w' ∧ ∀ k, v'.ownBlock = some k → w.heap.size ≤ k := by
  obtain ⟨i0, hi, hz0, hz1, hz2⟩ := info_parts info54
  obtain ⟨g, cap, hv, hob, hfz, hc⟩ := h.one
  have hbox : w.cell? ⟨bm, 1, none⟩ = some v := by rw [cell_of_heap h.box]; rfl
  have hbz := free_of_heap h.box 1
  subst hv
  have hle : (A ++ t :: B).length ≤ cap := by
    obtain ⟨ao, cap', hr⟩ := h.open
    have := hr.lecap
    have := (Value.slice.inj hr.val).2.2
    omega
  have hlow := h.low
  have H := hid h
  have hN : (A ++ t :: B).length = A.length + B.length + 1 := by simp; omega
  rw [hN] at hle hlow hbox
  generalize hla : A.length = a at *
  generalize hlb : B.length = b at *
  have n1 : (0 : Int) ≤ (a : Int) := by omega
  have n2 : (a : Int) ≤ (cap : Int) := by omega
  have n3 : (a : Int) + 1 ≤ ((a + b + 1 : Nat) : Int) := by omega
  clear h hc hfz hob hN
  have e1 : IntKind.i64.wrap ((a : Int) + 1) = ((a + 1 : Nat) : Int) := IntWalk.i64_in _ (by omega)
  have hb0 : w.heap.size ≤ w.heap.size := Nat.le_refl _
  have hlt : bm < w.heap.size := World.block_lt_of_cell? _ _ hbox
  have hsa : Src 11 w (.slice (some ⟨g, 0, none⟩) a cap) a (flat A) := by
    refine .inr ⟨_, _, rfl, by rw [flat_length, hla], ?_⟩
    obtain ⟨g', h1 | ⟨h1, h2⟩⟩ := RefAt.front (A := A) (B := t :: B) H.out
    · cases h1.1
    · have : g = g' := by simpa using h1
      subst this
      exact h2
  have hsb : ∀ w' : World, Fr (fun _ => False) w w' → (a + 1 ≠ cap → Src 11 w' (.slice (some ⟨g, (a + 1) * 11, none⟩) b (cap - (a + 1))) b (flat B)) := by
    intro w' hf hne
    refine .inr ⟨_, _, rfl, by rw [flat_length, hlb], ?_⟩
    have hh : RefAt bm n (.slice (some ⟨g, 0, none⟩) ((A ++ [t]) ++ B).length cap) ((A ++ [t]) ++ B) lo w := by simpa using H.out
    have := RefAt.behind (A := A ++ [t]) (B := B) hh
    intro j u hu
    have h3 := this j u hu
    rw [show (A ++ [t]).length * 11 = (a + 1) * 11 by simp [hla]] at h3
    exact hf.cell h3 _root_.id
  have HSA := hid hsa
  have HSB := hid hsb
  clear hsa hsb
  have n4 : (0 : Int) ≤ (a : Int) + 1 := by omega
  have n5 : (a : Int) ≤ (a : Int) + (b : Int) := by omega
  by_cases hcap : cap = a + 1
  · obtain rfl : b = 0 := by omega
    subst hcap
    have n6 : (a : Int) ≤ (a : Int) + 1 := by omega
    have hb0 : flat B = [] := by rw [List.eq_nil_of_length_eq_zero hlb]; rfl
    have HSB0 : Hid (∀ w' : World, Src 11 w' (.slice (some ⟨g, 0, none⟩) 0 0) 0 (flat B)) := hid (fun w' => .inr ⟨_, _, rfl, by simp [hb0], fun j u hu => by simp [hb0] at hu⟩)
    clear hb0
    go_enter Try.func32, Try.ntmps32
    go_region_law (first
      | (refine step_append_src (by rfl) (.const (.slice none 0 0)) (.tmp 10) 45 (by rfl) w.heap.size 54 i0 _ 11 64 Try.underlying45 hi hz0 hz1 hz2 (by rfl) (by omega) (.slice none 0 0) 0 [] (by rfl) (World.ownsRow_nil _ _ _ _) a (flat A) HSA.out (flat_ones A) (by unfold maxLen; omega) (by omega) (Nat.le_refl _) ?_
         intro ao1 cap1 w1 hown1 hg1 hat1
         simp only [Nat.zero_add, List.nil_append] at hown1
         have hf1 : Fr (fun _ => False) w w1 := (Fr.drew _ w).trans (Fr.of_grown hg1 (fun k hk => by cases hk))
         have HO1 := hid hown1
         have HF1 := hid hf1
         have cb1 := hf1.cell hbox _root_.id
         clear hown1 hf1 hg1 hat1)
      | (refine step_append_src (by rfl) (.tmp 11) (.tmp 18) 45 (by rfl) w.heap.size 54 i0 _ 11 64 Try.underlying45 hi hz0 hz1 hz2 (by rfl) (by omega) (.slice ao1 a cap1) a (flat A) (by rfl) HO1.out 0 (flat B) (HSB0.out _) (flat_ones B) (by unfold maxLen; omega) (by omega) HF1.out.size ?_
         intro ao2 cap2 w2 hown2 hg2 hat2
         have hf2 : Fr (fun _ => False) w w2 := HF1.out.then (Fr.of_grown (S := fun k => w.heap.size ≤ k) hg2 (fun k hk => (HO1.out.lt k hk).1)) (fun k hk => .inr hk)
         have HO2 := hid hown2
         have HF2 := hid hf2
         have cb2 := hf2.cell hbox _root_.id
         have zb2 : w2.frozen? ⟨bm, 1, none⟩ = false := free_of_heap (hf2.heap H.out.box _root_.id) 1
         clear hown2 hf2 hg2 hat2))
    all_goals
      go_wp2_with fail
      go_end0
      have hfin := ref_stored (M' := A ++ B) H.out HF2.out (by
        have := HO2.out
        rw [← flat_append] at this
        simpa [hla, hlb] using this) (by simp; omega)
      exact ⟨rfl, _, hfin.1, hfin.2.1, hfin.2.2⟩
  · have hcap' : ¬ cap = a + 1 := hcap
    go_enter Try.func32, Try.ntmps32
    go_region_law (first
      | (refine step_append_src (by rfl) (.const (.slice none 0 0)) (.tmp 10) 45 (by rfl) w.heap.size 54 i0 _ 11 64 Try.underlying45 hi hz0 hz1 hz2 (by rfl) (by omega) (.slice none 0 0) 0 [] (by rfl) (World.ownsRow_nil _ _ _ _) a (flat A) HSA.out (flat_ones A) (by unfold maxLen; omega) (by omega) (Nat.le_refl _) ?_
         intro ao1 cap1 w1 hown1 hg1 hat1
         simp only [Nat.zero_add, List.nil_append] at hown1
         have hf1 : Fr (fun _ => False) w w1 := (Fr.drew _ w).trans (Fr.of_grown hg1 (fun k hk => by cases hk))
         have HO1 := hid hown1
         have HF1 := hid hf1
         have cb1 := hf1.cell hbox _root_.id
         clear hown1 hf1 hg1 hat1)
      | (refine step_append_src (by rfl) (.tmp 11) (.tmp 18) 45 (by rfl) w.heap.size 54 i0 _ 11 64 Try.underlying45 hi hz0 hz1 hz2 (by rfl) (by omega) (.slice ao1 a cap1) a (flat A) (by rfl) HO1.out b (flat B) (HSB.out w1 HF1.out (fun e => hcap e.symm)) (flat_ones B) (by unfold maxLen; omega) (by omega) HF1.out.size ?_
         intro ao2 cap2 w2 hown2 hg2 hat2
         have hf2 : Fr (fun _ => False) w w2 := HF1.out.then (Fr.of_grown (S := fun k => w.heap.size ≤ k) hg2 (fun k hk => (HO1.out.lt k hk).1)) (fun k hk => .inr hk)
         have HO2 := hid hown2
         have HF2 := hid hf2
         have cb2 := hf2.cell hbox _root_.id
         have zb2 : w2.frozen? ⟨bm, 1, none⟩ = false := free_of_heap (hf2.heap H.out.box _root_.id) 1
         clear hown2 hf2 hg2 hat2))
    all_goals
      go_wp2_with fail
      go_end0
      have hfin := ref_stored (M' := A ++ B) H.out HF2.out (by
        have := HO2.out
        rw [← flat_append] at this
        simpa [hla, hlb] using this) (by simp; omega)
      exact ⟨rfl, _, hfin.1, hfin.2.1, hfin.2.2⟩
end Go.Proofs.Ytajlilcodnkfdaa
