/-
  jobs.Jobs: Release and Settle.
-/
import Derived.Test.YtajlilcodnkfdaaTask
import Derived.Deep.Onto
namespace Go.Proofs.Ytajlilcodnkfdaa
open Go.Proofs
open Go.RowKit Go.WideMaps

set_option linter.unusedSimpArgs false

/-- A row of numbers as it came back from a call. -/
structure RowOf (ao : Option Addr) (n cap lo hi : Nat) (xs : List Int) (w : World) : Prop where
  len : xs.length = n
  low : n ≤ 1000000
  cell : ∀ i, i < n → ∃ g, ao = some ⟨g, 0, none⟩ ∧ lo ≤ g ∧ g < hi ∧ w.cell? ⟨g, i, none⟩ = some (.int .i64 (xs.getD i 0))
theorem row_of {w : World} {base n : Nat} {v : Value} {xs : List Int} (h : w.ownsRow base 3 1 v n (xs.map (Value.int .i64))) (hn : n ≤ 1000000) : ∃ ao cap, v = .slice ao n cap ∧ RowOf ao n cap base w.heap.size xs w := by
  have hl : xs.length = n := by simpa using h.1
  rcases h.2 with ⟨hv, h0⟩ | ⟨g, cap, cur, hv, hb, hg, _, _, _, ht⟩
  · subst h0
    exact ⟨none, 0, hv, hl, hn, fun i hi => by omega⟩
  · refine ⟨some ⟨g, 0, none⟩, cap, hv, hl, hn, fun i hi => ⟨g, rfl, hb, lt_of_heap hg, ?_⟩⟩
    rw [cell_of_heap hg]
    have := congrArg (fun l => l[i]?) ht
    simp only [List.getElem?_take, Nat.mul_one, if_pos hi, List.getElem?_map] at this
    rw [← Array.getElem?_toList, this, List.getElem?_eq_getElem (by omega)]
    simp [List.getD, List.getElem?_eq_getElem (show i < xs.length by omega)]
theorem RowOf.kept {ao : Option Addr} {n cap lo hi : Nat} {xs : List Int} {w w' : World} (h : RowOf ao n cap lo hi xs w) {S : Nat → Prop} (hf : Fr S w w') (hs : ∀ k, lo ≤ k → k < hi → ¬ S k) : RowOf ao n cap lo hi xs w' :=
  ⟨h.len, h.low, fun i hi' => by
    obtain ⟨g, h1, h2, h3, h4⟩ := h.cell i hi'
    exact ⟨g, h1, h2, h3, hf.cell h4 (hs g h2 h3)⟩⟩

theorem JobsIs.wf {b : JB} {n : Nat} {L : List T} {w : World} (h : JobsIs b n L w) {t : T} (ht : t ∈ L) : (Lit.int .i64 t.ID).wf = true := by
  obtain ⟨Q, rfl, hQ⟩ := h.at'
  obtain ⟨p, hp, rfl⟩ := List.mem_map.1 ht
  exact hQ.slots.wf (p.1.ID, p.2) (List.mem_map.2 ⟨p, hp, rfl⟩)
theorem JobsIs.length_le {b : JB} {n : Nat} {L : List T} {w : World} (h : JobsIs b n L w) : L.length ≤ n ∧ n ≤ 4096 := by
  obtain ⟨Q, rfl, hQ⟩ := h.at'
  refine ⟨?_, hQ.slots.low⟩
  obtain ⟨F, _, h2⟩ := hQ.slots.free
  have := h2.length_eq
  simp [nats, keysOf] at this
  simp
  omega
theorem JobsAt.has_lt {b : JB} {n : Nat} {Q : List (T × Nat)} {w : World} (h : JobsAt b n Q w) {k : Nat} (hk : b.has k) : k < w.heap.size := by
  obtain ⟨F, hF, _⟩ := h.slots.free
  obtain ⟨ci, k1, _⟩ := h.slots.ids
  obtain ⟨cu, k3, _⟩ := h.slots.used
  obtain ⟨ct, k5, _⟩ := h.tasks
  obtain ⟨cf, k7, _⟩ := hF.row
  rcases hk with e | e | e | e | e | e | e | e <;> subst e
  · exact lt_of_heap h.box
  · exact lt_of_heap k5
  · exact lt_of_heap h.slots.box
  · exact lt_of_heap k1
  · exact lt_of_heap k3
  · exact h.slots.map.lt
  · exact lt_of_heap hF.box
  · exact lt_of_heap k7
theorem JobsIs.has_lt {b : JB} {n : Nat} {L : List T} {w : World} (h : JobsIs b n L w) {k : Nat} (hk : b.has k) : k < w.heap.size := by
  obtain ⟨Q, _, hQ⟩ := h.at'
  exact hQ.has_lt hk

/-- The task at one place, in slot s. -/
structure One (b : JB) (n : Nat) (A B : List T) (s : Nat) (t : T) (w : World) : Prop where
  at' : ∃ Q, JobsAt b n Q w ∧ (t, s) ∈ Q ∧ Q.map (·.1) = A ++ t :: B
theorem JobsIs.one {b : JB} {n : Nat} {A B : List T} {t : T} {w : World} (h : JobsIs b n (A ++ t :: B) w) : ∃ s, One b n A B s t w := by
  have hr := h.rising
  obtain ⟨Q, h1, hQ⟩ := h.at'
  have hf := find_mid hr
  rw [← h1] at hf
  obtain ⟨s, _, hm, _⟩ := find_some hf
  exact ⟨s, Q, hQ, hm, h1⟩
theorem One.jobs {b : JB} {n : Nat} {A B : List T} {t : T} {s : Nat} {w : World} (h : One b n A B s t w) : JobsIs b n (A ++ t :: B) w := by
  obtain ⟨Q, h1, _, h2⟩ := h.at'
  exact ⟨Q, h2, h1⟩
theorem One.put {b : JB} {n : Nat} {A B : List T} {t t' : T} {s : Nat} {w : World} (h : One b n A B s t w) (hid : t'.ID = t.ID) {j : Nat} (hj : j < 11) {v : Value} (hv : t'.cells = t.cells.setIfInBounds j v) : One b n A B s t' (w.setCell ⟨b.bt, s * 11 + j, none⟩ v) := by
  have hr := h.jobs.rising
  obtain ⟨Q, h1, h2, h3⟩ := h.at'
  refine ⟨upd Q s t', h1.put h2 hid hj hv, mem_upd h2, ?_⟩
  rw [upd_list h1 h2 hid, h3]
  exact setT_mid hr hid
theorem One.cell {b : JB} {n : Nat} {A B : List T} {t : T} {s : Nat} {w : World} (h : One b n A B s t w) {j : Nat} {v : Value} (hv : t.cells[j]? = some v) : w.cell? ⟨b.bt, s * 11 + j, none⟩ = some v := by
  obtain ⟨Q, h1, h2, _⟩ := h.at'
  exact h1.cell h2 hv
theorem One.free {b : JB} {n : Nat} {A B : List T} {t : T} {s : Nat} {w : World} (h : One b n A B s t w) (i : Nat) : w.frozen? ⟨b.bt, i, none⟩ = false := by
  obtain ⟨Q, h1, _⟩ := h.at'
  exact h1.cellFree i
theorem One.get {b : JB} {n : Nat} {A B : List T} {t : T} {s : Nat} {w : World} (h : One b n A B s t w) :
    Calls Try.prog 29 #[.pointer (some ⟨b.pj, 0, none⟩), .int .i64 t.ID] w fun e w' => e = .returned (.pointer (some ⟨b.bt, s * 11, none⟩)) ∧ w' = w := by
  have hr := h.jobs.rising
  have hw := h.jobs.wf (t := t) (by simp)
  obtain ⟨Q, h1, h2, h3⟩ := h.at'
  have hf := find_mid hr
  rw [← h3] at hf
  obtain ⟨s', hs, hm, _⟩ := find_some hf
  have he : s = s' := by
    have hsl : slotOf (keysOf Q) t.ID = some s := by
      have hp := h1.slots.sorted
      have := lessId_perm hp hs
      have hmem : (t.ID, s) ∈ keysOf Q := List.mem_map.2 ⟨(t, s), h2, rfl⟩
      rcases List.mem_cons.1 (this.mem_iff.1 hmem) with e | e
      · rw [hs]; simp only [Prod.mk.injEq, true_and] at e; rw [e]
      · simp [lessId] at e
    rw [hs] at hsl
    exact (Option.some.inj hsl).symm
  subst he
  exact get_yes t.ID s hw hs w h1
theorem One.kept {b : JB} {n : Nat} {A B : List T} {t : T} {s : Nat} {w w' : World} (h : One b n A B s t w) {S : Nat → Prop} (hf : Fr S w w') (hs : ∀ k, b.has k → ¬ S k) : One b n A B s t w' := by
  obtain ⟨Q, h1, h2, h3⟩ := h.at'
  exact ⟨Q, h1.kept hf hs, h2, h3⟩

section
variable {P : Program}
theorem run_store_cell (w : World) (b o : Nat) (ty : TypeId) (v u : Value) (hi : (P.info? ty).map (·.size) = some 1) (h1 : v.oneCell' = true) (hc : w.cell? ⟨b, o, none⟩ = some u) (hf : w.frozen? ⟨b, o, none⟩ = false) :
    (storeVar ty ⟨b, o, none⟩ v).run P w = .ok () (w.setCell ⟨b, o, none⟩ v) := by
  have := run_storeCells_cells (P := P) b o [v] 0 w (fun j hj => by
    obtain rfl : j = 0 := by simpa using hj
    simp [hc]) (fun j hj => by
    obtain rfl : j = 0 := by simpa using hj
    simpa using hf) (fun x hx => by simp at hx; subst hx; exact h1)
  have hcl : v.cells = #[v] := by cases v <;> first | rfl | cases h1
  cases hq : P.info? ty with
  | none => simp [hq] at hi
  | some i =>
    have hs : i.size = 1 := by simpa [hq] using hi
    simp only [Nat.add_zero, World.setCells] at this
    simp [storeVar, sizeOf, typeInfo, hq, hcl, hs, this]
theorem wpList_store_cell {ops : Array Oper} {rest : List Oper} {o : Oper} {a : Act} {w : World} {Q : Exit → Act → World → Prop} (hgd : o.guard = none) (ty : TypeId) (x y : Operand) (ho : o.op = .store ty x y)
    (b i : Nat) (v u : Value) (hx : a.eval x = .pointer (some ⟨b, i, none⟩)) (hy : a.eval y = v) (h1 : v.oneCell' = true) (hc : w.cell? ⟨b, i, none⟩ = some u) (hf : w.frozen? ⟨b, i, none⟩ = false)
    (hi : (P.info? ty).map (·.size) = some 1) (h : wpList P ops Q rest (a.put o.dst undef) (w.setCell ⟨b, i, none⟩ v)) : wpList P ops Q (o :: rest) a w :=
  wpList_plain hgd fun _ hK => by
    unfold Oper.wp execOp
    simp only [ho, hx, hy, Instr.storeAt, Instr.sureAddr, Sem.run_bind, Sem.run_pure, Result.andThen_ok, run_store_cell w b i ty v u hi h1 hc hf]
    exact hK _ _ h
end
theorem size3 : (Try.prog.info? 3).map (·.size) = some 1 := by kernel_rfl
theorem size4 : (Try.prog.info? 4).map (·.size) = some 1 := by kernel_rfl

/-- What a release writes, world behind world. -/
def Deeds (b : JB) (s : Nat) (t : T) (clock : Int) (w w6 : World) : Prop := ∃ w1 w2 w3 w4 w5 : World,
  w1 = w.setCell ⟨b.bt, s * 11 + 5, none⟩ (.bool false) ∧ w2 = w1.setCell ⟨b.bt, s * 11 + 6, none⟩ (.bool true) ∧ w3 = w2.setCell ⟨b.bt, s * 11 + 7, none⟩ (.int .i64 clock) ∧
  w4 = w3.setCell ⟨b.bt, s * 11 + 8, none⟩ (.int .i64 0) ∧ w5 = w4.setCell ⟨b.bt, s * 11 + 9, none⟩ (.bool false) ∧ w6 = w5.setCell ⟨b.bt, s * 11 + 10, none⟩ (.int .i64 (t.Ct + 1)) ∧
  w.cell? ⟨b.bt, s * 11 + 5, none⟩ = some (.bool t.Wt) ∧ w1.cell? ⟨b.bt, s * 11 + 6, none⟩ = some (.bool t.Ac) ∧ w2.cell? ⟨b.bt, s * 11 + 7, none⟩ = some (.int .i64 t.Rl) ∧
  w3.cell? ⟨b.bt, s * 11 + 8, none⟩ = some (.int .i64 t.Gt) ∧ w4.cell? ⟨b.bt, s * 11 + 9, none⟩ = some (.bool t.Dn) ∧ w5.cell? ⟨b.bt, s * 11 + 10, none⟩ = some (.int .i64 t.Ct) ∧ True ∧
  w.frozen? ⟨b.bt, s * 11 + 5, none⟩ = false ∧ w1.frozen? ⟨b.bt, s * 11 + 6, none⟩ = false ∧ w2.frozen? ⟨b.bt, s * 11 + 7, none⟩ = false ∧
  w3.frozen? ⟨b.bt, s * 11 + 8, none⟩ = false ∧ w4.frozen? ⟨b.bt, s * 11 + 9, none⟩ = false ∧ w5.frozen? ⟨b.bt, s * 11 + 10, none⟩ = false ∧ Fr b.has w w6
theorem One.deeds {b : JB} {n : Nat} {A B : List T} {t : T} {s : Nat} {w : World} (h : One b n A B s t w) (clock : Int) : ∃ w6, Deeds b s t clock w w6 ∧ One b n A B s (begun clock t) w6 := by
  have o1 := h.put (t' := { t with Wt := false }) rfl (j := 5) (by omega) (v := .bool false) rfl
  have o2 := o1.put (t' := { t with Wt := false, Ac := true }) rfl (j := 6) (by omega) (v := .bool true) rfl
  have o3 := o2.put (t' := { t with Wt := false, Ac := true, Rl := clock }) rfl (j := 7) (by omega) (v := .int .i64 clock) rfl
  have o4 := o3.put (t' := { t with Wt := false, Ac := true, Rl := clock, Gt := 0 }) rfl (j := 8) (by omega) (v := .int .i64 0) rfl
  have o5 := o4.put (t' := { t with Wt := false, Ac := true, Rl := clock, Gt := 0, Dn := false }) rfl (j := 9) (by omega) (v := .bool false) rfl
  have o6 := o5.put (t' := begun clock t) rfl (j := 10) (by omega) (v := .int .i64 (t.Ct + 1)) rfl
  have hb : b.has b.bt := .inr (.inl rfl)
  exact ⟨_, ⟨_, _, _, _, _, rfl, rfl, rfl, rfl, rfl, rfl, h.cell rfl, o1.cell rfl, o2.cell rfl, o3.cell rfl, o4.cell rfl, o5.cell rfl, trivial, h.free _, o1.free _, o2.free _, o3.free _, o4.free _, o5.free _,
    (((((Fr.set w hb _ _).trans (Fr.set _ hb _ _)).trans (Fr.set _ hb _ _)).trans (Fr.set _ hb _ _)).trans (Fr.set _ hb _ _)).trans (Fr.set _ hb _ _)⟩, o6⟩

def relOne (clock : Int) (t : T) : T := if rest t then t else begun clock t
def relTo (clock : Int) (L : List T) (k : Nat) : List T := (L.take k).map (relOne clock) ++ L.drop k
def relIds (L : List T) (k : Nat) : List Int := ((L.take k).filter (fun t => !rest t)).map (·.ID)

theorem take_step {L : List T} {k : Nat} (hk : k < L.length) : L.take (k + 1) = L.take k ++ [L[k]] := by rw [List.take_add_one, List.getElem?_eq_getElem hk]; rfl
theorem relTo_mid (clock : Int) {L : List T} {k : Nat} (hk : k < L.length) : relTo clock L k = (L.take k).map (relOne clock) ++ L[k] :: L.drop (k + 1) := by
  rw [relTo, List.drop_eq_getElem_cons hk]
theorem relTo_next (clock : Int) {L : List T} {k : Nat} (hk : k < L.length) : relTo clock L (k + 1) = (L.take k).map (relOne clock) ++ relOne clock L[k] :: L.drop (k + 1) := by
  rw [relTo, take_step hk, List.map_append]; simp
theorem relIds_next {L : List T} {k : Nat} (hk : k < L.length) : relIds L (k + 1) = relIds L k ++ (if rest L[k] then [] else [L[k].ID]) := by
  rw [relIds, take_step hk, List.filter_append, List.map_append, relIds]
  cases h : rest L[k] <;> simp [h]

theorem row_kept {w w' : World} {base n size : Nat} {e : TypeId} {v : Value} {xs : List Value} (h : w.ownsRow base e size v n xs) {S : Nat → Prop} (hf : Fr S w w') (hs : ∀ k, base ≤ k → ¬ S k) : w'.ownsRow base e size v n xs := by
  refine ⟨h.1, ?_⟩
  rcases h.2 with h | ⟨g, cap, cur, hv, hb, hg, r⟩
  · exact .inl h
  · exact .inr ⟨g, cap, cur, hv, hb, hf.heap hg (hs g hb), r⟩

theorem relIds_le (L : List T) (k : Nat) : (relIds L k).length ≤ k := by
  unfold relIds
  rw [List.length_map]
  exact Nat.le_trans (List.length_filter_le _ _) (by simp; omega)
theorem relTo_all (clock : Int) (L : List T) : relTo clock L L.length = (mRelease L clock).2 := by
  rw [relTo, List.take_length, List.drop_length, List.append_nil]; rfl
theorem relIds_all (clock : Int) (L : List T) : relIds L L.length = (mRelease L clock).1 := by
  rw [relIds, List.take_length]; rfl

structure RelAt (b : JB) (n : Nat) (L : List T) (clock : Int) (k : Nat) (v : Value) (w w1 wx : World) : Prop where
  jobs : JobsIs b n (relTo clock L k) wx
  out : wx.ownsRow w1.heap.size 3 1 v (relIds L k).length ((relIds L k).map (Value.int .i64))
  fr : Fr b.has w1 wx

set_option maxRecDepth 100000 in
set_option maxHeartbeats 3200000 in
theorem release_any {b : JB} {n : Nat} {L : List T} {c : Int} (hgood : Good c L) (hc : c ≤ 1000000000) (clock : Int) (w : World) (h : JobsIs b n L w) :
    Calls Try.prog 10 #[.pointer (some ⟨b.pj, 0, none⟩), .int .i64 clock] w fun e w' => ∃ v, e = .returned v ∧ w'.ownsRow w.heap.size 3 1 v (mRelease L clock).1.length ((mRelease L clock).1.map (Value.int .i64)) ∧ JobsIs b n (mRelease L clock).2 w' ∧ Fr b.has w w' := by
  have HJ := hid h
  have HG := hid hgood
  have hlen := h.length_le
  clear h hgood
  obtain ⟨i0, hi, hz0, hz1, hz2⟩ := info_parts int_info
  go_enter Try.func10, Try.ntmps10
  go_wp2_with fail
  refine (ids_jobs w HJ.out).mono ?_
  rintro e w1 ⟨v, rfl, hown, hg⟩
  have hown' : w1.ownsRow w.heap.size 3 1 v L.length ((L.map (·.ID)).map (Value.int .i64)) := by rw [List.map_map]; exact hown
  obtain ⟨ao, cap, rfl, hrow⟩ := row_of hown' (by omega)
  have hfr1 : Fr (fun _ => False) w w1 := Fr.of_grown hg (fun k hk => by cases hk)
  have hj1 : JobsIs b n L w1 := HJ.out.kept hfr1 (fun _ _ => _root_.id)
  have HR := hid hrow
  have HF1 := hid hfr1
  have hA0 : RelAt b n L clock 0 (.slice none 0 0) w w1 w1 := ⟨hj1, World.ownsRow_nil _ _ _ _, Fr.refl _ _⟩
  have HA0 := hid hA0
  clear hown hown' hg hrow hfr1 hj1 hA0
  generalize hN : L.length = N at *
  go_wp2_with fail
  go_loopw [5, 12] (fun so si wx => ∃ k : Nat, k ≤ N ∧ si = .int .i64 k ∧ RelAt b n L clock k so w w1 wx) (fun _ s _ => N - (intOf s).toNat)
  case atStart => exact ⟨0, by omega, rfl, HA0.out⟩
  case round =>
    obtain ⟨k, hk, rfl, hA⟩ := hrel
    clear HA0
    have HA := hid hA
    by_cases hlt : k < N
    · have hltL : k < L.length := by omega
      obtain ⟨g, rfl, hg1, hg2, hcell⟩ := HR.out.cell k hlt
      have hgk : ∀ i, b.has i → i < w.heap.size := fun i hi => HJ.out.has_lt hi
      have hcell2 : wr.cell? ⟨g, k, none⟩ = some (.int .i64 L[k].ID) := by
        have := hA.fr.cell hcell (fun hb => by have := hgk g hb; omega)
        rw [this]
        simp [List.getD, hltL]
      have hj := hA.jobs
      rw [relTo_mid clock hltL] at hj
      obtain ⟨s, hone⟩ := hj.one
      have ht := HG.out L[k] (List.getElem_mem hltL)
      have t1 := ht.c0
      have t2 := ht.c1
      have hnx := relTo_next clock hltL
      have hni := relIds_next hltL
      rw [relOne] at hnx
      generalize hT : L[k] = t at *
      have c3 : wr.cell? ⟨b.bt, s * 11 + 3, none⟩ = some (.bool t.Sp) := hone.cell rfl
      have c5 : wr.cell? ⟨b.bt, s * 11 + 5, none⟩ = some (.bool t.Wt) := hone.cell rfl
      have c6 : wr.cell? ⟨b.bt, s * 11 + 6, none⟩ = some (.bool t.Ac) := hone.cell rfl
      have c7 : wr.cell? ⟨b.bt, s * 11 + 7, none⟩ = some (.int .i64 t.Rl) := hone.cell rfl
      have c8 : wr.cell? ⟨b.bt, s * 11 + 8, none⟩ = some (.int .i64 t.Gt) := hone.cell rfl
      have c9 : wr.cell? ⟨b.bt, s * 11 + 9, none⟩ = some (.bool t.Dn) := hone.cell rfl
      have c10 : wr.cell? ⟨b.bt, s * 11 + 10, none⟩ = some (.int .i64 t.Ct) := hone.cell rfl
      have hfz := hone.free
      have HO := hid hone
      have HNX := hid hnx
      have HNI := hid hni
      have HC := hid hT
      clear hA hcell hj hone ht hnx hni hT
      cases hac : t.Ac <;> cases hsp : t.Sp <;> cases hwt : t.Wt <;> simp only [hac, hsp, hwt] at c3 c5 c6
      · obtain ⟨wr6, hd, h6⟩ : ∃ wr6, Deeds b s t clock wr wr6 ∧ One b n ((L.take k).map (relOne clock)) (L.drop (k + 1)) s (begun clock t) wr6 := HO.out.deeds clock
        obtain ⟨wr1, wr2, wr3, wr4, wr5, w1', w2', w3', w4', w5', w6', d5, d6, d7, d8, d9, d10, e10, f5, f6, f7, f8, f9, f10, hfr6⟩ := hd
        have W1 := hid w1'
        have W2 := hid w2'
        have W3 := hid w3'
        have W4 := hid w4'
        have W5 := hid w5'
        have W6 := hid w6'
        have H6 := hid h6
        have HFR6 := hid hfr6
        clear w1' w2' w3' w4' w5' w6' h6 hfr6 c7 c8 c9 c10 hfz
        go_wp2_with fail
        refine (HO.out.get).mono ?_
        rintro e w' ⟨rfl, hw⟩
        have hw := hw.symm; subst hw
        go_upto_region 7 with fail
        go_upto_region 9 with (with_reducible (show wpList _ _ _ (⟨_, Op.store _ _ _, _, _, _, _⟩ :: _) _ _); first | (refine wpList_store_cell rfl _ _ _ rfl _ _ (.bool false) _ rfl rfl rfl (by with_reducible assumption) (by with_reducible assumption) (by first | with_reducible exact size4 | with_reducible exact size3) ?_; (first | rw [← W1.out] | rw [← W5.out])) | (refine wpList_store_cell rfl _ _ _ rfl _ _ (.bool true) _ rfl rfl rfl (by with_reducible assumption) (by with_reducible assumption) (by first | with_reducible exact size4 | with_reducible exact size3) ?_; (first | rw [← W2.out])) | (refine wpList_store_cell rfl _ _ _ rfl _ _ (.int .i64 0) _ rfl rfl rfl (by with_reducible assumption) (by with_reducible assumption) (by first | with_reducible exact size4 | with_reducible exact size3) ?_; (first | rw [← W4.out])) | (refine wpList_store_cell rfl _ _ _ rfl _ _ (.int .i64 clock) _ rfl rfl rfl (by with_reducible assumption) (by with_reducible assumption) (by first | with_reducible exact size4 | with_reducible exact size3) ?_; (first | rw [← W3.out])) | (refine wpList_store_cell rfl _ _ _ rfl _ _ (.int .i64 (t.Ct + 1)) _ rfl rfl rfl (by with_reducible assumption) (by with_reducible assumption) (by first | with_reducible exact size4 | with_reducible exact size3) ?_; (first | rw [← W6.out])))
        have hout6 : wr6.ownsRow w1.heap.size 3 1 u5 (relIds L k).length ((relIds L k).map (Value.int .i64)) := row_kept HA.out.out HFR6.out (fun i hi hb => by have := hgk i hb; omega)
        have hrk := relIds_le L k
        have hml : (relIds L k).length + 1 ≤ maxLen := by unfold maxLen; omega
        clear d5 d6 d7 d8 d9 d10 f5 f6 f7 f8 f9 f10 W1 W2 W3 W4 W5 W6
        go_wp2_with (at_builtin; refine wpList_append_lies _ rfl (.tmp 59) (.tmp 61) 28 rfl w1.heap.size 3 i0 (.int .i64 0) 1 8 Try.underlying28 hi hz0 hz1 hz2 rfl (by decide) _ _ _ rfl (hout6.alloc _) ⟨wr6.heap.size, 0, none⟩ 1 1 [.int .i64 t.ID] rfl rfl ?c1 ?c2 ?c3 ?c4 ?c5 ?c6 _ rfl ?_)
        case c1 => exact World.news_of_block (cs := #[.int .i64 t.ID]) (t := 3) (fr := (0, 0)) (heap_alloc_new wr6 _)
        case c2 => simp [Value.oneCell']
        case c3 => omega
        case c4 => exact hml
        case c5 => omega
        case c6 =>
          have h1 := HA.out.fr.size
          have h2 := HFR6.out.size
          simp
          omega
        intro g' cap' w7 hown7 hg7 hat7 hlt7
        have hfr7 : Fr (fun i => w1.heap.size ≤ i) wr6 w7 := (Fr.alloc _ _ _).trans (Fr.of_grown hg7 (fun i hi => (hout6.lt i hi).1))
        have hj7 := H6.out.jobs.kept hfr7 (fun i hb hi => by have := hgk i hb; omega)
        have hres : RelAt b n L clock (k + 1) (.slice (some ⟨g', 0, none⟩) ((relIds L k).length + 1) cap') w w1 w7 := by
          refine ⟨?_, ?_, ?_⟩
          · rw [HNX.out]
            simpa [rest, hac, hsp, hwt] using hj7
          · rw [HNI.out]
            simpa [rest, hac, hsp, hwt] using hown7
          · refine (HA.out.fr.trans HFR6.out).then hfr7 (fun i hi => .inr hi)
        have HRES := hid hres
        clear hres hj7 hfr7 hown7 hg7 hat7 hout6
        go_wp2_with fail
        go_roundw
        case rel => exact ⟨k + 1, by omega, by go_num, HRES.out⟩
        case measure => simp [intOf]; omega
      · obtain ⟨wr6, hd, h6⟩ : ∃ wr6, Deeds b s t clock wr wr6 ∧ One b n ((L.take k).map (relOne clock)) (L.drop (k + 1)) s (begun clock t) wr6 := HO.out.deeds clock
        obtain ⟨wr1, wr2, wr3, wr4, wr5, w1', w2', w3', w4', w5', w6', d5, d6, d7, d8, d9, d10, e10, f5, f6, f7, f8, f9, f10, hfr6⟩ := hd
        have W1 := hid w1'
        have W2 := hid w2'
        have W3 := hid w3'
        have W4 := hid w4'
        have W5 := hid w5'
        have W6 := hid w6'
        have H6 := hid h6
        have HFR6 := hid hfr6
        clear w1' w2' w3' w4' w5' w6' h6 hfr6 c7 c8 c9 c10 hfz
        go_wp2_with fail
        refine (HO.out.get).mono ?_
        rintro e w' ⟨rfl, hw⟩
        have hw := hw.symm; subst hw
        go_upto_region 7 with fail
        go_upto_region 9 with (with_reducible (show wpList _ _ _ (⟨_, Op.store _ _ _, _, _, _, _⟩ :: _) _ _); first | (refine wpList_store_cell rfl _ _ _ rfl _ _ (.bool false) _ rfl rfl rfl (by with_reducible assumption) (by with_reducible assumption) (by first | with_reducible exact size4 | with_reducible exact size3) ?_; (first | rw [← W1.out] | rw [← W5.out])) | (refine wpList_store_cell rfl _ _ _ rfl _ _ (.bool true) _ rfl rfl rfl (by with_reducible assumption) (by with_reducible assumption) (by first | with_reducible exact size4 | with_reducible exact size3) ?_; (first | rw [← W2.out])) | (refine wpList_store_cell rfl _ _ _ rfl _ _ (.int .i64 0) _ rfl rfl rfl (by with_reducible assumption) (by with_reducible assumption) (by first | with_reducible exact size4 | with_reducible exact size3) ?_; (first | rw [← W4.out])) | (refine wpList_store_cell rfl _ _ _ rfl _ _ (.int .i64 clock) _ rfl rfl rfl (by with_reducible assumption) (by with_reducible assumption) (by first | with_reducible exact size4 | with_reducible exact size3) ?_; (first | rw [← W3.out])) | (refine wpList_store_cell rfl _ _ _ rfl _ _ (.int .i64 (t.Ct + 1)) _ rfl rfl rfl (by with_reducible assumption) (by with_reducible assumption) (by first | with_reducible exact size4 | with_reducible exact size3) ?_; (first | rw [← W6.out])))
        have hout6 : wr6.ownsRow w1.heap.size 3 1 u5 (relIds L k).length ((relIds L k).map (Value.int .i64)) := row_kept HA.out.out HFR6.out (fun i hi hb => by have := hgk i hb; omega)
        have hrk := relIds_le L k
        have hml : (relIds L k).length + 1 ≤ maxLen := by unfold maxLen; omega
        clear d5 d6 d7 d8 d9 d10 f5 f6 f7 f8 f9 f10 W1 W2 W3 W4 W5 W6
        go_wp2_with (at_builtin; refine wpList_append_lies _ rfl (.tmp 59) (.tmp 61) 28 rfl w1.heap.size 3 i0 (.int .i64 0) 1 8 Try.underlying28 hi hz0 hz1 hz2 rfl (by decide) _ _ _ rfl (hout6.alloc _) ⟨wr6.heap.size, 0, none⟩ 1 1 [.int .i64 t.ID] rfl rfl ?c1 ?c2 ?c3 ?c4 ?c5 ?c6 _ rfl ?_)
        case c1 => exact World.news_of_block (cs := #[.int .i64 t.ID]) (t := 3) (fr := (0, 0)) (heap_alloc_new wr6 _)
        case c2 => simp [Value.oneCell']
        case c3 => omega
        case c4 => exact hml
        case c5 => omega
        case c6 =>
          have h1 := HA.out.fr.size
          have h2 := HFR6.out.size
          simp
          omega
        intro g' cap' w7 hown7 hg7 hat7 hlt7
        have hfr7 : Fr (fun i => w1.heap.size ≤ i) wr6 w7 := (Fr.alloc _ _ _).trans (Fr.of_grown hg7 (fun i hi => (hout6.lt i hi).1))
        have hj7 := H6.out.jobs.kept hfr7 (fun i hb hi => by have := hgk i hb; omega)
        have hres : RelAt b n L clock (k + 1) (.slice (some ⟨g', 0, none⟩) ((relIds L k).length + 1) cap') w w1 w7 := by
          refine ⟨?_, ?_, ?_⟩
          · rw [HNX.out]
            simpa [rest, hac, hsp, hwt] using hj7
          · rw [HNI.out]
            simpa [rest, hac, hsp, hwt] using hown7
          · refine (HA.out.fr.trans HFR6.out).then hfr7 (fun i hi => .inr hi)
        have HRES := hid hres
        clear hres hj7 hfr7 hown7 hg7 hat7 hout6
        go_wp2_with fail
        go_roundw
        case rel => exact ⟨k + 1, by omega, by go_num, HRES.out⟩
        case measure => simp [intOf]; omega
      · have hres : RelAt b n L clock (k + 1) u5 w w1 wr := by
          refine ⟨?_, ?_, HA.out.fr⟩
          · rw [HNX.out]
            simpa [rest, hac, hsp, hwt] using HO.out.jobs
          · rw [HNI.out]
            simpa [rest, hac, hsp, hwt] using HA.out.out
        have HRES := hid hres
        clear hres c7 c8 c9 c10 hfz
        go_wp2_with fail
        refine (HO.out.get).mono ?_
        rintro e w' ⟨rfl, hw⟩
        have hw := hw.symm; subst hw
        go_wp2_with fail
        go_roundw
        case rel => exact ⟨k + 1, by omega, by go_num, HRES.out⟩
        case measure => simp [intOf]; omega
      · obtain ⟨wr6, hd, h6⟩ : ∃ wr6, Deeds b s t clock wr wr6 ∧ One b n ((L.take k).map (relOne clock)) (L.drop (k + 1)) s (begun clock t) wr6 := HO.out.deeds clock
        obtain ⟨wr1, wr2, wr3, wr4, wr5, w1', w2', w3', w4', w5', w6', d5, d6, d7, d8, d9, d10, e10, f5, f6, f7, f8, f9, f10, hfr6⟩ := hd
        have W1 := hid w1'
        have W2 := hid w2'
        have W3 := hid w3'
        have W4 := hid w4'
        have W5 := hid w5'
        have W6 := hid w6'
        have H6 := hid h6
        have HFR6 := hid hfr6
        clear w1' w2' w3' w4' w5' w6' h6 hfr6 c7 c8 c9 c10 hfz
        go_wp2_with fail
        refine (HO.out.get).mono ?_
        rintro e w' ⟨rfl, hw⟩
        have hw := hw.symm; subst hw
        go_upto_region 7 with fail
        go_upto_region 9 with (with_reducible (show wpList _ _ _ (⟨_, Op.store _ _ _, _, _, _, _⟩ :: _) _ _); first | (refine wpList_store_cell rfl _ _ _ rfl _ _ (.bool false) _ rfl rfl rfl (by with_reducible assumption) (by with_reducible assumption) (by first | with_reducible exact size4 | with_reducible exact size3) ?_; (first | rw [← W1.out] | rw [← W5.out])) | (refine wpList_store_cell rfl _ _ _ rfl _ _ (.bool true) _ rfl rfl rfl (by with_reducible assumption) (by with_reducible assumption) (by first | with_reducible exact size4 | with_reducible exact size3) ?_; (first | rw [← W2.out])) | (refine wpList_store_cell rfl _ _ _ rfl _ _ (.int .i64 0) _ rfl rfl rfl (by with_reducible assumption) (by with_reducible assumption) (by first | with_reducible exact size4 | with_reducible exact size3) ?_; (first | rw [← W4.out])) | (refine wpList_store_cell rfl _ _ _ rfl _ _ (.int .i64 clock) _ rfl rfl rfl (by with_reducible assumption) (by with_reducible assumption) (by first | with_reducible exact size4 | with_reducible exact size3) ?_; (first | rw [← W3.out])) | (refine wpList_store_cell rfl _ _ _ rfl _ _ (.int .i64 (t.Ct + 1)) _ rfl rfl rfl (by with_reducible assumption) (by with_reducible assumption) (by first | with_reducible exact size4 | with_reducible exact size3) ?_; (first | rw [← W6.out])))
        have hout6 : wr6.ownsRow w1.heap.size 3 1 u5 (relIds L k).length ((relIds L k).map (Value.int .i64)) := row_kept HA.out.out HFR6.out (fun i hi hb => by have := hgk i hb; omega)
        have hrk := relIds_le L k
        have hml : (relIds L k).length + 1 ≤ maxLen := by unfold maxLen; omega
        clear d5 d6 d7 d8 d9 d10 f5 f6 f7 f8 f9 f10 W1 W2 W3 W4 W5 W6
        go_wp2_with (at_builtin; refine wpList_append_lies _ rfl (.tmp 59) (.tmp 61) 28 rfl w1.heap.size 3 i0 (.int .i64 0) 1 8 Try.underlying28 hi hz0 hz1 hz2 rfl (by decide) _ _ _ rfl (hout6.alloc _) ⟨wr6.heap.size, 0, none⟩ 1 1 [.int .i64 t.ID] rfl rfl ?c1 ?c2 ?c3 ?c4 ?c5 ?c6 _ rfl ?_)
        case c1 => exact World.news_of_block (cs := #[.int .i64 t.ID]) (t := 3) (fr := (0, 0)) (heap_alloc_new wr6 _)
        case c2 => simp [Value.oneCell']
        case c3 => omega
        case c4 => exact hml
        case c5 => omega
        case c6 =>
          have h1 := HA.out.fr.size
          have h2 := HFR6.out.size
          simp
          omega
        intro g' cap' w7 hown7 hg7 hat7 hlt7
        have hfr7 : Fr (fun i => w1.heap.size ≤ i) wr6 w7 := (Fr.alloc _ _ _).trans (Fr.of_grown hg7 (fun i hi => (hout6.lt i hi).1))
        have hj7 := H6.out.jobs.kept hfr7 (fun i hb hi => by have := hgk i hb; omega)
        have hres : RelAt b n L clock (k + 1) (.slice (some ⟨g', 0, none⟩) ((relIds L k).length + 1) cap') w w1 w7 := by
          refine ⟨?_, ?_, ?_⟩
          · rw [HNX.out]
            simpa [rest, hac, hsp, hwt] using hj7
          · rw [HNI.out]
            simpa [rest, hac, hsp, hwt] using hown7
          · refine (HA.out.fr.trans HFR6.out).then hfr7 (fun i hi => .inr hi)
        have HRES := hid hres
        clear hres hj7 hfr7 hown7 hg7 hat7 hout6
        go_wp2_with fail
        go_roundw
        case rel => exact ⟨k + 1, by omega, by go_num, HRES.out⟩
        case measure => simp [intOf]; omega
      · have hres : RelAt b n L clock (k + 1) u5 w w1 wr := by
          refine ⟨?_, ?_, HA.out.fr⟩
          · rw [HNX.out]
            simpa [rest, hac, hsp, hwt] using HO.out.jobs
          · rw [HNI.out]
            simpa [rest, hac, hsp, hwt] using HA.out.out
        have HRES := hid hres
        clear hres c7 c8 c9 c10 hfz
        go_wp2_with fail
        refine (HO.out.get).mono ?_
        rintro e w' ⟨rfl, hw⟩
        have hw := hw.symm; subst hw
        go_wp2_with fail
        go_roundw
        case rel => exact ⟨k + 1, by omega, by go_num, HRES.out⟩
        case measure => simp [intOf]; omega
      · have hres : RelAt b n L clock (k + 1) u5 w w1 wr := by
          refine ⟨?_, ?_, HA.out.fr⟩
          · rw [HNX.out]
            simpa [rest, hac, hsp, hwt] using HO.out.jobs
          · rw [HNI.out]
            simpa [rest, hac, hsp, hwt] using HA.out.out
        have HRES := hid hres
        clear hres c7 c8 c9 c10 hfz
        go_wp2_with fail
        refine (HO.out.get).mono ?_
        rintro e w' ⟨rfl, hw⟩
        have hw := hw.symm; subst hw
        go_wp2_with fail
        go_roundw
        case rel => exact ⟨k + 1, by omega, by go_num, HRES.out⟩
        case measure => simp [intOf]; omega
      · have hres : RelAt b n L clock (k + 1) u5 w w1 wr := by
          refine ⟨?_, ?_, HA.out.fr⟩
          · rw [HNX.out]
            simpa [rest, hac, hsp, hwt] using HO.out.jobs
          · rw [HNI.out]
            simpa [rest, hac, hsp, hwt] using HA.out.out
        have HRES := hid hres
        clear hres c7 c8 c9 c10 hfz
        go_wp2_with fail
        refine (HO.out.get).mono ?_
        rintro e w' ⟨rfl, hw⟩
        have hw := hw.symm; subst hw
        go_wp2_with fail
        go_roundw
        case rel => exact ⟨k + 1, by omega, by go_num, HRES.out⟩
        case measure => simp [intOf]; omega
      · have hres : RelAt b n L clock (k + 1) u5 w w1 wr := by
          refine ⟨?_, ?_, HA.out.fr⟩
          · rw [HNX.out]
            simpa [rest, hac, hsp, hwt] using HO.out.jobs
          · rw [HNI.out]
            simpa [rest, hac, hsp, hwt] using HA.out.out
        have HRES := hid hres
        clear hres c7 c8 c9 c10 hfz
        go_wp2_with fail
        refine (HO.out.get).mono ?_
        rintro e w' ⟨rfl, hw⟩
        have hw := hw.symm; subst hw
        go_wp2_with fail
        go_roundw
        case rel => exact ⟨k + 1, by omega, by go_num, HRES.out⟩
        case measure => simp [intOf]; omega
    · obtain rfl : k = N := by omega
      have hres : wr.ownsRow w.heap.size 3 1 u5 (mRelease L clock).1.length ((mRelease L clock).1.map (Value.int .i64)) ∧ JobsIs b n (mRelease L clock).2 wr ∧ Fr b.has w wr := by
        have h1 := HA.out.jobs
        have h2 := HA.out.out
        rw [← hN, relTo_all] at h1
        rw [← hN, relIds_all clock] at h2
        exact ⟨World.ownsRow.mono h2 HF1.out.size, h1, (HF1.out.mono (fun _ _ h => h.elim)).trans HA.out.fr⟩
      have HRES := hid hres
      clear hA hres
      go_wp2_with fail
      go_ret
      exact ⟨u5, rfl, HRES.out⟩
end Go.Proofs.Ytajlilcodnkfdaa
