/-
  Two tables side by side, and blocks that are none of theirs.
-/
import Derived.Test.YtajlilcodnkfdaaOwn
namespace Go.Proofs.Ytajlilcodnkfdaa
open Go.Proofs
open Go.RowKit Go.WideMaps

set_option linter.unusedSimpArgs false

structure Two (p q n : Nat) (L M : List T) (K : Nat → Obj → Prop) (w0 w : World) : Prop where
  at' : ∃ a b : JB, a.pj = p ∧ b.pj = q ∧ Own a n L w0 w ∧ Own b n M w0 w ∧ (∀ k, a.has k → ¬ b.has k) ∧ ∀ g o, K g o → ¬ a.has g ∧ ¬ b.has g
  kept : ∀ g o, K g o → w.heap[g]? = some o
theorem Two.swap {p q n : Nat} {L M : List T} {K : Nat → Obj → Prop} {w0 w : World} (h : Two p q n L M K w0 w) : Two q p n M L K w0 w := by
  obtain ⟨a, b, h1, h2, h3, h4, h5, h6⟩ := h.at'
  exact ⟨⟨b, a, h2, h1, h4, h3, fun k hb ha => h5 k ha hb, fun g o hk => (h6 g o hk).symm⟩, h.kept⟩
theorem Two.fr {p q n : Nat} {L M : List T} {K : Nat → Obj → Prop} {w0 w : World} (h : Two p q n L M K w0 w) : Fr (fun _ => False) w0 w := by
  obtain ⟨a, b, h1, h2, h3, _⟩ := h.at'
  exact h3.fr
theorem Two.quiet {p q n : Nat} {L M : List T} {K : Nat → Obj → Prop} {w0 w w' : World} (h : Two p q n L M K w0 w) (hf : Fr (fun _ => False) w w') : Two p q n L M K w0 w' := by
  obtain ⟨a, b, h1, h2, h3, h4, h5, h6⟩ := h.at'
  exact ⟨⟨a, b, h1, h2, h3.quiet hf, h4.quiet hf, h5, h6⟩, fun g o hk => hf.heap (h.kept g o hk) _root_.id⟩
/-- One block more is watched: it was made behind all that the tables hold. -/
theorem Two.keep {p q n : Nat} {L M : List T} {K : Nat → Obj → Prop} {w0 w w' : World} (h : Two p q n L M K w0 w) (hf : Fr (fun _ => False) w w') {g : Nat} {o : Obj} (hg : w.heap.size ≤ g) (ho : w'.heap[g]? = some o) :
    Two p q n L M (fun i x => K i x ∨ (i = g ∧ x = o)) w0 w' := by
  have h' := h.quiet hf
  obtain ⟨a, b, h1, h2, h3, h4, h5, h6⟩ := h.at'
  refine ⟨⟨a, b, h1, h2, h3.quiet hf, h4.quiet hf, h5, fun i x hx => ?_⟩, fun i x hx => ?_⟩
  · rcases hx with hx | ⟨rfl, _⟩
    · exact h6 i x hx
    · exact ⟨fun ha => by have := h3.lt ha; omega, fun hb => by have := h4.lt hb; omega⟩
  · rcases hx with hx | ⟨rfl, rfl⟩
    · exact h'.kept i x hx
    · exact ho
theorem Two.less {p q n : Nat} {L M : List T} {K K' : Nat → Obj → Prop} {w0 w : World} (h : Two p q n L M K w0 w) (hk : ∀ g o, K' g o → K g o) : Two p q n L M K' w0 w := by
  obtain ⟨a, b, h1, h2, h3, h4, h5, h6⟩ := h.at'
  exact ⟨⟨a, b, h1, h2, h3, h4, h5, fun g o h => h6 g o (hk g o h)⟩, fun g o h' => h.kept g o (hk g o h')⟩
theorem Two.step {n : Nat} {L M L' : List T} {K : Nat → Obj → Prop} {w0 w w' : World} {a a' b : JB} (h3 : Own a n L w0 w) (h4 : Own b n M w0 w) (h5 : ∀ k, a.has k → ¬ b.has k) (h6 : ∀ g o, K g o → ¬ a.has g ∧ ¬ b.has g) (hk : ∀ g o, K g o → w.heap[g]? = some o)
    (hj : Own a' n L' w0 w') (hw : Went a a' w w') : Two a'.pj b.pj n L' M K w0 w' :=
  ⟨⟨a', b, rfl, rfl, hj, h4.kept hw.fr (fun k hb ha => h5 k ha hb) (fun k ha => h3.ge k ha),
    fun k ha hb => (hw.new k ha).elim (fun h => h5 k h hb) (fun h => by have := h4.lt hb; omega),
    fun g o hg => ⟨fun ha => (hw.new g ha).elim (h6 g o hg).1 (fun h => by have := lt_of_heap (hk g o hg); omega), (h6 g o hg).2⟩⟩, fun g o hg => hw.fr.heap (hk g o hg) (h6 g o hg).1⟩

section
variable {p q n : Nat} {L M : List T} {K : Nat → Obj → Prop} {w0 w : World}
theorem two_join (h : Two p q n L M K w0 w) (id E P : Int) (sp : Bool) (hwf : (Lit.int .i64 id).wf = true) :
    Calls Try.prog 9 #[.pointer (some ⟨p, 0, none⟩), .int .i64 id, .int .i64 E, .int .i64 P, .bool sp] w fun e w' => e = .returned (.int .i64 (mJoin n L id E P sp).1) ∧ Two p q n (mJoin n L id E P sp).2 M K w0 w' := by
  obtain ⟨a, b, rfl, rfl, h3, h4, h5, h6⟩ := h.at'
  exact (own_join h3 id E P sp hwf).mono fun _ _ ⟨h1, h2, hw⟩ => ⟨h1, Two.step h3 h4 h5 h6 h.kept h2 hw⟩
theorem two_leave (h : Two p q n L M K w0 w) (id : Int) (hwf : (Lit.int .i64 id).wf = true) :
    Calls Try.prog 12 #[.pointer (some ⟨p, 0, none⟩), .int .i64 id] w fun e w' => e = .returned (.tuple #[.bool (mLeave L id).1.1, .int .i64 (mLeave L id).1.2]) ∧ Two p q n (mLeave L id).2 M K w0 w' := by
  obtain ⟨a, b, rfl, rfl, h3, h4, h5, h6⟩ := h.at'
  exact (own_leave h3 id hwf).mono fun _ _ ⟨h1, a', hp, h2, hw⟩ => ⟨h1, hp ▸ Two.step h3 h4 h5 h6 h.kept h2 hw⟩
theorem two_arrive (h : Two p q n L M K w0 w) (id : Int) (hwf : (Lit.int .i64 id).wf = true) :
    Calls Try.prog 15 #[.pointer (some ⟨p, 0, none⟩), .int .i64 id] w fun e w' => e = .returned (.int .i64 (mArrive L id).1) ∧ Two p q n (mArrive L id).2 M K w0 w' := by
  obtain ⟨a, b, rfl, rfl, h3, h4, h5, h6⟩ := h.at'
  exact (own_arrive h3 id hwf).mono fun _ _ ⟨h1, h2, hw⟩ => ⟨h1, Two.step h3 h4 h5 h6 h.kept h2 hw⟩
theorem two_finish (h : Two p q n L M K w0 w) (id : Int) (hwf : (Lit.int .i64 id).wf = true) :
    Calls Try.prog 19 #[.pointer (some ⟨p, 0, none⟩), .int .i64 id] w fun e w' => e = .returned (.int .i64 (mFinish L id).1) ∧ Two p q n (mFinish L id).2 M K w0 w' := by
  obtain ⟨a, b, rfl, rfl, h3, h4, h5, h6⟩ := h.at'
  exact (own_finish h3 id hwf).mono fun _ _ ⟨h1, h2, hw⟩ => ⟨h1, Two.step h3 h4 h5 h6 h.kept h2 hw⟩
theorem two_give (h : Two p q n L M K w0 w) {c : Int} (hg : Good c L) (id : Int) (hwf : (Lit.int .i64 id).wf = true) :
    Calls Try.prog 24 #[.pointer (some ⟨p, 0, none⟩), .int .i64 id] w fun e w' => e = .returned (.bool (mGive L id).1) ∧ Two p q n (mGive L id).2 M K w0 w' := by
  obtain ⟨a, b, rfl, rfl, h3, h4, h5, h6⟩ := h.at'
  exact (own_give h3 hg id hwf).mono fun _ _ ⟨h1, h2, hw⟩ => ⟨h1, Two.step h3 h4 h5 h6 h.kept h2 hw⟩
theorem two_release (h : Two p q n L M K w0 w) {c : Int} (hg : Good c L) (hc : c ≤ 1000000000) (clock : Int) :
    Calls Try.prog 10 #[.pointer (some ⟨p, 0, none⟩), .int .i64 clock] w fun e w' => ∃ v, e = .returned v ∧ Row w.heap.size v (mRelease L clock).1 w' ∧ Two p q n (mRelease L clock).2 M K w0 w' := by
  obtain ⟨a, b, rfl, rfl, h3, h4, h5, h6⟩ := h.at'
  exact (own_release h3 hg hc clock).mono fun _ _ ⟨v, h1, hr, h2, hw⟩ => ⟨v, h1, hr, Two.step h3 h4 h5 h6 h.kept h2 hw⟩
theorem two_settle (h : Two p q n L M K w0 w) {c : Int} (hg : Good c L) (clock : Int) (hc : clock ≤ 1000000000) :
    Calls Try.prog 11 #[.pointer (some ⟨p, 0, none⟩), .int .i64 clock] w fun e w' => ∃ v, e = .returned (.tuple #[v, .int .i64 (mSettle L clock).1.2]) ∧ Row w.heap.size v (mSettle L clock).1.1 w' ∧ Two p q n (mSettle L clock).2 M K w0 w' := by
  obtain ⟨a, b, rfl, rfl, h3, h4, h5, h6⟩ := h.at'
  exact (own_settle h3 hg clock hc).mono fun _ _ ⟨v, a', h1, hr, hp, h2, hw⟩ => ⟨v, h1, hr, hp ▸ Two.step h3 h4 h5 h6 h.kept h2 hw⟩
def told (o : Option T) : Value := .tuple #[.agg (o.getD noTask).cells, .bool o.isSome]
theorem two_task (h : Two p q n L M K w0 w) (id : Int) (hwf : (Lit.int .i64 id).wf = true) :
    Calls Try.prog 13 #[.pointer (some ⟨p, 0, none⟩), .int .i64 id] w fun e w' => e = .returned (.tuple #[.agg ((find L id).getD noTask).cells, .bool (find L id).isSome]) ∧ Fr (fun _ => False) w w' := by
  obtain ⟨a, b, rfl, rfl, h3, h4, h5, h6⟩ := h.at'
  cases hf : find L id with
  | none => exact (own_task_no h3 id hwf hf).mono fun _ _ ⟨h1, _, h2⟩ => ⟨h1, h2⟩
  | some t => exact (own_task_yes h3 id hwf t hf).mono fun _ _ ⟨h1, _, h2⟩ => ⟨h1, h2⟩
theorem two_ids (h : Two p q n L M K w0 w) :
    Calls Try.prog 26 #[.pointer (some ⟨p, 0, none⟩)] w fun e w' => ∃ v, e = .returned v ∧ w'.ownsRow w.heap.size 3 1 v L.length (L.map (fun t => Value.int .i64 t.ID)) ∧ Fr (fun _ => False) w w' := by
  obtain ⟨a, b, rfl, rfl, h3, h4, h5, h6⟩ := h.at'
  exact (ids_jobs w h3.jobs).mono fun _ _ ⟨v, h1, h2, hg⟩ => ⟨v, h1, h2, Fr.of_grown hg (fun k hk => by cases hk)⟩
theorem Two.low (h : Two p q n L M K w0 w) : L.length ≤ 4096 ∧ Rising L ∧ ∀ t ∈ L, (Lit.int .i64 t.ID).wf = true := by
  obtain ⟨a, b, rfl, rfl, h3, h4, h5, h6⟩ := h.at'
  have := h3.jobs.length_le
  exact ⟨by omega, h3.jobs.rising, fun t ht => h3.jobs.wf ht⟩
end

/-- A row of deeds that came in. -/
def DeedsIn (ao : Option Addr) (len : Nat) (w : World) : Prop := ∀ i, i < len → ∃ (g o : Nat) (x id e p : Int) (sp : Bool), ao = some ⟨g, o, none⟩ ∧ w.cell? ⟨g, o + i * 5, none⟩ = some (.int .i64 x) ∧ w.cell? ⟨g, o + i * 5 + 1, none⟩ = some (.int .i64 id) ∧
  w.cell? ⟨g, o + i * 5 + 2, none⟩ = some (.int .i64 e) ∧ w.cell? ⟨g, o + i * 5 + 3, none⟩ = some (.int .i64 p) ∧ w.cell? ⟨g, o + i * 5 + 4, none⟩ = some (.bool sp) ∧ (Lit.int .i64 id).wf = true

/-- What a deed does to a table. -/
def mDo (n : Nat) (L : List T) (x id e p : Int) (sp : Bool) (clock : Int) : List T :=
  if x = 0 ∨ x = 1 then (mJoin n L id e p sp).2 else if x = 2 then (mLeave L id).2 else if x = 3 then (mArrive L id).2 else if x = 4 then (mFinish L id).2 else
    if x = 5 ∨ x = 6 then (mRelease L clock).2 else if x = 7 ∨ x = 8 then (mSettle L clock).2 else (mGive L id).2
theorem Good.deed {c : Int} {L : List T} (h : Good c L) (hc : 0 ≤ c) (n : Nat) (x id e p : Int) (sp : Bool) {clock : Int} (h0 : 0 ≤ clock) (h1 : clock ≤ 1000000000) : Good (c + 1) (mDo n L x id e p sp clock) := by
  have hle : c ≤ c + 1 := by omega
  unfold mDo
  repeat' split
  · exact (h.join hc n id e p sp).le hle
  · exact (h.leave id).le hle
  · exact (h.arrive id).le hle
  · exact (h.finish id).le hle
  · exact h.release h0 h1
  · exact (h.settle clock).le hle
  · exact (h.give id).le hle
end Go.Proofs.Ytajlilcodnkfdaa
