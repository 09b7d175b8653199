/-
  What tasks by id do: plain Lean, no program in sight.
-/
namespace Go.Proofs.Ytajlilcodnkfdaa

structure T where
  (ID E P : Int) (Sp Lv Wt Ac : Bool) (Rl Gt : Int) (Dn : Bool) (Ct : Int)
deriving DecidableEq

abbrev Rising (L : List T) : Prop := L.Pairwise (fun a b => a.ID < b.ID)
def find (L : List T) (id : Int) : Option T := L.find? (fun t => t.ID == id)
def setT (L : List T) (x : T) : List T := L.map (fun t => if t.ID = x.ID then x else t)
def delT (L : List T) (id : Int) : List T := L.filter (fun t => !(t.ID == id))
def insT : List T → T → List T
  | [], x => [x]
  | y :: r, x => if x.ID < y.ID then x :: y :: r else y :: insT r x

def made (id e p : Int) (sp : Bool) : T := ⟨id, e, p, sp, false, false, false, 0, 0, false, 0⟩
def mJoin (n : Nat) (L : List T) (id e p : Int) (sp : Bool) : Int × List T :=
  if e < 1 ∨ p < e ∨ 1048575 < p then (2, L) else if (find L id).isSome then (4, L) else if n ≤ L.length then (6, L) else (0, insT L (made id e p sp))
def mLeave (L : List T) (id : Int) : (Bool × Int) × List T :=
  match find L id with
  | none => ((false, 5), L)
  | some t => if t.Lv then ((false, 13), L) else if t.Ac then ((false, 0), setT L { t with Lv := true }) else ((true, 0), delT L id)
def mArrive (L : List T) (id : Int) : Int × List T :=
  match find L id with
  | none => (5, L)
  | some t => if t.Sp then (if t.Lv then (13, L) else if t.Ac || t.Wt then (10, L) else (0, setT L { t with Wt := true })) else (9, L)
def mFinish (L : List T) (id : Int) : Int × List T :=
  match find L id with
  | none => (5, L)
  | some t => if t.Ac then (if t.Dn || t.Gt == t.E then (12, L) else (0, setT L { t with Dn := true })) else (11, L)
def mGive (L : List T) (id : Int) : Bool × List T :=
  match find L id with
  | none => (false, L)
  | some t => if t.Ac && !(t.Gt == t.E) then (true, setT L { t with Gt := t.Gt + 1 }) else (false, L)
def rest (t : T) : Bool := t.Ac || (t.Sp && !t.Wt)
def begun (clock : Int) (t : T) : T := { t with Wt := false, Ac := true, Rl := clock, Gt := 0, Dn := false, Ct := t.Ct + 1 }
def mRelease (L : List T) (clock : Int) : List Int × List T := ((L.filter (fun t => !rest t)).map (·.ID), L.map (fun t => if rest t then t else begun clock t))
def due (clock : Int) (t : T) : Bool := t.Ac && decide (t.Rl + t.P ≤ clock)
def ended (t : T) : T := { t with Ac := false, Rl := 0, Gt := 0, Dn := false }
def step (clock : Int) (t : T) : List T := if due clock t then (if t.Lv then [] else [ended t]) else [t]
def mSettle (L : List T) (clock : Int) : (List Int × Int) × List T :=
  (((L.filter (fun t => due clock t && t.Lv)).map (·.ID), ((L.filter (fun t => due clock t && !(t.Gt == t.E))).length : Nat)), L.flatMap (step clock))

/-- What each task keeps within. -/
structure Ok (c : Int) (t : T) : Prop where
  e1 : 1 ≤ t.E
  ep : t.E ≤ t.P
  p1 : t.P ≤ 1048575
  g0 : 0 ≤ t.Gt
  ge : t.Gt ≤ t.E
  r0 : 0 ≤ t.Rl
  r1 : t.Rl ≤ 1000000000
  c0 : 0 ≤ t.Ct
  c1 : t.Ct ≤ c
def Good (c : Int) (L : List T) : Prop := ∀ t ∈ L, Ok c t

theorem find_mem {L : List T} {id : Int} {t : T} (h : find L id = some t) : t ∈ L ∧ t.ID = id :=
  ⟨List.mem_of_find?_eq_some h, by simpa using List.find?_some h⟩
theorem find_none {L : List T} {id : Int} (h : find L id = none) {t : T} (ht : t ∈ L) : t.ID ≠ id := by
  simp only [find, List.find?_eq_none] at h
  simpa using h t ht

theorem find_mid {A B : List T} {t : T} (h : Rising (A ++ t :: B)) : find (A ++ t :: B) t.ID = some t := by
  rw [find, List.find?_append]
  have : A.find? (fun x => x.ID == t.ID) = none := by
    rw [List.find?_eq_none]
    intro x hx
    have := (List.pairwise_append.1 h).2.2 x hx t (by simp)
    simp; omega
  rw [this]
  simp
theorem setT_mid {A B : List T} {t x : T} (h : Rising (A ++ t :: B)) (hx : x.ID = t.ID) : setT (A ++ t :: B) x = A ++ x :: B := by
  have h1 := List.pairwise_append.1 h
  have h2 := List.pairwise_cons.1 h1.2.1
  have e1 : ∀ y ∈ A, (if y.ID = x.ID then x else y) = y := fun y hy => by
    have := h1.2.2 y hy t (by simp)
    rw [if_neg (by omega)]
  have e2 : ∀ y ∈ B, (if y.ID = x.ID then x else y) = y := fun y hy => by
    have := h2.1 y hy
    rw [if_neg (by omega)]
  rw [setT, List.map_append, List.map_cons, if_pos hx.symm, List.map_congr_left e1, List.map_congr_left e2]
  simp
theorem delT_mid {A B : List T} {t : T} (h : Rising (A ++ t :: B)) : delT (A ++ t :: B) t.ID = A ++ B := by
  have h1 := List.pairwise_append.1 h
  have h2 := List.pairwise_cons.1 h1.2.1
  have e1 : A.filter (fun y => !(y.ID == t.ID)) = A := by
    rw [List.filter_eq_self]
    intro y hy
    have := h1.2.2 y hy t (by simp)
    simp; omega
  have e2 : B.filter (fun y => !(y.ID == t.ID)) = B := by
    rw [List.filter_eq_self]
    intro y hy
    have := h2.1 y hy
    simp; omega
  rw [delT, List.filter_append, List.filter_cons, e1, e2]
  simp

theorem setT_ids {L : List T} {x : T} : (setT L x).map (·.ID) = L.map (·.ID) := by
  rw [setT, List.map_map]
  refine List.map_congr_left fun t _ => ?_
  show (if t.ID = x.ID then x else t).ID = t.ID
  split
  · next h => exact h.symm
  · rfl
theorem rising_ids {L M : List T} (h : L.map (·.ID) = M.map (·.ID)) (hL : Rising L) : Rising M := by
  have h1 : (L.map (·.ID)).Pairwise (· < ·) := List.pairwise_map.2 hL
  rw [h] at h1
  exact List.pairwise_map.1 h1
theorem setT_rising {L : List T} {x : T} (h : Rising L) : Rising (setT L x) := rising_ids setT_ids.symm h
theorem delT_rising {L : List T} {id : Int} (h : Rising L) : Rising (delT L id) := h.sublist List.filter_sublist
theorem mem_insT {L : List T} {x y : T} : y ∈ insT L x ↔ y = x ∨ y ∈ L := by
  induction L with
  | nil => simp [insT]
  | cons z r ih =>
    rw [insT]
    split
    · simp
    · simp only [List.mem_cons, ih]
      constructor <;> (rintro (h | h | h) <;> simp [h])
theorem insT_rising {L : List T} {x : T} (h : Rising L) (hx : find L x.ID = none) : Rising (insT L x) := by
  induction L with
  | nil => simp [insT]
  | cons y r ih =>
    have hy := find_none hx (t := y) (by simp)
    have hr : find r x.ID = none := by
      simp only [find, List.find?_eq_none] at hx ⊢
      exact fun p hp => hx p (List.mem_cons_of_mem _ hp)
    have h' := List.pairwise_cons.1 h
    rw [insT]
    split
    · next hl =>
      refine List.pairwise_cons.2 ⟨fun p hp => ?_, h⟩
      rcases List.mem_cons.1 hp with rfl | hp
      · exact hl
      · exact Int.lt_trans hl (h'.1 p hp)
    · next hl =>
      refine List.pairwise_cons.2 ⟨fun p hp => ?_, ih h'.2 hr⟩
      rcases mem_insT.1 hp with rfl | hp
      · omega
      · exact h'.1 p hp

theorem step_ids {clock : Int} {t x : T} (h : x ∈ step clock t) : x.ID = t.ID := by
  unfold step at h
  split at h
  · split at h
    · simp at h
    · simp at h; subst h; rfl
  · simp at h; subst h; rfl
theorem settle_rising {clock : Int} : ∀ {L : List T}, Rising L → Rising (L.flatMap (step clock))
  | [], _ => by simp
  | t :: r, h => by
    have h' := List.pairwise_cons.1 h
    rw [List.flatMap_cons]
    refine List.pairwise_append.2 ⟨?_, settle_rising h'.2, fun a ha b hb => ?_⟩
    · unfold step
      split
      · split <;> simp
      · simp
    · obtain ⟨y, hy, hb⟩ := List.mem_flatMap.1 hb
      rw [step_ids ha, step_ids hb]
      exact h'.1 y hy
theorem release_ids {L : List T} {clock : Int} : (mRelease L clock).2.map (·.ID) = L.map (·.ID) := by
  rw [mRelease, List.map_map]
  refine List.map_congr_left fun t _ => ?_
  show (if rest t then t else begun clock t).ID = t.ID
  split <;> rfl

/-! ### what is kept -/
theorem Ok.le {c c' : Int} {t : T} (h : Ok c t) (hc : c ≤ c') : Ok c' t := ⟨h.e1, h.ep, h.p1, h.g0, h.ge, h.r0, h.r1, h.c0, Int.le_trans h.c1 hc⟩
theorem Good.le {c c' : Int} {L : List T} (h : Good c L) (hc : c ≤ c') : Good c' L := fun t ht => (h t ht).le hc
theorem Good.set {c : Int} {L : List T} (h : Good c L) {x : T} (hx : Ok c x) : Good c (setT L x) := by
  intro t ht
  obtain ⟨y, hy, rfl⟩ := List.mem_map.1 ht
  show Ok c (if y.ID = x.ID then x else y)
  split
  · exact hx
  · exact h y hy
theorem Good.del {c : Int} {L : List T} (h : Good c L) (id : Int) : Good c (delT L id) := fun t ht => h t (List.mem_filter.1 ht).1
theorem Good.ins {c : Int} {L : List T} (h : Good c L) {x : T} (hx : Ok c x) : Good c (insT L x) := fun t ht => by
  rcases mem_insT.1 ht with rfl | ht
  · exact hx
  · exact h t ht
theorem Good.join {c : Int} {L : List T} (h : Good c L) (hc : 0 ≤ c) (n : Nat) (id e p : Int) (sp : Bool) : Good c (mJoin n L id e p sp).2 := by
  unfold mJoin
  split
  · exact h
  · split
    · exact h
    · split
      · exact h
      · exact h.ins ⟨by simp [made]; omega, by simp [made]; omega, by simp [made]; omega, by simp [made], by simp [made]; omega, by simp [made], by simp [made], by simp [made], by simpa [made]⟩
theorem Good.leave {c : Int} {L : List T} (h : Good c L) (id : Int) : Good c (mLeave L id).2 := by
  unfold mLeave
  split
  · exact h
  · next t ht =>
    have ht := h t (find_mem ht).1
    split
    · exact h
    · split
      · exact h.set ⟨ht.e1, ht.ep, ht.p1, ht.g0, ht.ge, ht.r0, ht.r1, ht.c0, ht.c1⟩
      · exact h.del id
theorem Good.arrive {c : Int} {L : List T} (h : Good c L) (id : Int) : Good c (mArrive L id).2 := by
  unfold mArrive
  split
  · exact h
  · next t ht =>
    have ht := h t (find_mem ht).1
    repeat' split
    all_goals first | exact h | exact h.set ⟨ht.e1, ht.ep, ht.p1, ht.g0, ht.ge, ht.r0, ht.r1, ht.c0, ht.c1⟩
theorem Good.finish {c : Int} {L : List T} (h : Good c L) (id : Int) : Good c (mFinish L id).2 := by
  unfold mFinish
  split
  · exact h
  · next t ht =>
    have ht := h t (find_mem ht).1
    repeat' split
    all_goals first | exact h | exact h.set ⟨ht.e1, ht.ep, ht.p1, ht.g0, ht.ge, ht.r0, ht.r1, ht.c0, ht.c1⟩
theorem Good.give {c : Int} {L : List T} (h : Good c L) (id : Int) : Good c (mGive L id).2 := by
  unfold mGive
  split
  · exact h
  · next t ht =>
    have ht := h t (find_mem ht).1
    split
    · next hx =>
      simp at hx
      have := ht.ge
      have := ht.g0
      exact h.set ⟨ht.e1, ht.ep, ht.p1, by simp only; omega, by simp only; omega, ht.r0, ht.r1, ht.c0, ht.c1⟩
    · exact h
theorem Good.release {c : Int} {L : List T} (h : Good c L) {clock : Int} (h0 : 0 ≤ clock) (h1 : clock ≤ 1000000000) : Good (c + 1) (mRelease L clock).2 := by
  intro t ht
  obtain ⟨y, hy, rfl⟩ := List.mem_map.1 ht
  have hy := h y hy
  have := hy.c1
  have := hy.c0
  have := hy.e1
  show Ok (c + 1) (if rest y then y else begun clock y)
  split
  · exact hy.le (by omega)
  · exact ⟨hy.e1, hy.ep, hy.p1, by simp [begun], by simp only [begun]; omega, h0, h1, by simp only [begun]; omega, by simp only [begun]; omega⟩
theorem Good.settle {c : Int} {L : List T} (h : Good c L) (clock : Int) : Good c (mSettle L clock).2 := by
  intro t ht
  obtain ⟨y, hy, ht⟩ := List.mem_flatMap.1 ht
  have hy := h y hy
  have := hy.e1
  unfold step at ht
  split at ht
  · split at ht
    · simp at ht
    · simp at ht
      subst ht
      exact ⟨hy.e1, hy.ep, hy.p1, by simp [ended], by simp only [ended]; omega, by simp [ended], by simp [ended], hy.c0, hy.c1⟩
  · simp at ht
    subst ht
    exact hy
end Go.Proofs.Ytajlilcodnkfdaa
