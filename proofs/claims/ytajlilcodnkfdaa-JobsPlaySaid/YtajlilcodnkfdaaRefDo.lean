/-
  The reference's jobs: Arrive, Finish, Leave's marking, Give's counting.
-/
import Derived.Test.YtajlilcodnkfdaaRef
namespace Go.Proofs.Ytajlilcodnkfdaa
open Go.Proofs
open Go.RowKit Go.WideMaps

set_option linter.unusedSimpArgs false

theorem RefAt.one {bm n lo : Nat} {v : Value} {A B : List T} {t : T} {w : World} (h : RefAt bm n v (A ++ t :: B) lo w) :
    ∃ g cap, v = .slice (some ⟨g, 0, none⟩) (A ++ t :: B).length cap ∧ v.ownBlock = some g ∧ (∀ k, w.frozen? ⟨g, k, none⟩ = false) ∧ ∀ j u, t.cells[j]? = some u → w.cell? ⟨g, A.length * 11 + j, none⟩ = some u := by
  obtain ⟨ao, cap, hr⟩ := h.open
  have hl : A.length < (A ++ t :: B).length := by simp
  obtain ⟨g, h1, h2, h3, h4⟩ := hr.cell A.length hl
  refine ⟨g, cap, ?_, h2, h3, fun j u hu => h4 j u ?_⟩
  · rw [hr.val, h1]
  · simpa using hu

theorem arrive_ref {bm n lo : Nat} {v : Value} {M : List T} (hr : Rising M) (id : Int) (w : World) (h : RefAt bm n v M lo w) :
    Calls Try.prog 18 #[.pointer (some ⟨bm, 0, none⟩), .int .i64 id] w fun e w' => e = .returned (.int .i64 (mArrive M id).1) ∧ RefAt bm n v (mArrive M id).2 lo w' ∧ Fr (RefAt.has bm v) w w' := by
  have H := hid h
  cases hf : find M id with
  | none =>
    have hm : mArrive M id = (5, M) := by simp [mArrive, hf]
    rw [hm]
    have hno : ∀ x ∈ M, x.ID ≠ id := fun x hx => find_none hf hx
    have HN := hid hno
    clear h hf hm hno
    go_enter Try.func18, Try.ntmps18
    go_wp2_with fail
    refine (at_none id HN.out w H.out).mono ?_
    rintro e w' ⟨rfl, hw⟩
    have hw := hw.symm; subst hw
    go_wp2_with fail
    go_ret
    exact ⟨rfl, H.out, Fr.refl _ _⟩
  | some t =>
    obtain ⟨A, B, rfl, hno, hti⟩ := find_split hf
    have hset : setT (A ++ t :: B) { t with Wt := true } = A ++ { t with Wt := true } :: B := setT_mid hr rfl
    have hm : mArrive (A ++ t :: B) id = if t.Sp then (if t.Lv then (13, A ++ t :: B) else if t.Ac || t.Wt then (10, A ++ t :: B) else (0, A ++ { t with Wt := true } :: B)) else (9, A ++ t :: B) := by
      rw [← hset]; simp [mArrive, hf]
    obtain ⟨g, cap, hv, hob, hfz, hc⟩ := h.one
    have hbox : w.cell? ⟨bm, 1, none⟩ = some v := by rw [cell_of_heap h.box]; rfl
    have hput := h.put hob (t' := { t with Wt := true }) (j := 5) (by omega) (u := .bool true) rfl
    have HP := hid hput
    have hfr : Fr (RefAt.has bm v) w (w.setCell ⟨g, A.length * 11 + 5, none⟩ (.bool true)) := Fr.set (S := RefAt.has bm v) w (.inr hob) _ _
    have HF := hid hfr
    have c3 : w.cell? ⟨g, A.length * 11 + 3, none⟩ = some (.bool t.Sp) := hc 3 _ rfl
    have c4 : w.cell? ⟨g, A.length * 11 + 4, none⟩ = some (.bool t.Lv) := hc 4 _ rfl
    have c5 : w.cell? ⟨g, A.length * 11 + 5, none⟩ = some (.bool t.Wt) := hc 5 _ rfl
    have c6 : w.cell? ⟨g, A.length * 11 + 6, none⟩ = some (.bool t.Ac) := hc 6 _ rfl
    have z5 := hfz (A.length * 11 + 5)
    have HNO := hid hno
    have HTI := hid hti
    have hlow := h.low
    have i0 : (0 : Int) ≤ (A.length : Int) := by omega
    have i1 : (A.length : Int) < ((A ++ t :: B).length : Int) := by simp; omega
    rw [hv] at hbox
    have HV := hid hv
    generalize (A ++ t :: B).length = N at *
    clear h hf hput hfr hc hfz hno hti hset hr hv hob
    generalize A ++ ({ t with Wt := true } : T) :: B = M' at *
    cases hsp : t.Sp <;> cases hlv : t.Lv <;> cases hac : t.Ac <;> cases hwt : t.Wt
    all_goals
      simp only [hsp, hlv, hac, hwt, Bool.or_true, Bool.or_false, Bool.true_or, Bool.false_or, Bool.false_eq_true, if_true, if_false] at hm c3 c4 c5 c6
      rw [hm]
      clear hm
      go_enter Try.func18, Try.ntmps18
      go_wp2_with fail
      refine (at_some HNO.out HTI.out w H.out).mono ?_
      rintro e w' ⟨rfl, hw⟩
      have hw := hw.symm; subst hw
      go_wp2_with fail
      go_ret
      first
        | exact ⟨rfl, H.out, Fr.refl _ _⟩
        | exact ⟨rfl, HP.out, HF.out⟩
theorem finish_ref {bm n lo : Nat} {v : Value} {M : List T} (hr : Rising M) (id : Int) (w : World) (h : RefAt bm n v M lo w) :
    Calls Try.prog 20 #[.pointer (some ⟨bm, 0, none⟩), .int .i64 id] w fun e w' => e = .returned (.int .i64 (mFinish M id).1) ∧ RefAt bm n v (mFinish M id).2 lo w' ∧ Fr (RefAt.has bm v) w w' := by
  have H := hid h
  cases hf : find M id with
  | none =>
    have hm : mFinish M id = (5, M) := by simp [mFinish, hf]
    rw [hm]
    have hno : ∀ x ∈ M, x.ID ≠ id := fun x hx => find_none hf hx
    have HN := hid hno
    clear h hf hm hno
    go_enter Try.func20, Try.ntmps20
    go_wp2_with fail
    refine (at_none id HN.out w H.out).mono ?_
    rintro e w' ⟨rfl, hw⟩
    have hw := hw.symm; subst hw
    go_wp2_with fail
    go_ret
    exact ⟨rfl, H.out, Fr.refl _ _⟩
  | some t =>
    obtain ⟨A, B, rfl, hno, hti⟩ := find_split hf
    have hset : setT (A ++ t :: B) { t with Dn := true } = A ++ { t with Dn := true } :: B := setT_mid hr rfl
    have hm : mFinish (A ++ t :: B) id = if t.Ac then (if t.Dn || t.Gt == t.E then (12, A ++ t :: B) else (0, A ++ { t with Dn := true } :: B)) else (11, A ++ t :: B) := by
      rw [← hset]; simp [mFinish, hf]
    obtain ⟨g, cap, hv, hob, hfz, hc⟩ := h.one
    have hbox : w.cell? ⟨bm, 1, none⟩ = some v := by rw [cell_of_heap h.box]; rfl
    have hput := fun q : Nat => (h.quiet (Fr.drewN _ w q)).put hob (t' := { t with Dn := true }) (j := 9) (by omega) (u := .bool true) rfl
    have HP := hid hput
    have hfr : ∀ q : Nat, Fr (RefAt.has bm v) w ((w.drewN q).setCell ⟨g, A.length * 11 + 9, none⟩ (.bool true)) := fun q => (Fr.drewN _ w q).trans (Fr.set (S := RefAt.has bm v) _ (.inr hob) _ _)
    have HF := hid hfr
    have c1 : w.cell? ⟨g, A.length * 11 + 1, none⟩ = some (.int .i64 t.E) := hc 1 _ rfl
    have c8 : w.cell? ⟨g, A.length * 11 + 8, none⟩ = some (.int .i64 t.Gt) := hc 8 _ rfl
    have c9 : w.cell? ⟨g, A.length * 11 + 9, none⟩ = some (.bool t.Dn) := hc 9 _ rfl
    have c6 : w.cell? ⟨g, A.length * 11 + 6, none⟩ = some (.bool t.Ac) := hc 6 _ rfl
    have z9 := hfz (A.length * 11 + 9)
    have HNO := hid hno
    have HTI := hid hti
    have hlow := h.low
    have i0 : (0 : Int) ≤ (A.length : Int) := by omega
    have i1 : (A.length : Int) < ((A ++ t :: B).length : Int) := by simp; omega
    rw [hv] at hbox
    have HV := hid hv
    generalize (A ++ t :: B).length = N at *
    clear h hf hput hfr hc hfz hno hti hset hr hv hob
    generalize A ++ ({ t with Dn := true } : T) :: B = M' at *
    cases hac : t.Ac <;> cases hdn : t.Dn <;> cases hge : (t.Gt == t.E)
    all_goals
      simp only [hac, hdn, hge, Bool.or_true, Bool.or_false, Bool.true_or, Bool.false_or, Bool.false_eq_true, if_true, if_false] at hm c6 c9
      rw [hm]
      clear hm
      have hne : decide (t.Gt = t.E) = (t.Gt == t.E) := rfl
      rw [hge] at hne
      go_enter Try.func20, Try.ntmps20
      go_wp2_with fail
      refine (at_some HNO.out HTI.out w H.out).mono ?_
      rintro e w' ⟨rfl, hw⟩
      have hw := hw.symm; subst hw
      first
        | (go_upto_region 6 with fail
           go_quiet (fail)
           go_wp2_with fail)
        | go_wp2_with fail
      go_ret
      first
        | exact ⟨rfl, H.out, Fr.refl _ _⟩
        | exact ⟨rfl, H.out.quiet (Fr.drewN _ _ _), Fr.drewN _ _ _⟩
        | exact ⟨rfl, HP.out _, HF.out _⟩
end Go.Proofs.Ytajlilcodnkfdaa
