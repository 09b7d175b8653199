/-
  The reference's jobs: Leave.
-/
import Derived.Test.YtajlilcodnkfdaaRefRow
namespace Go.Proofs.Ytajlilcodnkfdaa
open Go.Proofs
open Go.RowKit Go.WideMaps

set_option linter.unusedSimpArgs false

/-- What a call of the reference's leaves alone. -/
structure RefWent (bm : Nat) (v v' : Value) (w w' : World) : Prop where
  fr : Fr (RefAt.has bm v) w w'
  new : ∀ k, v'.ownBlock = some k → v.ownBlock = some k ∨ w.heap.size ≤ k
theorem RefWent.refl (bm : Nat) (v : Value) (w : World) : RefWent bm v v w w := ⟨Fr.refl _ _, fun _ h => .inl h⟩

theorem leave_ref {bm n lo : Nat} {v : Value} {M : List T} (hr : Rising M) (id : Int) (w : World) (h : RefAt bm n v M lo w) :
    Calls Try.prog 17 #[.pointer (some ⟨bm, 0, none⟩), .int .i64 id] w fun e w' => e = .returned (.tuple #[.bool (mLeave M id).1.1, .int .i64 (mLeave M id).1.2]) ∧ ∃ v', RefAt bm n v' (mLeave M id).2 lo w' ∧ RefWent bm v v' w w' := by
  have H := hid h
  cases hf : find M id with
  | none =>
    have hm : mLeave M id = ((false, 5), M) := by simp [mLeave, hf]
    rw [hm]
    have hno : ∀ x ∈ M, x.ID ≠ id := fun x hx => find_none hf hx
    have HN := hid hno
    clear h hf hm hno
    go_enter Try.func17, Try.ntmps17
    go_wp2_with fail
    refine (at_none id HN.out w H.out).mono ?_
    rintro e w' ⟨rfl, hw⟩
    have hw := hw.symm; subst hw
    go_wp2_with fail
    go_ret2
    exact ⟨rfl, v, H.out, RefWent.refl _ _ _⟩
  | some t =>
    obtain ⟨A, B, rfl, hno, hti⟩ := find_split hf
    have hset : setT (A ++ t :: B) { t with Lv := true } = A ++ { t with Lv := true } :: B := setT_mid hr rfl
    have hdel : delT (A ++ t :: B) id = A ++ B := by rw [← hti]; exact delT_mid hr
    have hm : mLeave (A ++ t :: B) id = if t.Lv then ((false, 13), A ++ t :: B) else if t.Ac then ((false, 0), A ++ { t with Lv := true } :: B) else ((true, 0), A ++ B) := by
      rw [← hset, ← hdel]; simp [mLeave, hf]
    obtain ⟨g, cap, hv, hob, hfz, hc⟩ := h.one
    have hbox : w.cell? ⟨bm, 1, none⟩ = some v := by rw [cell_of_heap h.box]; rfl
    have hput := h.put hob (t' := { t with Lv := true }) (j := 4) (by omega) (u := .bool true) rfl
    have HP := hid hput
    have hfr : Fr (RefAt.has bm v) w (w.setCell ⟨g, A.length * 11 + 4, none⟩ (.bool true)) := Fr.set (S := RefAt.has bm v) w (.inr hob) _ _
    have HF := hid hfr
    have c4 : w.cell? ⟨g, A.length * 11 + 4, none⟩ = some (.bool t.Lv) := hc 4 _ rfl
    have c6 : w.cell? ⟨g, A.length * 11 + 6, none⟩ = some (.bool t.Ac) := hc 6 _ rfl
    have z4 := hfz (A.length * 11 + 4)
    have HNO := hid hno
    have HTI := hid hti
    have HWO := hid (without_any w h)
    have hlow := h.low
    have i0 : (0 : Int) ≤ (A.length : Int) := by omega
    have i1 : (A.length : Int) < ((A ++ t :: B).length : Int) := by simp; omega
    rw [hv] at hbox
    have HV := hid hv
    generalize (A ++ t :: B).length = N at *
    clear h hf hput hfr hc hfz hno hti hset hdel hr hv hob
    generalize A ++ ({ t with Lv := true } : T) :: B = M' at *
    cases hlv : t.Lv <;> cases hac : t.Ac
    all_goals
      simp only [hlv, hac, Bool.false_eq_true, if_true, if_false] at hm c4 c6
      rw [hm]
      clear hm
      go_enter Try.func17, Try.ntmps17
      go_wp2_with fail
      refine (at_some HNO.out HTI.out w H.out).mono ?_
      rintro e w' ⟨rfl, hw⟩
      have hw := hw.symm; subst hw
      go_wp2_with fail
      first
        | (go_ret2
           first
             | exact ⟨rfl, v, H.out, RefWent.refl _ _ _⟩
             | exact ⟨rfl, v, HP.out, HF.out, fun _ h => .inl h⟩)
        | (refine HWO.out.mono ?_
           rintro e w3 ⟨rfl, v', hA, hF, hK⟩
           have HA := hid hA
           have HFF := hid hF
           have HK := hid hK
           clear hA hF hK
           go_wp2_with fail
           go_ret2
           exact ⟨rfl, v', HA.out, HFF.out.mono (fun _ _ e => .inl e), fun k hk => .inr (HK.out k hk)⟩)
end Go.Proofs.Ytajlilcodnkfdaa
