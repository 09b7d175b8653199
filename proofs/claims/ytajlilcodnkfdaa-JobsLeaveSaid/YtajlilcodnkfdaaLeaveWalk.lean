/-
  The statement JobsLeave: its walk.
-/
import Derived.Test.YtajlilcodnkfdaaOwn
namespace Go.Proofs.Ytajlilcodnkfdaa
open Go.Proofs
open Go.RowKit Go.WideMaps

set_option linter.unusedSimpArgs false

/-! ### a table of one task -/
theorem one_not_due {t : T} {c : Int} (h : due c t = false) : mSettle [t] c = (([], 0), [t]) := by
  simp [mSettle, step, h]
theorem one_gone {t : T} {c : Int} (h : due c t = true) (hl : t.Lv = true) : (mSettle [t] c).1.1 = [t.ID] ∧ (mSettle [t] c).2 = [] := by
  simp [mSettle, step, h, hl]
theorem join_first (n : Nat) (id E P : Int) (sp : Bool) (hn : 1 ≤ n) (h1 : 1 ≤ E) (h2 : E ≤ P) (h3 : P ≤ 1048575) : mJoin n [] id E P sp = (0, [made id E P sp]) := by
  have h : ¬ (E < 1 ∨ P < E ∨ 1048575 < P) := by omega
  have hn' : ¬ n ≤ 0 := by omega
  simp [mJoin, h, find, insT, hn']
theorem one_rest {t : T} (c : Int) (h : rest t = true) : mRelease [t] c = ([], [t]) := by
  simp [mRelease, h]
theorem one_full {t : T} (id E P : Int) (sp : Bool) (h : t.ID ≠ id) (h1 : ¬ (E < 1 ∨ P < E ∨ 1048575 < P)) : mJoin 1 [t] id E P sp = (6, [t]) := by
  simp only [mJoin, if_neg h1]
  have : find [t] id = none := by simp [find, h]
  simp [this]
def runs (E P r : Int) (lv : Bool) : T := ⟨1, E, P, false, lv, false, true, r, 0, false, 1⟩
theorem runs_due (E P r c : Int) (lv : Bool) : due c (runs E P r lv) = decide (r + P ≤ c) := by unfold due runs; simp only [Bool.true_and]
theorem leave_runs (E P r : Int) : mLeave [runs E P r false] 1 = ((false, 0), [runs E P r true]) := by
  simp [mLeave, find, runs, setT]
theorem good_runs {E P r : Int} {lv : Bool} (h1 : 1 ≤ E) (h2 : E ≤ P) (h3 : P ≤ 1048575) (h4 : 0 ≤ r) (h5 : r ≤ 1000000000) : Good 1 [runs E P r lv] := by
  intro t ht
  obtain rfl : t = _ := by simpa using ht
  exact ⟨h1, h2, h3, by simp [runs], by simp only [runs]; omega, h4, h5, by simp [runs], by simp [runs]⟩

set_option maxHeartbeats 400000 in
theorem leave_walk (e p n0 n1 : Int) (he0 : 0 ≤ e) (he1 : e ≤ 255) (hp0 : 0 ≤ p) (hp1 : p ≤ 255) (h00 : 0 ≤ n0) (h01 : n0 ≤ 255) (h10 : 0 ≤ n1) (h11 : n1 ≤ 255) (w : World) :
    Calls Try.prog 3 #[.int .u8 e, .int .u8 p, .agg #[.int .u8 n0, .int .u8 n1]] w fun e w' => e = .returned (.bool true) ∧ Fr (fun _ => False) w w' := by
  go_enter Try.func3, Try.ntmps3
  go_wp2_with fail
  refine (awake_any _).mono ?_
  rintro e' w1 ⟨rfl, hf1⟩
  have hfa : Fr (fun _ => False) w (w.alloc (Obj.cells #[Value.int IntKind.u8 n0, Value.int IntKind.u8 n1] 22)) := Fr.alloc _ _ _
  have hb := hf1.heap (heap_new w (Obj.cells #[Value.int IntKind.u8 n0, Value.int IntKind.u8 n1] 22) rfl) _root_.id
  have HF1 := hid (hfa.trans hf1)
  have HB := hid hb
  generalize hw0 : w.heap.size = b0 at *
  clear hf1 hfa hb hw0
  obtain ⟨k, hk⟩ : ∃ k : Int, 1 + p % 12 = k := ⟨_, rfl⟩
  have k1 : 1 ≤ k := by omega
  have k2 : k ≤ 12 := by omega
  have m1 : 0 ≤ e % k := Int.emod_nonneg e (by omega)
  have m2 : e % k < k := Int.emod_lt_of_pos e (by omega)
  have m3 : 0 ≤ n1 % k := Int.emod_nonneg n1 (by omega)
  have m4 : n1 % k < k := Int.emod_lt_of_pos n1 (by omega)
  obtain ⟨E, hE⟩ : ∃ E : Int, 1 + e % k = E := ⟨_, rfl⟩
  have E1 : 1 ≤ E := by omega
  have E2 : E ≤ k := by omega
  obtain ⟨a, ha⟩ : ∃ a : Int, n0 + n1 % k = a := ⟨_, rfl⟩
  have a1 : n0 ≤ a := by omega
  have a2 : a < n0 + k := by omega
  have HK := hid hk
  have HE := hid hE
  have HA := hid ha
  clear hk hE ha
  go_upto_region 4 with fail
  rw [HK.out]
  go_wp2_with fail
  refine (own_new 1 1 (by omega) (by omega) w1 w1 (Fr.refl _ _)).mono ?_
  rintro e' w2 ⟨b, he, ho, _, _⟩
  obtain ⟨pj, hpj⟩ : ∃ pj, b.pj = pj := ⟨_, rfl⟩
  rw [hpj] at he
  subst he
  have H2 : Hid (At pj 1 [] w1 w2) := hid ⟨b, hpj, ho⟩
  clear ho hpj
  go_wp2_with fail
  rw [HE.out]
  with_reducible refine (at_join H2.out 1 E k false (small_wf (by omega) (by omega))).mono ?_
  rintro e' w3 ⟨he, ho⟩
  have hj := join_first 1 1 E k false (by omega) E1 E2 (by omega)
  rw [hj] at he ho
  subst he
  have H3 := hid ho
  clear ho H2 hj
  have c0 : w3.cell? ⟨b0, 0, none⟩ = some (.int .u8 n0) := H3.out.fr.cell (by rw [cell_of_heap HB.out]; rfl) _root_.id
  go_wp2_with fail
  have hg : Good 0 [made 1 E k false] := by
    intro t ht
    obtain rfl : t = _ := by simpa using ht
    exact ⟨E1, E2, by simp only [made]; omega, by simp [made], by simp only [made]; omega, by simp [made], by simp [made], by simp [made], by simp [made]⟩
  with_reducible refine (at_release H3.out hg (by omega) n0).mono ?_
  rintro e' w4 ⟨v, rfl, hr, ho⟩
  rw [show (mRelease [made 1 E k false] n0).2 = [runs E k n0 false] from rfl] at ho
  obtain ⟨ao, cap, hi, rfl, _, _⟩ := hr
  have H4 := hid ho
  clear ho hg H3 c0
  have c1 : w4.cell? ⟨b0, 1, none⟩ = some (.int .u8 n1) := H4.out.fr.cell (by rw [cell_of_heap HB.out]; rfl) _root_.id
  go_upto_region 10 with fail
  rw [HA.out]
  clear c1 m1 m2 m3 m4
  have hg := good_runs (E := E) (P := k) (r := n0) (lv := false) E1 E2 (by omega) h00 (by omega)
  have hg2 := good_runs (E := E) (P := k) (r := n0) (lv := true) E1 E2 (by omega) h00 (by omega)
  have HG := hid hg
  have HG2 := hid hg2
  clear hg hg2
  go_wp2_with fail
  go_loopw [11] (fun s wr => ∃ x : Int, n0 + 1 ≤ x ∧ x ≤ a + 1 ∧ s = .int .i64 x ∧ At pj 1 [runs E k n0 false] w1 wr) (fun s _ => (a + 1 - intOf s).toNat)
  case atStart => exact ⟨n0 + 1, by omega, by omega, rfl, H4.out⟩
  case round =>
    obtain ⟨x, x1, x2, rfl, ho⟩ := hrel
    have HO := hid ho
    clear ho H4
    by_cases hx : x ≤ a
    · go_wp2_with fail
      have hd : mSettle [runs E k n0 false] x = (([], 0), [runs E k n0 false]) := one_not_due (by rw [runs_due]; simp; omega)
      with_reducible refine (at_settle HO.out HG.out x (by omega)).mono ?_
      rintro e' w5 ⟨v, rfl, _, ho⟩
      rw [hd] at ho
      have HO5 := hid ho
      clear ho hd
      go_wp2_with fail
      go_roundw
      case rel => exact ⟨x + 1, by omega, by omega, rfl, HO5.out⟩
      case measure => simp [intOf]; omega
    · go_wp2_with fail
      with_reducible refine (at_leave HO.out 1 (small_wf (by omega) (by omega))).mono ?_
      rintro e' w5 ⟨he, ho⟩
      rw [leave_runs] at he ho
      subst he
      have H5 := hid ho
      clear ho HO x1 x2 hx
      go_wp2_with fail
      go_loopw [14] (fun s wr => ∃ x : Int, n0 + 1 ≤ x ∧ x ≤ n0 + k ∧ s = .int .i64 x ∧ At pj 1 [runs E k n0 true] w1 wr) (fun s _ => (n0 + k - intOf s).toNat)
      case atStart => exact ⟨a + 1, by omega, by omega, rfl, H5.out⟩
      case round =>
        obtain ⟨x, x1, x2, rfl, ho⟩ := hrel
        have HO := hid ho
        clear ho H5
        by_cases hx : x < n0 + k
        · go_wp2_with fail
          have hd : mSettle [runs E k n0 true] x = (([], 0), [runs E k n0 true]) := one_not_due (by rw [runs_due]; simp; omega)
          with_reducible refine (at_settle HO.out HG2.out x (by omega)).mono ?_
          rintro e' w6 ⟨v, he, hr, ho⟩
          rw [hd] at he hr ho
          subst he
          obtain ⟨ao, cap, hi, rfl, _, _⟩ := hr
          have HO6 := hid ho
          clear ho hd
          go_wp2_with fail
          have hj : mJoin 1 [runs E k n0 true] 2 1 1 false = (6, [runs E k n0 true]) := one_full 2 1 1 false (by simp [runs]) (by omega)
          with_reducible refine (at_join HO6.out 2 1 1 false (small_wf (by omega) (by omega))).mono ?_
          rintro e' w7 ⟨he, ho⟩
          rw [hj] at he ho
          subst he
          have HO7 := hid ho
          clear ho hj
          go_wp2_with fail
          have hj : mRelease [runs E k n0 true] x = ([], [runs E k n0 true]) := one_rest x rfl
          with_reducible refine (at_release HO7.out HG2.out (by omega) x).mono ?_
          rintro e' w8 ⟨v, he, hr, ho⟩
          rw [hj] at hr ho
          subst he
          obtain ⟨ao', cap', hi', rfl, _, _⟩ := hr
          have HO8 := hid ho
          clear ho hj
          go_wp2_with fail
          go_roundw
          case rel => exact ⟨x + 1, by omega, by omega, rfl, HO8.out⟩
          case measure => simp [intOf]; omega
        · obtain rfl : x = n0 + k := by omega
          go_wp2_with fail
          have hd : due (n0 + k) (runs E k n0 true) = true := by rw [runs_due]; simp
          obtain ⟨hd1, hd2⟩ := one_gone hd rfl
          with_reducible refine (at_settle HO.out HG2.out (n0 + k) (by omega)).mono ?_
          rintro e' w6 ⟨v, he, hr, ho⟩
          rw [hd1] at hr
          rw [hd2] at ho
          generalize (mSettle [runs E k n0 true] (n0 + k)).1.2 = M at he
          subst he
          have HR := hid hr
          have HO6 := hid ho
          clear ho hd hd1 hd2 hr
          go_wp2_with fail
          with_reducible refine (at_task_no HO6.out 1 (small_wf (by omega) (by omega)) rfl).mono ?_
          rintro e' w7 ⟨rfl, ho, hf⟩
          have HR7 := hid (HR.out.quiet hf)
          have HO7 := hid ho
          clear ho hf
          go_wp2_with (with_reducible (show wpList _ _ _ (⟨_, Op.store 35 _ _, _, _, _, _⟩ :: _) _ _); refine wpList_store_new rfl (.tmp 19) (.tmp 115) rfl w7 noTask _ rfl rfl rfl ?_)
          intro w8 h8 hf8
          have HO8 := hid (HO7.out.quiet hf8)
          have HR8 := hid (HR7.out.quiet hf8)
          clear h8 hf8
          go_wp2_with fail
          have hfa : Fr (fun _ => False) w8 (w8.alloc (Obj.cells #[Value.int IntKind.i64 1] 3)) := Fr.alloc _ _ _
          have HFA := hid hfa
          clear hfa
          refine (ints_any (HR8.out.quiet HFA.out) (row_new (xs := [1]) (heap_new w8 _ rfl) rfl rfl (by simp))).mono ?_
          rintro e' w9 ⟨he, hf9⟩
          rw [show eqL [(runs E k n0 true).ID] [1] = true from rfl] at he
          subst he
          have HO9 := hid ((HO8.out.quiet HFA.out).quiet hf9)
          clear hf9
          go_wp2_with fail
          have hj := join_first 1 2 1 1 false (by omega) (by omega) (by omega) (by omega)
          with_reducible refine (at_join HO9.out 2 1 1 false (small_wf (by omega) (by omega))).mono ?_
          rintro e' w10 ⟨he, ho⟩
          rw [hj] at he ho
          subst he
          have HF := hid (HF1.out.trans ho.fr)
          clear ho hj
          go_wp2_with fail
          go_ret
          exact ⟨rfl, HF.out⟩
end Go.Proofs.Ytajlilcodnkfdaa
