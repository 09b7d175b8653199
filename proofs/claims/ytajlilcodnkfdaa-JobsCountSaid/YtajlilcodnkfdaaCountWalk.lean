/-
  The statement JobsCount: its walk.
-/
import Derived.Test.YtajlilcodnkfdaaOwn
import Derived.Test.YtajlilcodnkfdaaCountModel
namespace Go.Proofs.Ytajlilcodnkfdaa
open Go.Proofs
open Go.RowKit Go.WideMaps

set_option linter.unusedSimpArgs false

/-- A row of yes and no that came in. -/
def Asks (ao : Option Addr) (len : Nat) (w : World) : Prop := ∀ i, i < len → ∃ g o b, ao = some ⟨g, o, none⟩ ∧ w.cell? ⟨g, o + i, none⟩ = some (.bool b)

structure CountAt (pj : Nat) (n k : Int) (len : Nat) (c : Nat) (m r q f y : Int) (w1 wr : World) : Prop where
  cm : (c : Int) = m + r
  r0 : 0 ≤ r
  rn : r < n
  mq : m = q * n
  q0 : 0 ≤ q
  qc : q ≤ c
  m0 : 0 ≤ m
  f0 : f = 0 ∨ n ≤ f
  fc : f ≤ c + n
  y0 : 0 ≤ y
  yc : y ≤ c
  table : At pj 2 [p1 k n m r q, p2 k n c f y] w1 wr
theorem CountAt.next {pj : Nat} {n k : Int} {len c : Nat} {m r q f y : Int} {w1 wr : World} (h : CountAt pj n k len c m r q f y w1 wr) (hn : 1 ≤ n) {f' y' : Int} (hf0 : f' = 0 ∨ n ≤ f') (hfc : f' ≤ c + 1 + n) (hy0 : 0 ≤ y') (hyc : y' ≤ c + 1) {w' : World}
    (ht : At pj 2 [if r + 1 = n then p1 k n (m + n) 0 (q + 1) else p1 k n m (r + 1) q, p2 k n ((c : Int) + 1) f' y'] w1 w') : ∃ m' r' q', CountAt pj n k len (c + 1) m' r' q' f' y' w1 w' := by
  have h1 := h.cm
  have h2 := h.mq
  have h3 := h.r0
  have h4 := h.rn
  have h5 := h.q0
  have h6 := h.qc
  have h7 := h.m0
  have e : ((c + 1 : Nat) : Int) = (c : Int) + 1 := by omega
  by_cases hr : r + 1 = n
  · rw [if_pos hr] at ht
    exact ⟨m + n, 0, q + 1, by omega, Int.le_refl _, by omega, by rw [Int.add_mul]; omega, by omega, by omega, by omega, hf0, by omega, hy0, by omega, by rw [e]; exact ht⟩
  · rw [if_neg hr] at ht
    exact ⟨m, r + 1, q, by omega, by omega, by omega, h2, h5, by omega, h7, hf0, by omega, hy0, by omega, by rw [e]; exact ht⟩
theorem At.good {pj : Nat} {n k : Int} {len c : Nat} {m r q f y : Int} {w1 wr : World} (h : CountAt pj n k len c m r q f y w1 wr) (hk : 1 ≤ k) (hkn : k ≤ n) (hn : n ≤ 9) (hc : c < 101) : Good 101 [p1 k n m r q, p2 k n c f y] := by
  have h1 := h.cm
  have h3 := h.r0
  have h4 := h.rn
  have h5 := h.q0
  have h6 := h.qc
  have h7 := h.m0
  have h8 := h.fc
  have h9 := h.yc
  exact good_two hk hkn (by omega) h7 (by omega) h5 (by omega) h.f0 (by omega) (by omega) h.y0 (by omega)

set_option maxHeartbeats 3200000 in
theorem count_walk (e p : Int) (he0 : 0 ≤ e) (he1 : e ≤ 255) (hp0 : 0 ≤ p) (hp1 : p ≤ 255) (ao : Option Addr) (len cap : Nat) (hm : len ≤ maxLen) (w : World) (ha : Asks ao len w) :
    Calls Try.prog 4 #[.int .u8 e, .int .u8 p, .slice ao len cap] w fun e w' => e = .returned (.bool true) ∧ Fr (fun _ => False) w w' := by
  unfold maxLen at hm
  have HA := hid ha
  clear ha
  go_enter Try.func4, Try.ntmps4
  go_wp2_with fail
  refine (awake_any _).mono ?_
  rintro e' w1 ⟨rfl, hf1⟩
  have HF1 := hid hf1
  clear hf1
  obtain ⟨n, hn⟩ : ∃ n : Int, 1 + p % 9 = n := ⟨_, rfl⟩
  have n1 : 1 ≤ n := by omega
  have n2 : n ≤ 9 := by omega
  have m1 : 0 ≤ e % n := Int.emod_nonneg e (by omega)
  have m2 : e % n < n := Int.emod_lt_of_pos e (by omega)
  obtain ⟨k, hk⟩ : ∃ k : Int, 1 + e % n = k := ⟨_, rfl⟩
  have k1 : 1 ≤ k := by omega
  have k2 : k ≤ n := by omega
  have HN := hid hn
  have HK := hid hk
  clear hn hk
  go_upto_region 4 with fail
  rw [HN.out]
  go_upto_region 5 with fail
  rw [HK.out]
  clear m1 m2
  go_wp2_with fail
  refine (own_new 2 2 (by omega) (by omega) w1 w1 (Fr.refl _ _)).mono ?_
  rintro e' w2 ⟨b, he, ho, _, _⟩
  obtain ⟨pj, hpj⟩ : ∃ pj, b.pj = pj := ⟨_, rfl⟩
  rw [hpj] at he
  subst he
  have H2 : Hid (At pj 2 [] w1 w2) := hid ⟨b, hpj, ho⟩
  clear ho hpj
  go_wp2_with fail
  with_reducible refine (at_join H2.out 1 k n false (small_wf (by omega) (by omega))).mono ?_
  rintro e' w3 ⟨he, ho⟩
  have hj : mJoin 2 [] 1 k n false = (0, [p1 k n 0 0 0]) := by
    have h : ¬ (k < 1 ∨ n < k ∨ 1048575 < n) := by omega
    simp [mJoin, h, find, insT, made, p1]
  rw [hj] at he ho
  subst he
  have H3 := hid ho
  clear ho H2 hj
  go_wp2_with fail
  with_reducible refine (at_join H3.out 2 k n true (small_wf (by omega) (by omega))).mono ?_
  rintro e' w4 ⟨he, ho⟩
  have hj : mJoin 2 [p1 k n 0 0 0] 2 k n true = (0, [p1 k n 0 0 0, p2 k n 0 0 0]) := by
    have h : ¬ (k < 1 ∨ n < k ∨ 1048575 < n) := by omega
    simp [mJoin, h, find, insT, made, p1, p2]
  rw [hj] at he ho
  subst he
  have H4 := hid ho
  clear ho H3 hj
  by_cases hlen : 100 < len
  · go_wp2_with fail
    go_ret
    exact ⟨rfl, HF1.out.trans H4.out.fr⟩
  go_wp2_with fail
  have h0 : CountAt pj n k len 0 0 0 0 0 0 w1 w4 := ⟨rfl, Int.le_refl _, by omega, by simp, Int.le_refl _, by simp, Int.le_refl _, .inl rfl, by omega, Int.le_refl _, by simp, H4.out⟩
  have H0 := hid h0
  clear h0 H4
  go_loopw [10, 11, 12] (fun s10 s11 s12 wr => ∃ (c : Nat) (m r q f y : Int), c ≤ len ∧ s12 = .int .i64 c ∧ s11 = .int .i64 f ∧ s10 = .int .i64 y ∧ CountAt pj n k len c m r q f y w1 wr) (fun _ _ s _ => len - (intOf s).toNat)
  case atStart => exact ⟨0, 0, 0, 0, 0, 0, Nat.zero_le _, rfl, rfl, rfl, H0.out⟩
  case round =>
    obtain ⟨c, m, r, q, f, y, hc, rfl, rfl, rfl, hC⟩ := hrel
    have HC := hid hC
    have f1 := hC.fc
    have f2 : 0 ≤ f := by have := hC.f0; omega
    have y1 := hC.yc
    have y2 := hC.y0
    clear hC H0
    by_cases hlt : c < len
    · obtain ⟨g, o, a, rfl, hcell⟩ := HA.out c hlt
      have hcell := ((HF1.out.trans HC.out.table.fr).cell hcell _root_.id)
      have HG := hid (At.good HC.out k1 k2 n2 (by omega))
      cases a
      · have HOA := hid HC.out.table
        have HGA := HG
        go_wp2_with fail
        with_reducible refine (at_release HOA.out HGA.out (by omega) (c : Int)).mono ?_
        rintro e' w6 ⟨v6, rfl, _, ho⟩
        have HO6 := hid ho
        have HG6 := hid (HGA.out.release (clock := (c : Int)) (by omega) (by omega))
        clear ho
        go_wp2_with fail
        with_reducible refine (at_settle HO6.out HG6.out ((c : Int) + 1) (by omega)).mono ?_
        rintro e' w7 ⟨v7, he, _, ho⟩
        generalize (mSettle (mRelease _ (c : Int)).2 ((c : Int) + 1)).1.2 = M at he
        subst he
        rw [round_still HC.out.cm HC.out.r0 HC.out.rn] at ho
        have hnx := HC.out.next n1 HC.out.f0 (by omega) y2 (by omega) ho
        have HNX := hid hnx
        clear ho hnx hcell
        go_wp2_with fail
        go_roundw
        case rel =>
          obtain ⟨m', r', q', hN⟩ := HNX.out
          exact ⟨c + 1, m', r', q', f, y, by omega, by go_num, rfl, rfl, hN⟩
        case measure => simp [intOf]; omega
      · by_cases hcf : (c : Int) < f
        · go_wp2_with fail
          with_reducible refine (at_arrive HC.out.table 2 (small_wf (by omega) (by omega))).mono ?_
          rintro e' w5 ⟨he, ho⟩
          rw [arrive_busy hcf] at he ho
          subst he
          have HOA := hid ho
          have HGA := HG
          clear ho hcell
          go_wp2_with fail
          with_reducible refine (at_release HOA.out HGA.out (by omega) (c : Int)).mono ?_
          rintro e' w6 ⟨v6, rfl, _, ho⟩
          have HO6 := hid ho
          have HG6 := hid (HGA.out.release (clock := (c : Int)) (by omega) (by omega))
          clear ho
          go_wp2_with fail
          with_reducible refine (at_settle HO6.out HG6.out ((c : Int) + 1) (by omega)).mono ?_
          rintro e' w7 ⟨v7, he, _, ho⟩
          generalize (mSettle (mRelease _ (c : Int)).2 ((c : Int) + 1)).1.2 = M at he
          subst he
          rw [round_still HC.out.cm HC.out.r0 HC.out.rn] at ho
          have hnx := HC.out.next n1 HC.out.f0 (by omega) y2 (by omega) ho
          have HNX := hid hnx
          clear ho hnx
          go_wp2_with fail
          go_roundw
          case rel =>
            obtain ⟨m', r', q', hN⟩ := HNX.out
            exact ⟨c + 1, m', r', q', f, y, by omega, by go_num, rfl, rfl, hN⟩
          case measure => simp [intOf]; omega
        · go_wp2_with fail
          with_reducible refine (at_arrive HC.out.table 2 (small_wf (by omega) (by omega))).mono ?_
          rintro e' w5 ⟨he, ho⟩
          have hga := HG.out.arrive 2
          rw [arrive_free (by omega)] at he ho hga
          subst he
          have HOA := hid ho
          have HGA := hid hga
          clear ho hcell hga
          go_wp2_with fail
          with_reducible refine (at_release HOA.out HGA.out (by omega) (c : Int)).mono ?_
          rintro e' w6 ⟨v6, rfl, _, ho⟩
          have HO6 := hid ho
          have HG6 := hid (HGA.out.release (clock := (c : Int)) (by omega) (by omega))
          clear ho
          go_wp2_with fail
          with_reducible refine (at_settle HO6.out HG6.out ((c : Int) + 1) (by omega)).mono ?_
          rintro e' w7 ⟨v7, he, _, ho⟩
          generalize (mSettle (mRelease _ (c : Int)).2 ((c : Int) + 1)).1.2 = M at he
          subst he
          rw [round_new HC.out.cm HC.out.r0 HC.out.rn] at ho
          have hnx := HC.out.next n1 (f' := c + n) (y' := y + 1) (by omega) (by omega) (by omega) (by omega) ho
          have HNX := hid hnx
          clear ho hnx
          go_wp2_with fail
          go_roundw
          case rel =>
            obtain ⟨m', r', q', hN⟩ := HNX.out
            exact ⟨c + 1, m', r', q', _, _, by omega, by go_num, rfl, rfl, hN⟩
          case measure => simp [intOf]; omega
    · obtain rfl : c = len := by omega
      go_wp2_with fail
      with_reducible refine (at_task_yes HC.out.table 1 (small_wf (by omega) (by omega)) _ (find_p1 _ _ _ _ _ _)).mono ?_
      rintro e' w5 ⟨rfl, ho, _⟩
      have HO5 := hid ho
      clear ho
      go_wp2_with (with_reducible (show wpList _ _ _ (⟨_, Op.store 35 (.tmp 14) _, _, _, _, _⟩ :: _) _ _); refine wpList_store_new rfl (.tmp 14) (.tmp 93) rfl w5 (p1 k n m r q) _ rfl rfl rfl ?_)
      intro w6 h6 hf6
      have HO6 := hid (HO5.out.quiet hf6)
      have H6 := hid h6
      clear h6 hf6
      go_wp2_with fail
      with_reducible refine (at_task_yes HO6.out 2 (small_wf (by omega) (by omega)) _ (find_p2 _ _ _ _ _ _ _ _)).mono ?_
      rintro e' w7 ⟨rfl, ho, hf7⟩
      have HO7 := hid ho
      have H7 := hid (hf7.heap H6.out _root_.id)
      clear ho hf7 H6 HO6
      go_wp2_with (with_reducible (show wpList _ _ _ (⟨_, Op.store 35 (.tmp 16) _, _, _, _, _⟩ :: _) _ _); refine wpList_store_new rfl (.tmp 16) (.tmp 98) rfl w7 (p2 k n c f y) _ rfl rfl rfl ?_)
      intro w8 h8 hf8
      have h8' := hf8.heap H7.out _root_.id
      generalize w5.heap.size = g1 at *
      generalize w7.heap.size = g2 at *
      have c1 : w8.cell? ⟨g1, 10, none⟩ = some (.int .i64 (p1 k n m r q).Ct) := by rw [cell_of_heap h8']; rfl
      have c2 : w8.cell? ⟨g2, 10, none⟩ = some (.int .i64 (p2 k n c f y).Ct) := by rw [cell_of_heap h8]; rfl
      have hct : ((c : Int) + n - 1) / n = (p1 k n m r q).Ct := by rw [HC.out.cm, count_div HC.out.mq HC.out.r0 HC.out.rn, p1_count]
      rw [p2_count] at c2
      have HF := hid (HF1.out.trans (HO7.out.quiet hf8).fr)
      generalize (p1 k n m r q).Ct = x at *
      have HCT := hid hct
      clear h8 h8' hf8 hct HC HO7 HO5 H7
      go_wp2_with fail
      have x0 : 0 ≤ x := by have := HCT.out; rw [← this]; exact Int.ediv_nonneg (by omega) (by omega)
      have x1 : x ≤ 200 := by
        have := HCT.out
        have h2 : (↑c + n - 1) / n ≤ ↑c + n - 1 := Int.ediv_le_self _ (by omega)
        omega
      have e1 : IntKind.i64.wrap (↑c + n) = ↑c + n := IntWalk.i64_in _ (by omega)
      have e2 : IntKind.i64.wrap (↑c + n - 1) = ↑c + n - 1 := IntWalk.i64_in _ (by omega)
      have e3 : (↑c + n - 1).tdiv n = x := by rw [Int.tdiv_eq_ediv_of_nonneg (by omega)]; exact HCT.out
      have e4 : IntKind.i64.wrap x = x := IntWalk.i64_in _ (by omega)
      have e5 : (↑c + n - 1) / n = x := HCT.out
      have z1 : ¬ n = 0 := by omega
      go_quiet (fail)
      clear e1 e2 e3 e4 e5 z1
      go_wp2_with fail
      go_ret
      exact ⟨rfl, HF.out.trans (Fr.drewN _ _ _)⟩
end Go.Proofs.Ytajlilcodnkfdaa
