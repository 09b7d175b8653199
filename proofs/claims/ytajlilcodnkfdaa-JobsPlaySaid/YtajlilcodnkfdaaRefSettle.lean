/-
  The reference's jobs: Settle.
-/
import Derived.Test.YtajlilcodnkfdaaRefRelease
namespace Go.Proofs.Ytajlilcodnkfdaa
open Go.Proofs
open Go.RowKit Go.WideMaps

set_option linter.unusedSimpArgs false

def keepTo (clock : Int) (M : List T) (k : Nat) : List T := (M.take k).flatMap (step clock)
theorem keepTo_next (clock : Int) {M : List T} {k : Nat} (hk : k < M.length) : keepTo clock M (k + 1) = keepTo clock M k ++ step clock M[k] := by
  rw [keepTo, take_step hk, List.flatMap_append]; simp [keepTo]
theorem keepTo_le (clock : Int) : ∀ M : List T, ∀ k, (keepTo clock M k).length ≤ k
  | [], k => by simp [keepTo]
  | t :: r, 0 => by simp [keepTo]
  | t :: r, k + 1 => by
    have := keepTo_le clock r k
    have h1 : (step clock t).length ≤ 1 := by unfold step; split; split <;> simp; simp
    simp only [keepTo, List.take_succ_cons, List.flatMap_cons, List.length_append] at this ⊢
    omega
structure RSetAt (M : List T) (clock : Int) (k : Nat) (s6 s7 : Value) (w wx : World) : Prop where
  gone : wx.ownsRow w.heap.size 3 1 s6 (goneIds clock M k).length ((goneIds clock M k).map (Value.int .i64))
  row : wx.ownsRow w.heap.size 54 11 s7 (keepTo clock M k).length (flat (keepTo clock M k))
  apart : ∀ g, s6.ownBlock = some g → s7.ownBlock ≠ some g
  fr : Fr (fun _ => False) w wx
theorem own_form {w : World} {base n size : Nat} {e : TypeId} {v : Value} {xs : List Value} (h : w.ownsRow base e size v n xs) : ∃ ao cap, v = .slice ao n cap := by
  rcases h.2 with ⟨e1, e2⟩ | ⟨g, cap, cur, hv, _⟩
  · exact ⟨none, 0, by rw [e1, e2]⟩
  · exact ⟨_, cap, hv⟩
/-- One task more is kept. -/
theorem RSetAt.keep {M : List T} {clock : Int} {k : Nat} {s6 s7 s7' : Value} {w wr X wx : World} (h : RSetAt M clock k s6 s7 w wr) (hk : k < M.length) {x : T} (hs : step clock M[k] = [x]) (hg : goneIds clock M (k + 1) = goneIds clock M k)
    (hX : Fr (fun _ => False) wr X) (hgr : X.grownBy wx s7.ownBlock) (hown : wx.ownsRow w.heap.size 54 11 s7' ((keepTo clock M k).length + 1) (flat (keepTo clock M k) ++ x.cells.toList)) (hat : s7'.ownBlock = s7.ownBlock ∨ ∃ i, wr.heap.size ≤ i ∧ s7'.ownBlock = some i) :
    RSetAt M clock (k + 1) s6 s7' w wx := by
  have hlt : ∀ g, s6.ownBlock = some g → g < wr.heap.size := fun g hg => (h.gone.lt g hg).2
  have hfx : Fr (fun i => s7.ownBlock = some i) wr wx := (hX.mono (fun _ _ h => h.elim)).trans (Fr.of_grown hgr (fun i hi => hi))
  refine ⟨?_, ?_, fun g hg' => ?_, h.fr.then hfx (fun i hi => .inr (h.row.lt i hi).1)⟩
  · rw [hg]
    exact row_apart h.gone hfx (fun g hg e => h.apart g hg e)
  · rw [keepTo_next clock hk, hs, flat_append, flat_one]
    rw [show (keepTo clock M k ++ [x]).length = (keepTo clock M k).length + 1 by simp]
    exact hown
  · rcases hat with e | ⟨i, hi, e⟩
    · rw [e]; exact h.apart g hg'
    · rw [e]
      intro e2
      have h1 := hlt g hg'
      have h3 : i = g := Option.some.inj e2
      omega
/-- One is gone. -/
theorem RSetAt.lose {M : List T} {clock : Int} {k : Nat} {s6 s6' s7 : Value} {w wr X wx : World} (h : RSetAt M clock k s6 s7 w wr) (hk : k < M.length) (hs : step clock M[k] = []) {id : Int} (hg : goneIds clock M (k + 1) = goneIds clock M k ++ [id])
    (hX : Fr (fun _ => False) wr X) (hgr : X.grownBy wx s6.ownBlock) (hown : wx.ownsRow w.heap.size 3 1 s6' ((goneIds clock M k).length + 1) ((goneIds clock M k).map (Value.int .i64) ++ [.int .i64 id])) (hat : s6'.ownBlock = s6.ownBlock ∨ ∃ i, wr.heap.size ≤ i ∧ s6'.ownBlock = some i) :
    RSetAt M clock (k + 1) s6' s7 w wx := by
  have hlt : ∀ g, s7.ownBlock = some g → g < wr.heap.size := fun g hg => (h.row.lt g hg).2
  have hfx : Fr (fun i => s6.ownBlock = some i) wr wx := (hX.mono (fun _ _ h => h.elim)).trans (Fr.of_grown hgr (fun i hi => hi))
  refine ⟨?_, ?_, fun g hg' e7 => ?_, h.fr.then hfx (fun i hi => .inr (h.gone.lt i hi).1)⟩
  · rw [hg]
    simpa using hown
  · rw [keepTo_next clock hk, hs, List.append_nil]
    exact row_apart h.row hfx (fun g hg e => h.apart g e hg)
  · rcases hat with e | ⟨i, hi, e⟩
    · rw [e] at hg'; exact h.apart g hg' e7
    · rw [e] at hg'
      have h1 := hlt g e7
      have h3 : i = g := Option.some.inj hg'
      omega


set_option maxRecDepth 100000 in
set_option maxHeartbeats 6400000 in
theorem settle_ref {bm n lo : Nat} {v : Value} {M : List T} {c : Int} (hgood : Good c M) (clock : Int) (hcl0 : 0 ≤ clock) (hcl : clock ≤ 1000000000) (w : World) (h : RefAt bm n v M lo w) :
    Calls Try.prog 22 #[.pointer (some ⟨bm, 0, none⟩), .int .i64 clock] w fun e w' => ∃ r v', e = .returned (.tuple #[r, .int .i64 (mSettle M clock).1.2]) ∧ w'.ownsRow w.heap.size 3 1 r (mSettle M clock).1.1.length ((mSettle M clock).1.1.map (Value.int .i64)) ∧ RefAt bm n v' (mSettle M clock).2 lo w' ∧ RefWent bm v v' w w' ∧
      (∀ g, r.ownBlock = some g → v'.ownBlock ≠ some g) := by
  have H := hid h
  have HG := hid hgood
  have hlow := h.low
  obtain ⟨ao, cap, hrow⟩ := h.open
  have hval := hrow.val
  obtain ⟨N, hN⟩ : ∃ N, M.length = N := ⟨_, rfl⟩
  rw [hN] at hval hlow
  have HN := hid hN
  have HV := hid hval
  have HROW := hid hrow
  have hA0 : RSetAt M clock 0 (.slice none 0 0) (.slice none 0 0) w w := ⟨World.ownsRow_nil _ _ _ _, World.ownsRow_nil _ _ _ _, (fun g hg => by cases hg), Fr.refl _ _⟩
  have HA0 := hid hA0
  obtain ⟨i0, hi, hz0, hz1, hz2⟩ := info_parts int_info
  obtain ⟨j0, hj, hy0, hy1, hy2⟩ := info_parts info54
  clear h hgood hrow hval hN hA0
  go_enter Try.func22, Try.ntmps22
  go_wp2_with fail
  go_loopw [6, 7, 8, 9] (fun s6 s7 s8 s9 wx => ∃ k : Nat, k ≤ N ∧ s9 = .int .i64 k ∧ s8 = .int .i64 (badTo clock M k : Nat) ∧ RSetAt M clock k s6 s7 w wx) (fun _ _ _ s _ => N - (intOf s).toNat)
  case atStart => exact ⟨0, by omega, rfl, rfl, HA0.out⟩
  case round =>
    obtain ⟨k, hk, rfl, rfl, hA⟩ := hrel
    clear HA0
    have HA := hid hA
    have cb : wr.cell? ⟨bm, 1, none⟩ = some (.slice ao N cap) := by rw [cell_of_heap (hA.fr.heap H.out.box _root_.id), HV.out]; rfl
    have hbad := badTo_le clock M k
    by_cases hlt : k < N
    · have hltL : k < M.length := by rw [HN.out]; exact hlt
      obtain ⟨g, hao, _, _, hcell0⟩ := HROW.out.cell k hltL
      have hnb := badTo_next clock hltL
      have hni := goneIds_next clock hltL
      have ht := HG.out _ (List.getElem_mem hltL)
      obtain ⟨t, hT⟩ : ∃ t, (M[k]'hltL) = t := ⟨_, rfl⟩
      have hcell : ∀ j u, t.cells[j]? = some u → wr.cell? ⟨g, k * 11 + j, none⟩ = some u := fun j u hu => hA.fr.cell (hcell0 j u (by rw [hT]; exact hu)) _root_.id
      rw [hT] at hnb hni ht
      have t1 := ht.r0
      have t2 := ht.r1
      have t3 := ht.p1
      have t4 := ht.e1
      have t5 := ht.ep
      subst hao
      have c0 : wr.cell? ⟨g, k * 11, none⟩ = some (.int .i64 t.ID) := hcell 0 _ rfl
      have c1 : wr.cell? ⟨g, k * 11 + 1, none⟩ = some (.int .i64 t.E) := hcell 1 _ rfl
      have c2 : wr.cell? ⟨g, k * 11 + 2, none⟩ = some (.int .i64 t.P) := hcell 2 _ rfl
      have c3 : wr.cell? ⟨g, k * 11 + 3, none⟩ = some (.bool t.Sp) := hcell 3 _ rfl
      have c4 : wr.cell? ⟨g, k * 11 + 4, none⟩ = some (.bool t.Lv) := hcell 4 _ rfl
      have c5 : wr.cell? ⟨g, k * 11 + 5, none⟩ = some (.bool t.Wt) := hcell 5 _ rfl
      have c6 : wr.cell? ⟨g, k * 11 + 6, none⟩ = some (.bool t.Ac) := hcell 6 _ rfl
      have c7 : wr.cell? ⟨g, k * 11 + 7, none⟩ = some (.int .i64 t.Rl) := hcell 7 _ rfl
      have c8 : wr.cell? ⟨g, k * 11 + 8, none⟩ = some (.int .i64 t.Gt) := hcell 8 _ rfl
      have c9 : wr.cell? ⟨g, k * 11 + 9, none⟩ = some (.bool t.Dn) := hcell 9 _ rfl
      have c10 : wr.cell? ⟨g, k * 11 + 10, none⟩ = some (.int .i64 t.Ct) := hcell 10 _ rfl
      have i1 : (0 : Int) ≤ (k : Int) := by omega
      have i2 : (k : Int) < (N : Int) := by omega
      have HNB := hid hnb
      have HNI0 := hid hni
      have HTT := hid hT
      have HLT := hid hltL
      clear hA hcell hcell0 ht hnb hni hT
      cases hac : t.Ac
      · have hx : ({ t with Ac := false } : T) = t := by obtain ⟨_, _, _, _, _, _, ac, _, _, _, _⟩ := t; simp only at hac; subst hac; rfl
        have HST : Hid (step clock (M[k]'HLT.out) = [({ t with Ac := false } : T)]) := hid (by rw [HTT.out]; rw [hx]; simp [step, due, hac])
        have HNI : Hid (goneIds clock M (k + 1) = goneIds clock M k) := hid (by rw [HNI0.out]; simp [due, hac])
        have HB2 : Hid (badTo clock M (k + 1) = badTo clock M k) := hid (by rw [HNB.out]; simp [due, hac])
        rw [hac] at c6
        clear hx hac
        obtain ⟨ao7, cap7, hv7⟩ := own_form HA.out.row
        subst hv7
        have hkl := keepTo_le clock M k
        have hml : (keepTo clock M k).length + 1 ≤ maxLen := by unfold maxLen; omega
        have hszA := HA.out.fr.size
        go_wp2_with (at_builtin; refine wpList_append_src rfl (.tmp 56) (.tmp 58) 45 rfl w.heap.size 54 j0 _ 11 64 Try.underlying45 hj hy0 hy1 hy2 (by rfl) (by omega) _ (keepTo clock M k).length (flat (keepTo clock M k)) rfl (row_kept HA.out.row ((Fr.alloc (fun _ => False) _ _).trans (Fr.alloc _ _ _)) (fun _ _ => _root_.id)) 1 ({ t with Ac := false } : T).cells.toList (.inr ⟨_, _, rfl, rfl, World.news_of_block (heap_new _ _ (by simp))⟩) (fun u hu => (Array.all_eq_true_iff_forall_mem.1 (cells_one ({ t with Ac := false } : T))) u (by simpa using hu)) hml (by omega) (by simp; omega) ?_)
        intro ao8 cap8 w7 hown7 hg7 hat7
        have hres := HA.out.keep HLT.out HST.out HNI.out ((Fr.alloc (fun _ => False) _ _).trans (Fr.alloc _ _ _)) hg7 hown7 (hat7.imp _root_.id (fun e => ⟨_, by omega, e⟩))
        have HRES := hid hres
        clear hres hown7 hg7 hat7
        go_wp2_with fail
        go_roundw
        case rel => exact ⟨k + 1, by omega, by go_num, by rw [HB2.out]; first | done | rfl | simp, HRES.out⟩
        case measure => simp [intOf]; omega
      · by_cases hdue : t.Rl + t.P ≤ clock
        · have hdt : t.Rl ≤ clock - t.P := by omega
          rw [hac] at c6
          cases hge : (t.Gt == t.E) <;> cases hlv : t.Lv
          · have hx : ({ t with Lv := false, Ac := false, Rl := 0, Gt := 0, Dn := false } : T) = ended t := by obtain ⟨_, _, _, _, lv, _, _, _, _, _, _⟩ := t; simp only at hlv; subst hlv; rfl
            have HST : Hid (step clock (M[k]'HLT.out) = [({ t with Lv := false, Ac := false, Rl := 0, Gt := 0, Dn := false } : T)]) := hid (by rw [HTT.out]; rw [hx]; simp [step, due, hac, hdue, hlv])
            have HNI : Hid (goneIds clock M (k + 1) = goneIds clock M k) := hid (by rw [HNI0.out]; simp [due, hac, hdue, hlv])
            have HB2 : Hid (badTo clock M (k + 1) = badTo clock M k + 1) := hid (by rw [HNB.out]; simp [due, hac, hdue, hge])
            have hbn : (t.Gt != t.E) = true := by simpa [bne] using hge
            rw [hlv] at c4
            clear hx hac hge hlv hdue
            obtain ⟨ao7, cap7, hv7⟩ := own_form HA.out.row
            subst hv7
            have hkl := keepTo_le clock M k
            have hml : (keepTo clock M k).length + 1 ≤ maxLen := by unfold maxLen; omega
            have hszA := HA.out.fr.size
            go_wp2_with (at_builtin; refine wpList_append_src rfl (.tmp 56) (.tmp 58) 45 rfl w.heap.size 54 j0 _ 11 64 Try.underlying45 hj hy0 hy1 hy2 (by rfl) (by omega) _ (keepTo clock M k).length (flat (keepTo clock M k)) rfl (row_kept HA.out.row ((Fr.alloc (fun _ => False) _ _).trans (Fr.alloc _ _ _)) (fun _ _ => _root_.id)) 1 ({ t with Lv := false, Ac := false, Rl := 0, Gt := 0, Dn := false } : T).cells.toList (.inr ⟨_, _, rfl, rfl, World.news_of_block (heap_new _ _ (by simp))⟩) (fun u hu => (Array.all_eq_true_iff_forall_mem.1 (cells_one ({ t with Lv := false, Ac := false, Rl := 0, Gt := 0, Dn := false } : T))) u (by simpa using hu)) hml (by omega) (by simp; omega) ?_)
            intro ao8 cap8 w7 hown7 hg7 hat7
            have hres := HA.out.keep HLT.out HST.out HNI.out ((Fr.alloc (fun _ => False) _ _).trans (Fr.alloc _ _ _)) hg7 hown7 (hat7.imp _root_.id (fun e => ⟨_, by omega, e⟩))
            have HRES := hid hres
            clear hres hown7 hg7 hat7
            go_wp2_with fail
            go_roundw
            case rel => exact ⟨k + 1, by omega, by go_num, by rw [HB2.out]; first | done | rfl | simp, HRES.out⟩
            case measure => simp [intOf]; omega
          · have hx : True := trivial
            have HST : Hid (step clock (M[k]'HLT.out) = []) := hid (by rw [HTT.out]; simp [step, due, hac, hdue, hlv])
            have HNI : Hid (goneIds clock M (k + 1) = goneIds clock M k ++ [t.ID]) := hid (by rw [HNI0.out]; simp [due, hac, hdue, hlv])
            have HB2 : Hid (badTo clock M (k + 1) = badTo clock M k + 1) := hid (by rw [HNB.out]; simp [due, hac, hdue, hge])
            have hbn : (t.Gt != t.E) = true := by simpa [bne] using hge
            rw [hlv] at c4
            clear hx hac hge hlv hdue
            obtain ⟨ao6, cap6, hv6⟩ := own_form HA.out.gone
            subst hv6
            have hgl := goneIds_le clock M k
            have hml : (goneIds clock M k).length + 1 ≤ maxLen := by unfold maxLen; omega
            have hszA := HA.out.fr.size
            go_wp2_with (at_builtin; refine wpList_append_src rfl (.tmp 51) (.tmp 54) 28 rfl w.heap.size 3 i0 (.int .i64 0) 1 8 Try.underlying28 hi hz0 hz1 hz2 rfl (by decide) _ (goneIds clock M k).length ((goneIds clock M k).map (Value.int .i64)) rfl (row_kept HA.out.gone ((Fr.alloc (fun _ => False) _ _).trans (Fr.alloc _ _ _)) (fun _ _ => _root_.id)) 1 [.int .i64 t.ID] (.inr ⟨_, _, rfl, rfl, World.news_of_block (cs := #[.int .i64 t.ID]) (heap_new _ _ (by simp))⟩) (by simp [Value.oneCell']) hml (by omega) (by simp; omega) ?_)
            intro ao8 cap8 w7 hown7 hg7 hat7
            have hres := HA.out.lose HLT.out HST.out HNI.out ((Fr.alloc (fun _ => False) _ _).trans (Fr.alloc _ _ _)) hg7 hown7 (hat7.imp _root_.id (fun e => ⟨_, by omega, e⟩))
            have HRES := hid hres
            clear hres hown7 hg7 hat7
            go_wp2_with fail
            go_roundw
            case rel => exact ⟨k + 1, by omega, by go_num, by rw [HB2.out]; first | done | rfl | simp, HRES.out⟩
            case measure => simp [intOf]; omega
          · have hx : ({ t with Lv := false, Ac := false, Rl := 0, Gt := 0, Dn := false } : T) = ended t := by obtain ⟨_, _, _, _, lv, _, _, _, _, _, _⟩ := t; simp only at hlv; subst hlv; rfl
            have HST : Hid (step clock (M[k]'HLT.out) = [({ t with Lv := false, Ac := false, Rl := 0, Gt := 0, Dn := false } : T)]) := hid (by rw [HTT.out]; rw [hx]; simp [step, due, hac, hdue, hlv])
            have HNI : Hid (goneIds clock M (k + 1) = goneIds clock M k) := hid (by rw [HNI0.out]; simp [due, hac, hdue, hlv])
            have HB2 : Hid (badTo clock M (k + 1) = badTo clock M k) := hid (by rw [HNB.out]; simp [due, hac, hdue, hge])
            have hbn : (t.Gt != t.E) = false := by simpa [bne] using hge
            rw [hlv] at c4
            clear hx hac hge hlv hdue
            obtain ⟨ao7, cap7, hv7⟩ := own_form HA.out.row
            subst hv7
            have hkl := keepTo_le clock M k
            have hml : (keepTo clock M k).length + 1 ≤ maxLen := by unfold maxLen; omega
            have hszA := HA.out.fr.size
            go_wp2_with (at_builtin; refine wpList_append_src rfl (.tmp 56) (.tmp 58) 45 rfl w.heap.size 54 j0 _ 11 64 Try.underlying45 hj hy0 hy1 hy2 (by rfl) (by omega) _ (keepTo clock M k).length (flat (keepTo clock M k)) rfl (row_kept HA.out.row ((Fr.alloc (fun _ => False) _ _).trans (Fr.alloc _ _ _)) (fun _ _ => _root_.id)) 1 ({ t with Lv := false, Ac := false, Rl := 0, Gt := 0, Dn := false } : T).cells.toList (.inr ⟨_, _, rfl, rfl, World.news_of_block (heap_new _ _ (by simp))⟩) (fun u hu => (Array.all_eq_true_iff_forall_mem.1 (cells_one ({ t with Lv := false, Ac := false, Rl := 0, Gt := 0, Dn := false } : T))) u (by simpa using hu)) hml (by omega) (by simp; omega) ?_)
            intro ao8 cap8 w7 hown7 hg7 hat7
            have hres := HA.out.keep HLT.out HST.out HNI.out ((Fr.alloc (fun _ => False) _ _).trans (Fr.alloc _ _ _)) hg7 hown7 (hat7.imp _root_.id (fun e => ⟨_, by omega, e⟩))
            have HRES := hid hres
            clear hres hown7 hg7 hat7
            go_wp2_with fail
            go_roundw
            case rel => exact ⟨k + 1, by omega, by go_num, by rw [HB2.out]; first | done | rfl | simp, HRES.out⟩
            case measure => simp [intOf]; omega
          · have hx : True := trivial
            have HST : Hid (step clock (M[k]'HLT.out) = []) := hid (by rw [HTT.out]; simp [step, due, hac, hdue, hlv])
            have HNI : Hid (goneIds clock M (k + 1) = goneIds clock M k ++ [t.ID]) := hid (by rw [HNI0.out]; simp [due, hac, hdue, hlv])
            have HB2 : Hid (badTo clock M (k + 1) = badTo clock M k) := hid (by rw [HNB.out]; simp [due, hac, hdue, hge])
            have hbn : (t.Gt != t.E) = false := by simpa [bne] using hge
            rw [hlv] at c4
            clear hx hac hge hlv hdue
            obtain ⟨ao6, cap6, hv6⟩ := own_form HA.out.gone
            subst hv6
            have hgl := goneIds_le clock M k
            have hml : (goneIds clock M k).length + 1 ≤ maxLen := by unfold maxLen; omega
            have hszA := HA.out.fr.size
            go_wp2_with (at_builtin; refine wpList_append_src rfl (.tmp 51) (.tmp 54) 28 rfl w.heap.size 3 i0 (.int .i64 0) 1 8 Try.underlying28 hi hz0 hz1 hz2 rfl (by decide) _ (goneIds clock M k).length ((goneIds clock M k).map (Value.int .i64)) rfl (row_kept HA.out.gone ((Fr.alloc (fun _ => False) _ _).trans (Fr.alloc _ _ _)) (fun _ _ => _root_.id)) 1 [.int .i64 t.ID] (.inr ⟨_, _, rfl, rfl, World.news_of_block (cs := #[.int .i64 t.ID]) (heap_new _ _ (by simp))⟩) (by simp [Value.oneCell']) hml (by omega) (by simp; omega) ?_)
            intro ao8 cap8 w7 hown7 hg7 hat7
            have hres := HA.out.lose HLT.out HST.out HNI.out ((Fr.alloc (fun _ => False) _ _).trans (Fr.alloc _ _ _)) hg7 hown7 (hat7.imp _root_.id (fun e => ⟨_, by omega, e⟩))
            have HRES := hid hres
            clear hres hown7 hg7 hat7
            go_wp2_with fail
            go_roundw
            case rel => exact ⟨k + 1, by omega, by go_num, by rw [HB2.out]; first | done | rfl | simp, HRES.out⟩
            case measure => simp [intOf]; omega
        · have hdt : ¬ t.Rl ≤ clock - t.P := by omega
          have hx : ({ t with Ac := true } : T) = t := by obtain ⟨_, _, _, _, _, _, ac, _, _, _, _⟩ := t; simp only at hac; subst hac; rfl
          have HST : Hid (step clock (M[k]'HLT.out) = [({ t with Ac := true } : T)]) := hid (by rw [HTT.out]; rw [hx]; simp [step, due, hac, hdue])
          have HNI : Hid (goneIds clock M (k + 1) = goneIds clock M k) := hid (by rw [HNI0.out]; simp [due, hac, hdue])
          have HB2 : Hid (badTo clock M (k + 1) = badTo clock M k) := hid (by rw [HNB.out]; simp [due, hac, hdue])
          rw [hac] at c6
          clear hx hac hdue
          obtain ⟨ao7, cap7, hv7⟩ := own_form HA.out.row
          subst hv7
          have hkl := keepTo_le clock M k
          have hml : (keepTo clock M k).length + 1 ≤ maxLen := by unfold maxLen; omega
          have hszA := HA.out.fr.size
          go_wp2_with (at_builtin; refine wpList_append_src rfl (.tmp 56) (.tmp 58) 45 rfl w.heap.size 54 j0 _ 11 64 Try.underlying45 hj hy0 hy1 hy2 (by rfl) (by omega) _ (keepTo clock M k).length (flat (keepTo clock M k)) rfl (row_kept HA.out.row ((Fr.alloc (fun _ => False) _ _).trans (Fr.alloc _ _ _)) (fun _ _ => _root_.id)) 1 ({ t with Ac := true } : T).cells.toList (.inr ⟨_, _, rfl, rfl, World.news_of_block (heap_new _ _ (by simp))⟩) (fun u hu => (Array.all_eq_true_iff_forall_mem.1 (cells_one ({ t with Ac := true } : T))) u (by simpa using hu)) hml (by omega) (by simp; omega) ?_)
          intro ao8 cap8 w7 hown7 hg7 hat7
          have hres := HA.out.keep HLT.out HST.out HNI.out ((Fr.alloc (fun _ => False) _ _).trans (Fr.alloc _ _ _)) hg7 hown7 (hat7.imp _root_.id (fun e => ⟨_, by omega, e⟩))
          have HRES := hid hres
          clear hres hown7 hg7 hat7
          go_wp2_with fail
          go_roundw
          case rel => exact ⟨k + 1, by omega, by go_num, by rw [HB2.out]; first | done | rfl | simp, HRES.out⟩
          case measure => simp [intOf]; omega
    · obtain rfl : k = N := by omega
      obtain ⟨ao7, cap7, hv7⟩ := own_form HA.out.row
      subst hv7
      have zb : wr.frozen? ⟨bm, 1, none⟩ = false := free_of_heap (HA.out.fr.heap H.out.box _root_.id) 1
      have hkeep : keepTo clock M k = (mSettle M clock).2 := by rw [← HN.out, keepTo, List.take_length]; rfl
      have hgone : goneIds clock M k = (mSettle M clock).1.1 := by rw [← HN.out, goneIds, List.take_length]; rfl
      have hbe : ((badTo clock M k : Nat) : Int) = (mSettle M clock).1.2 := by rw [← HN.out, badTo, List.take_length]; rfl
      have hkl := keepTo_le clock M k
      have hown := HA.out.row
      have hgo := HA.out.gone
      have hap := HA.out.apart
      rw [hgone] at hgo
      have hfin := ref_stored (M' := keepTo clock M k) H.out HA.out.fr hown (by omega)
      rw [hkeep] at hfin
      have hgx : (wr.setCell ⟨bm, 1, none⟩ (.slice ao7 (keepTo clock M k).length cap7)).ownsRow w.heap.size 3 1 u6 (mSettle M clock).1.1.length ((mSettle M clock).1.1.map (Value.int .i64)) :=
        row_kept hgo (Fr.set (S := fun i => i = bm) _ rfl _ _) (fun i hi e => by have := lt_of_heap H.out.box; omega)
      rw [hkeep] at hap hgx ⊢
      have HFIN := hid hfin
      have HGX := hid hgx
      have HAP := hid hap
      have HBE := hid hbe
      clear hA hown hgo hfin hgx hbe hgone hkeep hap HA
      go_wp2_with fail
      go_ret2
      exact ⟨u6, _, by rw [← HBE.out]; rfl, HGX.out, HFIN.out.1, ⟨HFIN.out.2.1.mono (fun _ _ e => .inl e), fun g hg => .inr (HFIN.out.2.2 g hg)⟩, HAP.out⟩
end Go.Proofs.Ytajlilcodnkfdaa
