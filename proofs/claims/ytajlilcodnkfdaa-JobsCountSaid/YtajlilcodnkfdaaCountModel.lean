/-
  The statement JobsCount: what its two tasks are, clock by clock. Plain Lean.
-/
import Derived.Test.YtajlilcodnkfdaaModel
namespace Go.Proofs.Ytajlilcodnkfdaa

/-- The periodic task at clock m + r, where m is q periods. -/
def p1 (k n m r q : Int) : T := if r = 0 then ⟨1, k, n, false, false, false, false, 0, 0, false, q⟩ else ⟨1, k, n, false, false, false, true, m, 0, false, q + 1⟩
/-- The sporadic one at clock c: it has a job till free; its jobs so far are many. -/
def p2 (k n c free many : Int) : T := if c < free then ⟨2, k, n, true, false, false, true, free - n, 0, false, many⟩ else ⟨2, k, n, true, false, false, false, 0, 0, false, many⟩
def p2w (k n many : Int) : T := ⟨2, k, n, true, false, true, false, 0, 0, false, many⟩

theorem p1_id (k n m r q : Int) : (p1 k n m r q).ID = 1 := by unfold p1; split <;> rfl
theorem p2_id (k n c f y : Int) : (p2 k n c f y).ID = 2 := by unfold p2; split <;> rfl
theorem find_p1 (k n m r q : Int) (x : T) : find [p1 k n m r q, x] 1 = some (p1 k n m r q) := by simp [find, p1_id]
theorem find_p2 (k n m r q c f y : Int) : find [p1 k n m r q, p2 k n c f y] 2 = some (p2 k n c f y) := by simp [find, p1_id, p2_id]
theorem p1_count (k n m r q : Int) : (p1 k n m r q).Ct = if r = 0 then q else q + 1 := by unfold p1; split <;> rfl
theorem p2_count (k n c f y : Int) : (p2 k n c f y).Ct = y := by unfold p2; split <;> rfl

theorem arrive_busy {k n m r q c f y : Int} (h : c < f) : mArrive [p1 k n m r q, p2 k n c f y] 2 = (10, [p1 k n m r q, p2 k n c f y]) := by
  rw [mArrive, find_p2]
  simp [p2, h]
theorem arrive_free {k n m r q c f y : Int} (h : ¬ c < f) : mArrive [p1 k n m r q, p2 k n c f y] 2 = (0, [p1 k n m r q, p2w k n y]) := by
  rw [mArrive, find_p2]
  simp [p2, h, setT, p1_id, p2w]

theorem flat_two (f : T → List T) (a b : T) : [a, b].flatMap f = f a ++ f b := by simp
theorem settle_two {k n m r q c f y : Int} (hc : c = m + r) (hr : 0 ≤ r) (hn : r < n) :
    (mSettle [⟨1, k, n, false, false, false, true, m, 0, false, q + 1⟩, p2 k n c f y] (c + 1)).2 = [if r + 1 = n then p1 k n (m + n) 0 (q + 1) else p1 k n m (r + 1) q, p2 k n (c + 1) f y] := by
  have e1 : step (c + 1) ⟨1, k, n, false, false, false, true, m, 0, false, q + 1⟩ = [if r + 1 = n then p1 k n (m + n) 0 (q + 1) else p1 k n m (r + 1) q] := by
    by_cases h : r + 1 = n
    · have h1 : m + n ≤ c + 1 := by omega
      simp [step, due, h, p1, ended, h1]
    · have h1 : ¬ m + n ≤ c + 1 := by omega
      have h2 : ¬ r + 1 = 0 := by omega
      simp [step, due, h, p1, h1, h2]
  have e2 : step (c + 1) (p2 k n c f y) = [p2 k n (c + 1) f y] := by
    by_cases h : c < f
    · by_cases h3 : c + 1 < f
      · have h1 : ¬ f ≤ c + 1 := by omega
        simp [step, due, p2, h, h1, h3]
      · have h1 : f ≤ c + 1 := by omega
        simp [step, due, p2, h, h1, h3, ended]
    · have h3 : ¬ c + 1 < f := by omega
      simp [step, due, p2, h, h3]
  rw [mSettle]
  show List.flatMap (step (c + 1)) _ = _
  rw [flat_two, e1, e2]
  rfl
theorem release_two {k n m r q c : Int} {x : T} (hc : c = m + r) : (mRelease [p1 k n m r q, x] c).2 = [⟨1, k, n, false, false, false, true, m, 0, false, q + 1⟩, if rest x then x else begun c x] := by
  by_cases h : r = 0
  · subst h
    have : c = m := by omega
    subst this
    simp [mRelease, p1, rest, begun]
  · simp [mRelease, p1, rest, h]
theorem rest_p2 (k n c f y : Int) : rest (p2 k n c f y) = true := by unfold p2; split <;> rfl
theorem begun_p2w (k n y c : Int) (hn : 0 < n) : (if rest (p2w k n y) then p2w k n y else begun c (p2w k n y)) = p2 k n c (c + n) (y + 1) := by
  have h : c < c + n := by omega
  have e : c + n - n = c := by omega
  simp [p2w, rest, begun, p2, h, e]

/-- One round, behind the asking: no new job. -/
theorem round_still {k n m r q c f y : Int} (hc : c = m + r) (hr : 0 ≤ r) (hn : r < n) :
    (mSettle (mRelease [p1 k n m r q, p2 k n c f y] c).2 (c + 1)).2 = [if r + 1 = n then p1 k n (m + n) 0 (q + 1) else p1 k n m (r + 1) q, p2 k n (c + 1) f y] := by
  rw [release_two hc, rest_p2, if_pos rfl]
  exact settle_two hc hr hn
/-- One round, behind the asking: a new job. -/
theorem round_new {k n m r q c y : Int} (hc : c = m + r) (hr : 0 ≤ r) (hn : r < n) :
    (mSettle (mRelease [p1 k n m r q, p2w k n y] c).2 (c + 1)).2 = [if r + 1 = n then p1 k n (m + n) 0 (q + 1) else p1 k n m (r + 1) q, p2 k n (c + 1) (c + n) (y + 1)] := by
  rw [release_two hc, begun_p2w k n y c (by omega)]
  exact settle_two hc hr hn

theorem good_two {k n m r q c f y : Int} {C : Int} (hk : 1 ≤ k) (hkn : k ≤ n) (hn : n ≤ 1048575) (hm : 0 ≤ m) (hm1 : m ≤ 1000000000) (hq : 0 ≤ q) (hq1 : q + 1 ≤ C) (hf : f = 0 ∨ n ≤ f) (hf0 : 0 ≤ c) (hf1 : f ≤ 1000000000) (hy : 0 ≤ y) (hy1 : y ≤ C) :
    Good C [p1 k n m r q, p2 k n c f y] := by
  intro t ht
  simp only [List.mem_cons, List.not_mem_nil, or_false] at ht
  rcases ht with rfl | rfl
  · unfold p1
    split
    · exact ⟨hk, hkn, hn, Int.le_refl _, by simp only; omega, Int.le_refl _, by simp, hq, by simp only; omega⟩
    · exact ⟨hk, hkn, hn, Int.le_refl _, by simp only; omega, hm, hm1, by simp only; omega, hq1⟩
  · unfold p2
    split
    · exact ⟨hk, hkn, hn, Int.le_refl _, by simp only; omega, by simp only; omega, by simp only; omega, hy, hy1⟩
    · exact ⟨hk, hkn, hn, Int.le_refl _, by simp only; omega, Int.le_refl _, by simp, hy, hy1⟩

theorem count_div {n m r q : Int} (hm : m = q * n) (hr : 0 ≤ r) (hn : r < n) : (m + r + n - 1) / n = if r = 0 then q else q + 1 := by
  subst hm
  by_cases h : r = 0
  · rw [if_pos h, h]
    have e : q * n + 0 + n - 1 = (n - 1) + q * n := by omega
    rw [e, Int.add_mul_ediv_right _ _ (by omega), Int.ediv_eq_zero_of_lt (by omega) (by omega)]
    omega
  · rw [if_neg h]
    have e : q * n + r + n - 1 = (r - 1) + (q + 1) * n := by rw [Int.add_mul]; omega
    rw [e, Int.add_mul_ediv_right _ _ (by omega), Int.ediv_eq_zero_of_lt (by omega) (by omega)]
    omega
end Go.Proofs.Ytajlilcodnkfdaa
