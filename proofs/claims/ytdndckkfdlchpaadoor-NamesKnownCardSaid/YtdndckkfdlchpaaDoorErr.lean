/-
  An error's word ('(api.Errno).Error'), and small functions that reach nothing.
-/
import Derived.Test.YtdndckkfdlchpaaDoorOnce
import Derived.Laws.MakeOwn
import Derived.Laws.OwnMore
import Derived.Below
import Derived.Outline
namespace Go.Proofs.YtdndckkfdlchpaaDoor
open Go.Proofs
open Go.RowKit

theorem hid {p : Prop} (h : p) : Hid p := h

/-- The words of errors 0 to 14; 'error' for any other number. -/
def errWord (e : Int) : ByteArray :=
  if e = 0 then ⟨#[111, 107]⟩ else
  if e = 1 then ⟨#[102, 111, 114, 109]⟩ else
  if e = 2 then ⟨#[97, 114, 103, 117, 109, 101, 110, 116]⟩ else
  if e = 3 then ⟨#[104, 111, 114, 105, 122, 111, 110]⟩ else
  if e = 4 then ⟨#[116, 104, 101, 114, 101]⟩ else
  if e = 5 then ⟨#[110, 111, 110, 101]⟩ else
  if e = 6 then ⟨#[102, 117, 108, 108]⟩ else
  if e = 7 then ⟨#[112, 101, 114, 105, 111, 100, 115]⟩ else
  if e = 8 then ⟨#[119, 101, 105, 103, 104, 116]⟩ else
  if e = 9 then ⟨#[107, 105, 110, 100]⟩ else
  if e = 10 then ⟨#[98, 117, 115, 121]⟩ else
  if e = 11 then ⟨#[105, 100, 108, 101]⟩ else
  if e = 12 then ⟨#[100, 111, 110, 101]⟩ else
  if e = 13 then ⟨#[108, 101, 97, 118, 105, 110, 103]⟩ else
  if e = 14 then ⟨#[111, 118, 101, 114, 102, 108, 111, 119]⟩ else
  ⟨#[101, 114, 114, 111, 114]⟩

theorem ret_str {a b : ByteArray} (h : a = b) : Ending.returned (.string a) = .returned (.string b) := by rw [h]

set_option maxRecDepth 100000 in
set_option maxHeartbeats 1600000 in
theorem error_any (e : Int) (w : World) :
    Calls Tryd.prog 15 #[.int .i64 e] w fun r w' => r = .returned (.string (errWord e)) ∧ w = w' := by
  go_enter Tryd.func15, Tryd.ntmps15
  go_wp2
  all_goals (go_ret; refine ⟨ret_str ?_, rfl⟩; simp only [beq_iff_eq, beq_eq_false_iff_ne, ne_eq] at *; unfold errWord; simp only [*, if_true, if_false]; try rfl)
end Go.Proofs.YtdndckkfdlchpaaDoor
