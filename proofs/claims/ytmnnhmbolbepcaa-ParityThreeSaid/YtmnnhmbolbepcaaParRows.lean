/- How many bytes a part has: the walks of both Rows. -/
import Derived.Test.YtmnnhmbolbepcaaParAt
namespace Go.Proofs.Ytmnnhmbolbepcaa
open Go.RowKit
set_option linter.unusedSimpArgs false

/-- how many bytes a part has -/
def rowsZ (z : Int) : Int := if z < 0 then 0 else (z + 2) / 3
def rowsN (m : Nat) : Nat := (m + 2) / 3
theorem rowsZ_nat (m : Nat) : rowsZ (m : Int) = (rowsN m : Int) := by unfold rowsZ rowsN; rw [if_neg (by omega)]; omega

theorem ret_i64 {a b : Int} (h : a = b) : Ending.returned (.int .i64 a) = .returned (.int .i64 b) := by rw [h]

set_option maxRecDepth 100000 in
set_option maxHeartbeats 1000000 in
theorem Rows_c (z : Int) (h : -9223372036854775808 ≤ z ∧ z < 9223372036854775808) (w : World) : Calls Try.prog 13 #[.int .i64 z] w fun e w' => e = .returned (.int .i64 (rowsZ z)) ∧ w = w' := by
  by_cases hz : z < 0
  · have f1 : decide (z < 0) = true := by simpa using hz
    have HR : Hid (rowsZ z = 0) := if_pos hz
    go_enter Try.func13, Try.ntmps13
    go_wp2
    go_ret
    exact ⟨ret_i64 (by rw [HR.out]), rfl⟩
  · have f1 : decide (z < 0) = false := by simpa using hz
    have z0 : (0 : Int) ≤ z := by omega
    have r0 : (0 : Int) ≤ z % 3 := by omega
    have r1 : z % 3 < 3 := by omega
    have e1 : z.tmod 3 = z % 3 := Int.tmod_eq_emod_of_nonneg z0
    have e2 : z.tdiv 3 = z / 3 := Int.tdiv_eq_ediv_of_nonneg z0
    have HR : Hid (rowsZ z = z / 3 + min (z % 3) 1) := by rw [Hid, rowsZ, if_neg hz]; omega
    go_enter Try.func13, Try.ntmps13
    go_wp2
    all_goals
      go_ret
      exact ⟨ret_i64 (by rw [HR.out]; omega), rfl⟩

set_option maxRecDepth 100000 in
set_option maxHeartbeats 1000000 in
theorem RRows_c (z : Int) (h : -9223372036854775808 ≤ z ∧ z < 9223372036854775808) (w : World) : Calls Try.prog 14 #[.int .i64 z] w fun e w' => e = .returned (.int .i64 (rowsZ z)) ∧ w = w' := by
  by_cases hz : z < 0
  · have f1 : decide (z < 0) = true := by simpa using hz
    have HR : Hid (rowsZ z = 0) := if_pos hz
    go_enter Try.func14, Try.ntmps14
    go_wp2
    go_ret
    exact ⟨ret_i64 (by rw [HR.out]), rfl⟩
  · have f1 : decide (z < 0) = false := by simpa using hz
    have z0 : (0 : Int) ≤ z := by omega
    have r0 : (0 : Int) ≤ z % 3 := by omega
    have r1 : z % 3 < 3 := by omega
    have e1 : z.tmod 3 = z % 3 := Int.tmod_eq_emod_of_nonneg z0
    have HR : Hid (rowsZ z = (z - z % 3) / 3 + (z % 3 + 2) / 3) := by rw [Hid, rowsZ, if_neg hz]; omega
    go_enter Try.func14, Try.ntmps14
    go_wp2
    all_goals
      go_ret
      exact ⟨ret_i64 (by rw [HR.out]), rfl⟩

end Go.Proofs.Ytmnnhmbolbepcaa
