/- A number within bounds: walks of the laws' within. -/
import Derived.Test.YtekeondobdjppaaQSwap
import Derived.Lib.Hide
namespace Go.Proofs.Ytekeondobdjppaa
open Go.RowKit

theorem tmod_fix (a n : Int) (hn : 0 < n) : -n < a.tmod n ∧ a.tmod n < n ∧ (a.tmod n < 0 → a.tmod n + n = a % n) ∧ (0 ≤ a.tmod n → a.tmod n = a % n) := by
  have h1 : a.tmod n + n * a.tdiv n = a := Int.tmod_add_mul_tdiv a n
  have h2 : -n < a.tmod n ∧ a.tmod n < n := by
    have h3 := Int.natAbs_tmod a n
    have h4 : a.natAbs % n.natAbs < n.natAbs := Nat.mod_lt _ (by omega)
    omega
  have h5 : a % n = a.tmod n % n := by
    conv => lhs; rw [← h1]
    rw [Int.add_mul_emod_self_left]
  refine ⟨h2.1, h2.2, fun h => ?_, fun h => ?_⟩
  · rw [h5, ← Int.add_emod_right, Int.emod_eq_of_lt (by omega) (by omega)]
  · rw [h5, Int.emod_eq_of_lt h h2.2]

set_option maxHeartbeats 400000 in
theorem within9_calls (a n : Int) (w : World) (hn : 0 < n) (hn2 : n ≤ 1000000) : Calls Try.prog 21 #[.int .i64 a, .int .i64 n] w fun e w' => e = .returned (.int .i64 (a % n)) ∧ w = w' := by
  obtain ⟨h1, h2, h3, h4⟩ := tmod_fix a n hn
  have H3 := Lib.hid h3
  have H4 := Lib.hid h4
  clear h3 h4
  by_cases h : a.tmod n < 0
  · have e := Lib.hid (H3.out h)
    go_enter Try.func21, Try.ntmps21
    go_wp2_with fail
    go_ret
    exact ⟨congrArg (fun x => Ending.returned (.int .i64 x)) e.out, rfl⟩
  · have h' : 0 ≤ a.tmod n := by omega
    have e := Lib.hid (H4.out h')
    go_enter Try.func21, Try.ntmps21
    go_wp2_with fail
    go_ret
    exact ⟨congrArg (fun x => Ending.returned (.int .i64 x)) e.out, rfl⟩

set_option maxHeartbeats 400000 in
theorem within1_calls (a n : Int) (w : World) (hn : 0 < n) (hn2 : n ≤ 1000000) : Calls Try.prog 42 #[.int .i64 a, .int .i64 n] w fun e w' => e = .returned (.int .i64 (a % n)) ∧ w = w' := by
  obtain ⟨h1, h2, h3, h4⟩ := tmod_fix a n hn
  have H3 := Lib.hid h3
  have H4 := Lib.hid h4
  clear h3 h4
  by_cases h : a.tmod n < 0
  · have e := Lib.hid (H3.out h)
    go_enter Try.func42, Try.ntmps42
    go_wp2_with fail
    go_ret
    exact ⟨congrArg (fun x => Ending.returned (.int .i64 x)) e.out, rfl⟩
  · have h' : 0 ≤ a.tmod n := by omega
    have e := Lib.hid (H4.out h')
    go_enter Try.func42, Try.ntmps42
    go_wp2_with fail
    go_ret
    exact ⟨congrArg (fun x => Ending.returned (.int .i64 x)) e.out, rfl⟩

set_option maxHeartbeats 400000 in
theorem within7_calls (a n : Int) (w : World) (hn : 0 < n) (hn2 : n ≤ 1000000) : Calls Try.prog 66 #[.int .i64 a, .int .i64 n] w fun e w' => e = .returned (.int .i64 (a % n)) ∧ w = w' := by
  obtain ⟨h1, h2, h3, h4⟩ := tmod_fix a n hn
  have H3 := Lib.hid h3
  have H4 := Lib.hid h4
  clear h3 h4
  by_cases h : a.tmod n < 0
  · have e := Lib.hid (H3.out h)
    go_enter Try.func66, Try.ntmps66
    go_wp2_with fail
    go_ret
    exact ⟨congrArg (fun x => Ending.returned (.int .i64 x)) e.out, rfl⟩
  · have h' : 0 ≤ a.tmod n := by omega
    have e := Lib.hid (H4.out h')
    go_enter Try.func66, Try.ntmps66
    go_wp2_with fail
    go_ret
    exact ⟨congrArg (fun x => Ending.returned (.int .i64 x)) e.out, rfl⟩

set_option maxHeartbeats 400000 in
theorem within4_calls (a n : Int) (w : World) (hn : 0 < n) (hn2 : n ≤ 1000000) : Calls Try.prog 85 #[.int .i64 a, .int .i64 n] w fun e w' => e = .returned (.int .i64 (a % n)) ∧ w = w' := by
  obtain ⟨h1, h2, h3, h4⟩ := tmod_fix a n hn
  have H3 := Lib.hid h3
  have H4 := Lib.hid h4
  clear h3 h4
  by_cases h : a.tmod n < 0
  · have e := Lib.hid (H3.out h)
    go_enter Try.func85, Try.ntmps85
    go_wp2_with fail
    go_ret
    exact ⟨congrArg (fun x => Ending.returned (.int .i64 x)) e.out, rfl⟩
  · have h' : 0 ≤ a.tmod n := by omega
    have e := Lib.hid (H4.out h')
    go_enter Try.func85, Try.ntmps85
    go_wp2_with fail
    go_ret
    exact ⟨congrArg (fun x => Ending.returned (.int .i64 x)) e.out, rfl⟩

set_option maxHeartbeats 400000 in
theorem within13_calls (a n : Int) (w : World) (hn : 0 < n) (hn2 : n ≤ 1000000) : Calls Try.prog 37 #[.int .i64 a, .int .i64 n] w fun e w' => e = .returned (.int .i64 (a % n)) ∧ w = w' := by
  obtain ⟨h1, h2, h3, h4⟩ := tmod_fix a n hn
  have H3 := Lib.hid h3
  have H4 := Lib.hid h4
  clear h3 h4
  by_cases h : a.tmod n < 0
  · have e := Lib.hid (H3.out h)
    go_enter Try.func37, Try.ntmps37
    go_wp2_with fail
    go_ret
    exact ⟨congrArg (fun x => Ending.returned (.int .i64 x)) e.out, rfl⟩
  · have h' : 0 ≤ a.tmod n := by omega
    have e := Lib.hid (H4.out h')
    go_enter Try.func37, Try.ntmps37
    go_wp2_with fail
    go_ret
    exact ⟨congrArg (fun x => Ending.returned (.int .i64 x)) e.out, rfl⟩


end Go.Proofs.Ytekeondobdjppaa
