/- Dates: days, date, two, four, Date. -/
import Derived.Test.YtfpcngoonfbphaaDoorH3
import Derived.Test.YtfpcngoonfbphaaDoorP2
set_option linter.unusedVariables false
set_option linter.unusedSimpArgs false
namespace Go.Proofs.YtfpcngoonfbphaaDoor
open Go.RowKit Go.Proofs.YtfpcngoonfbphaaDoorW.PrintWords

theorem leap_calls (y : Nat) (hy : y ≤ 100000) (w : World) : Calls Tryd.prog 64 #[.int .i64 y] w fun e w' => e = .returned (.bool (Pl.leap y)) ∧ w = w' := by
  have hF : Hid (Pl.leap y = ((y : Int) % 4 == 0 && ((y : Int) % 100 != 0 || (y : Int) % 400 == 0))) := Lib.hid (by
    unfold Pl.leap
    have h4 : (y % 4 == 0) = ((y : Int) % 4 == 0) := by rw [Bool.eq_iff_iff]; simp; omega
    have h1 : (y % 100 != 0) = ((y : Int) % 100 != 0) := by rw [Bool.eq_iff_iff]; simp; omega
    have h0 : (y % 400 == 0) = ((y : Int) % 400 == 0) := by rw [Bool.eq_iff_iff]; simp; omega
    rw [h4, h1, h0])
  cases b4 : ((y : Int) % 4 == 0) with
  | false =>
    rw [b4] at hF
    go_enter Tryd.func64, Tryd.ntmps64
    go_wp2
    go_ret
    exact ⟨ret_bool hF.out.symm, rfl⟩
  | true =>
    cases b1 : ((y : Int) % 100 != 0) with
    | true =>
      rw [b4, b1] at hF
      go_enter Tryd.func64, Tryd.ntmps64
      go_wp2
      go_ret
      exact ⟨ret_bool hF.out.symm, rfl⟩
    | false =>
      rw [b4, b1] at hF
      go_enter Tryd.func64, Tryd.ntmps64
      go_wp2
      go_ret
      exact ⟨ret_bool hF.out.symm, rfl⟩

set_option maxHeartbeats 1000000 in
theorem days_calls (y m : Nat) (hy : y ≤ 100000) (hm : m < 12) (w : World) : Calls Tryd.prog 65 #[.int .i64 y, .int .i64 m] w fun e w' => e = .returned (.int .i64 (Pl.mlen y m)) ∧ Below w.heap.size w w' := by
  have hc : m = 0 ∨ m = 1 ∨ m = 2 ∨ m = 3 ∨ m = 4 ∨ m = 5 ∨ m = 6 ∨ m = 7 ∨ m = 8 ∨ m = 9 ∨ m = 10 ∨ m = 11 := by omega
  have hL := Lib.hid (fun w => leap_calls y hy w)
  cases hl : Pl.leap y with
  | true =>
    have HF := Lib.hid (fun m => show Pl.mlen y m = if m = 1 then 29 else [31, 28, 31, 30, 31, 30, 31, 31, 30, 31, 30, 31].getD m 0 from by simp [Pl.mlen, hl])
    rw [hl] at hL
    rcases hc with rfl | rfl | rfl | rfl | rfl | rfl | rfl | rfl | rfl | rfl | rfl | rfl
    all_goals
      go_enter Tryd.func65, Tryd.ntmps65
      go_wp2_with (go_at_call 64; refine (hL.out _).mono ?_; rintro e w' ⟨rfl, rfl⟩)
      go_ret
      exact ⟨ret_int (by rw [HF.out]; rfl), by repeat (first | exact Below.refl _ _ | apply below_alloc)⟩
  | false =>
    have HF := Lib.hid (fun m => show Pl.mlen y m = [31, 28, 31, 30, 31, 30, 31, 31, 30, 31, 30, 31].getD m 0 from by simp [Pl.mlen, hl])
    rw [hl] at hL
    rcases hc with rfl | rfl | rfl | rfl | rfl | rfl | rfl | rfl | rfl | rfl | rfl | rfl
    all_goals
      go_enter Tryd.func65, Tryd.ntmps65
      go_wp2_with (go_at_call 64; refine (hL.out _).mono ?_; rintro e w' ⟨rfl, rfl⟩)
      go_ret
      exact ⟨ret_int (by rw [HF.out]; rfl), by repeat (first | exact Below.refl _ _ | apply below_alloc)⟩
end Go.Proofs.YtfpcngoonfbphaaDoor
