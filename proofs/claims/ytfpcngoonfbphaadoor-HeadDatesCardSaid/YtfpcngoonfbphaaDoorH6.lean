/- Dates: date, two, four, Date. -/
import Derived.Test.YtfpcngoonfbphaaDoorH5
set_option linter.unusedVariables false
set_option linter.unusedSimpArgs false
namespace Go.Proofs.YtfpcngoonfbphaaDoor
open Go.RowKit Go.Proofs.YtfpcngoonfbphaaDoorW.PrintWords

set_option maxHeartbeats 1000000 in
set_option maxRecDepth 1000000 in
theorem date_calls (n : Nat) (hn : n ≤ 2932896) (w : World) : Calls Tryd.prog 38 #[.int .i64 n] w fun e w' => ∃ y m d : Nat, Pl.Civ n y m d ∧ e = .returned (.tuple #[.int .i64 y, .int .i64 m, .int .i64 ((d : Int) + 1)]) ∧ Below w.heap.size w w' := by
  obtain ⟨Y, M, D, hciv⟩ := Pl.exists_civ n
  have HC := Lib.hid hciv
  have hYl := hciv.year_le hn
  clear hciv
  go_enter Tryd.func38, Tryd.ntmps38
  go_wp2
  go_step3
  go_wp2
  go_step3
  go_wp2
  go_loop [0, 2] (fun a y => ∃ (r k : Nat), a = .int .i64 r ∧ y = .int .i64 k ∧ Hid (Pl.bef k + r = Pl.bef 1970 + n) ∧ 1970 ≤ k ∧ k ≤ Y ∧ r ≤ n) (fun a _ => (intOf a).toNat)
  case atStart => exact ⟨n, 1970, rfl, rfl, Lib.hid rfl, Nat.le_refl _, by omega, Nat.le_refl _⟩
  case round =>
    obtain ⟨r, k, rfl, rfl, hb, hk0, hkY, hrn⟩ := hrel
    have hL := Lib.hid (leap_calls k (by omega) w)
    have hsucc := Lib.hid (Pl.bef_succ k)
    have hyl := Lib.hid (show Pl.ylen k = if Pl.leap k = true then 366 else 365 from rfl)
    have hpos := Pl.ylen_pos k
    have key : Hid ((r < Pl.ylen k → k = Y ∧ r = Pl.mbef Y M + D) ∧ (¬ r < Pl.ylen k → k + 1 ≤ Y)) := Lib.hid (by
      have hs := HC.out.sum
      have hlt := HC.out.lt
      refine ⟨fun h => Pl.year_uniq (by have := hb.out; omega) h hlt, fun h => ?_⟩
      rcases Nat.lt_or_ge k Y with c | c
      · exact c
      · obtain rfl : k = Y := by omega
        have := hb.out
        omega)
    by_cases hlt : r < Pl.ylen k
    · obtain ⟨hkY', hr'⟩ := key.out.1 hlt
      subst hkY'
      have HR := Lib.hid hr'
      clear hr'
      have hd : Hid (∀ (m : Nat), m < 12 → ∀ w : World, Calls Tryd.prog 65 #[.int .i64 k, .int .i64 m] w fun e w' => e = .returned (.int .i64 (Pl.mlen k m)) ∧ Below w.heap.size w w') := Lib.hid (fun m hm w => days_calls k m (by omega) hm w)
      have hM := HC.out.mon
      have hr366 : r ≤ 366 := by have := Pl.ylen_pos k; omega
      cases hl : Pl.leap k with
      | true =>
        have hL2 := hL.out
        rw [hl] at hL2
        have HL := Lib.hid hL2
        have ht : decide ((r : Int) < 366) = true := decide_eq_true (by have := hyl.out; rw [hl] at this; simp at this; omega)
        clear hL2 hl hlt hpos hb hrn
        go_wp2_with (go_at_call 64; refine HL.out.mono ?_; rintro e w' ⟨rfl, rfl⟩)
        go_loopw [0, 3] (fun a m wr => ∃ (q j : Nat), a = .int .i64 q ∧ m = .int .i64 j ∧ Hid (Pl.mbef k j + q = Pl.mbef k M + D) ∧ j ≤ M ∧ q ≤ r ∧ Hid (Below w.heap.size w wr)) (fun _ m _ => M - (intOf m).toNat)
        case atStart => exact ⟨r, 0, rfl, rfl, Lib.hid (by rw [Pl.mbef_0, HR.out]; omega), Nat.zero_le _, Nat.le_refl _, Lib.hid (Below.refl _ _)⟩
        case round =>
          obtain ⟨q, j, rfl, rfl, hq, hj, hqr, hB⟩ := hrel
          have hms := Lib.hid (Pl.mbef_succ k j (by omega))
          have hkey : Hid ((q < Pl.mlen k j → j = M ∧ q = D) ∧ (¬ q < Pl.mlen k j → j + 1 ≤ M)) := Lib.hid (by
            refine ⟨fun h => Pl.month_uniq (by omega) hM hq.out h HC.out.day, fun h => ?_⟩
            rcases Nat.lt_or_ge j M with c | c
            · exact c
            · obtain rfl : j = M := by omega
              have := hq.out
              have := HC.out.day
              omega)
          have hdj := Lib.hid (hd.out j (by omega))
          have hml : Hid (Pl.mlen k j ≤ 31) := Lib.hid (Pl.mlen_le k j)
          generalize hG : Pl.mlen k j = L at *
          have hml' := hml.out
          clear hG
          by_cases hlt : q < L
          · have d1 : decide ((L : Int) ≤ (q : Int)) = false := decide_eq_false (by omega)
            have d2 : decide (L ≤ q) = false := decide_eq_false (by omega)
            obtain ⟨e1, e2⟩ := hkey.out.1 hlt
            have HE := Lib.hid (And.intro e1 e2)
            clear e1 e2
            go_wp2_with (go_at_call 65; refine (hdj.out _).mono ?_; rintro e w2 ⟨rfl, hb2⟩; have HB2 := Lib.hid hb2; clear hb2)
            rw [Exit.noGoto_ret]
            go_ret3
            exact ⟨k, j, q, by have := HC.out; rw [← HE.out.1, ← HE.out.2] at this; exact this, rfl, below_then hB.out hB.out.size HB2.out⟩
          · have d1 : decide ((L : Int) ≤ (q : Int)) = true := decide_eq_true (by omega)
            have d2 : decide (L ≤ q) = true := decide_eq_true (by omega)
            have hj1 := hkey.out.2 hlt
            have tok1 : True := trivial
            go_wp2_with (first | (go_at_call 65; have _t := tok1; refine (hdj.out _).mono ?_; rintro e w2 ⟨rfl, hb2⟩; have HB2 := Lib.hid hb2; clear hb2 tok1 _t) | (go_at_call 65; refine (hdj.out _).mono ?_; rintro e w3 ⟨rfl, hb3⟩; have HB3 := Lib.hid hb3; clear hb3))
            go_roundw
            case rel => exact ⟨q - L, j + 1, by go_num, by go_num, Lib.hid (by have := hms.out; have := hq.out; omega), hj1, by omega, Lib.hid (below_then (below_then hB.out hB.out.size HB2.out) (Nat.le_trans hB.out.size HB2.out.size) HB3.out)⟩
            case measure => simp [intOf]; omega
      | false =>
        have hL2 := hL.out
        rw [hl] at hL2
        have HL := Lib.hid hL2
        have ht : decide ((r : Int) < 365) = true := decide_eq_true (by have := hyl.out; rw [hl] at this; simp at this; omega)
        clear hL2 hl hlt hpos hb hrn
        go_wp2_with (go_at_call 64; refine HL.out.mono ?_; rintro e w' ⟨rfl, rfl⟩)
        go_loopw [0, 3] (fun a m wr => ∃ (q j : Nat), a = .int .i64 q ∧ m = .int .i64 j ∧ Hid (Pl.mbef k j + q = Pl.mbef k M + D) ∧ j ≤ M ∧ q ≤ r ∧ Hid (Below w.heap.size w wr)) (fun _ m _ => M - (intOf m).toNat)
        case atStart => exact ⟨r, 0, rfl, rfl, Lib.hid (by rw [Pl.mbef_0, HR.out]; omega), Nat.zero_le _, Nat.le_refl _, Lib.hid (Below.refl _ _)⟩
        case round =>
          obtain ⟨q, j, rfl, rfl, hq, hj, hqr, hB⟩ := hrel
          have hms := Lib.hid (Pl.mbef_succ k j (by omega))
          have hkey : Hid ((q < Pl.mlen k j → j = M ∧ q = D) ∧ (¬ q < Pl.mlen k j → j + 1 ≤ M)) := Lib.hid (by
            refine ⟨fun h => Pl.month_uniq (by omega) hM hq.out h HC.out.day, fun h => ?_⟩
            rcases Nat.lt_or_ge j M with c | c
            · exact c
            · obtain rfl : j = M := by omega
              have := hq.out
              have := HC.out.day
              omega)
          have hdj := Lib.hid (hd.out j (by omega))
          have hml : Hid (Pl.mlen k j ≤ 31) := Lib.hid (Pl.mlen_le k j)
          generalize hG : Pl.mlen k j = L at *
          have hml' := hml.out
          clear hG
          by_cases hlt : q < L
          · have d1 : decide ((L : Int) ≤ (q : Int)) = false := decide_eq_false (by omega)
            have d2 : decide (L ≤ q) = false := decide_eq_false (by omega)
            obtain ⟨e1, e2⟩ := hkey.out.1 hlt
            have HE := Lib.hid (And.intro e1 e2)
            clear e1 e2
            go_wp2_with (go_at_call 65; refine (hdj.out _).mono ?_; rintro e w2 ⟨rfl, hb2⟩; have HB2 := Lib.hid hb2; clear hb2)
            rw [Exit.noGoto_ret]
            go_ret3
            exact ⟨k, j, q, by have := HC.out; rw [← HE.out.1, ← HE.out.2] at this; exact this, rfl, below_then hB.out hB.out.size HB2.out⟩
          · have d1 : decide ((L : Int) ≤ (q : Int)) = true := decide_eq_true (by omega)
            have d2 : decide (L ≤ q) = true := decide_eq_true (by omega)
            have hj1 := hkey.out.2 hlt
            have tok1 : True := trivial
            go_wp2_with (first | (go_at_call 65; have _t := tok1; refine (hdj.out _).mono ?_; rintro e w2 ⟨rfl, hb2⟩; have HB2 := Lib.hid hb2; clear hb2 tok1 _t) | (go_at_call 65; refine (hdj.out _).mono ?_; rintro e w3 ⟨rfl, hb3⟩; have HB3 := Lib.hid hb3; clear hb3))
            go_roundw
            case rel => exact ⟨q - L, j + 1, by go_num, by go_num, Lib.hid (by have := hms.out; have := hq.out; omega), hj1, by omega, Lib.hid (below_then (below_then hB.out hB.out.size HB2.out) (Nat.le_trans hB.out.size HB2.out.size) HB3.out)⟩
            case measure => simp [intOf]; omega
    · have hk1 := key.out.2 hlt
      cases hl : Pl.leap k with
      | true =>
        have hL2 := hL.out
        rw [hl] at hL2
        have HL := Lib.hid hL2
        have hy : Hid (Pl.ylen k = 366) := Lib.hid (by have := hyl.out; rw [hl] at this; simpa using this)
        have h366 : 366 ≤ r := by rw [hy.out] at hlt; omega
        have ht : decide ((r : Int) < 366) = false := decide_eq_false (by omega)
        clear hL2 hl hlt hpos
        go_wp2_with (go_at_call 64; refine HL.out.mono ?_; rintro e w' ⟨rfl, rfl⟩)
        go_round
        case rel => exact ⟨r - 366, k + 1, by go_num, by go_num, Lib.hid (by have := hsucc.out; have := hy.out; have := hb.out; omega), by omega, by omega, by omega⟩
        case measure => simp [intOf]; omega
      | false =>
        have hL2 := hL.out
        rw [hl] at hL2
        have HL := Lib.hid hL2
        have hy : Hid (Pl.ylen k = 365) := Lib.hid (by have := hyl.out; rw [hl] at this; simpa using this)
        have h366 : 365 ≤ r := by rw [hy.out] at hlt; omega
        have ht : decide ((r : Int) < 365) = false := decide_eq_false (by omega)
        clear hL2 hl hlt hpos
        go_wp2_with (go_at_call 64; refine HL.out.mono ?_; rintro e w' ⟨rfl, rfl⟩)
        go_round
        case rel => exact ⟨r - 365, k + 1, by go_num, by go_num, Lib.hid (by have := hsucc.out; have := hy.out; have := hb.out; omega), by omega, by omega, by omega⟩
        case measure => simp [intOf]; omega
end Go.Proofs.YtfpcngoonfbphaaDoor
