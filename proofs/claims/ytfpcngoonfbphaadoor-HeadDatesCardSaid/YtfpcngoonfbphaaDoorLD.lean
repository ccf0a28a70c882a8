/- The walk of law18.HeadDates. -/
import Derived.Test.YtfpcngoonfbphaaDoorKN
import Derived.Test.YtfpcngoonfbphaaDoorP3
import Derived.Test.YtfpcngoonfbphaaDoorR1
import Derived.StillTailTactics
import Derived.Deep.RegionHeld3
import Derived.BigRegion
set_option linter.unusedVariables false
set_option linter.unusedSimpArgs false
namespace Go.Proofs.YtfpcngoonfbphaaDoor
open Go.RowKit Go.Proofs.YtfpcngoonfbphaaDoorW.PrintWords Go.Proofs.YtfpcngoonfbphaaDoor.Pl

theorem post_det {t : Int} {w w' : World} {e : Ending} {y m d : Nat} (hc : Pl.Civ (clampT t / 86400) y m d) (h : DatePost t w e w') : e = .returned (.string ⟨(Pl.stamp (clampT t / 86400 % 7) d m y (clampT t % 86400)).toArray⟩) ∧ Below w.heap.size w w' := by
  obtain ⟨y', m', d', hc', rfl, hb⟩ := h
  obtain ⟨rfl, rfl, rfl⟩ := hc'.uniq hc
  exact ⟨rfl, hb⟩
set_option maxHeartbeats 4000000 in
set_option maxRecDepth 100000 in
theorem HeadDates_calls (t more : Int) (w : World) (hsh : w.ShapedOpen Tryd.prog) : Calls Tryd.prog 3 #[.int .i64 t, .int .i64 more] w fun e w' => e = .returned (.bool true) ∧ Below w.heap.size w w' := by
  have HK := Lib.hid (known_calls w hsh)
  clear hsh
  by_cases c : t < 0 ∨ t > 253401609599 ∨ more < 0 ∨ more > 691200
  · have hor : ∀ (a b c d : Bool), True := fun _ _ _ _ => trivial
    rcases Int.lt_or_le t 0 with c1 | c1
    · have d1 : decide (t < 0) = true := decide_eq_true c1
      go_enter Tryd.func3, Tryd.ntmps3
      go_wp2_with fail
      refine HK.out.mono ?_
      rintro e w1 ⟨rfl, hb1⟩
      have HB1 := Lib.hid hb1
      clear hb1
      go_wp2
      go_ret
      exact ⟨rfl, HB1.out⟩
    have d1 : decide (t < 0) = false := decide_eq_false (by omega)
    by_cases c2 : 253401609599 < t
    · have d2 : decide (253401609599 < t) = true := decide_eq_true c2
      go_enter Tryd.func3, Tryd.ntmps3
      go_wp2_with fail
      refine HK.out.mono ?_
      rintro e w1 ⟨rfl, hb1⟩
      have HB1 := Lib.hid hb1
      clear hb1
      go_wp2
      go_ret
      exact ⟨rfl, HB1.out⟩
    have d2 : decide (253401609599 < t) = false := decide_eq_false c2
    by_cases c3 : more < 0
    · have d3 : decide (more < 0) = true := decide_eq_true c3
      go_enter Tryd.func3, Tryd.ntmps3
      go_wp2_with fail
      refine HK.out.mono ?_
      rintro e w1 ⟨rfl, hb1⟩
      have HB1 := Lib.hid hb1
      clear hb1
      go_wp2
      go_ret
      exact ⟨rfl, HB1.out⟩
    have d3 : decide (more < 0) = false := decide_eq_false c3
    have d4 : decide (691200 < more) = true := decide_eq_true (by omega)
    go_enter Tryd.func3, Tryd.ntmps3
    go_wp2_with fail
    refine HK.out.mono ?_
    rintro e w1 ⟨rfl, hb1⟩
    have HB1 := Lib.hid hb1
    clear hb1
    go_wp2
    go_ret
    exact ⟨rfl, HB1.out⟩
  · obtain ⟨T, rfl⟩ : ∃ T : Nat, t = T := ⟨t.toNat, by omega⟩
    obtain ⟨M, rfl⟩ : ∃ M : Nat, more = M := ⟨more.toNat, by omega⟩
    have hT : T ≤ 253401609599 := by omega
    have hM : M ≤ 691200 := by omega
    clear c
    have d1 : decide ((T : Int) < 0) = false := decide_eq_false (by omega)
    have d2 : decide (253401609599 < (T : Int)) = false := decide_eq_false (by omega)
    have d3 : decide ((M : Int) < 0) = false := decide_eq_false (by omega)
    have d4 : decide (691200 < (M : Int)) = false := decide_eq_false (by omega)
    have eC : clampT T = T := by unfold clampT; omega
    have eC2 : clampT ((T : Int) + M) = T + M := by unfold clampT; omega
    obtain ⟨y, m, d, hc⟩ := Pl.exists_civ (T / 86400)
    obtain ⟨y2, m2, d2', hc2⟩ := Pl.exists_civ ((T + M) / 86400)
    have HP1 := Lib.hid (fun w e w' h => post_det (t := T) (w := w) (w' := w') (e := e) (y := y) (m := m) (d := d) (by rw [eC]; exact hc) h)
    have HP2 := Lib.hid (fun w e w' h => post_det (t := (T : Int) + M) (w := w) (w' := w') (e := e) (y := y2) (m := m2) (d := d2') (by rw [eC2]; exact hc2) h)
    rw [eC] at HP1
    rw [eC2] at HP2
    have hk7 : T / 86400 % 7 < 7 := Nat.mod_lt _ (by decide)
    have hk72 : (T + M) / 86400 % 7 < 7 := Nat.mod_lt _ (by decide)
    have hlen := Lib.hid (Pl.stamp_len (k := T / 86400 % 7) (d := d) (m := m) (y := y) (s := T % 86400) hk7 hc.mon)
    have htake := Lib.hid (Pl.stamp_take (k := T / 86400 % 7) (d := d) (m := m) (y := y) (s := T % 86400) hk7)
    have hinj : Hid ((Pl.stamp (T / 86400 % 7) d m y (T % 86400) = Pl.stamp ((T + M) / 86400 % 7) d2' m2 y2 ((T + M) % 86400)) ↔ M = 0) := Lib.hid (by
      constructor
      · intro h
        obtain ⟨rfl, rfl, rfl, e4⟩ := Pl.stamp_inj hk7 hk72 hc.day_le hc2.day_le hc.mon hc2.mon (hc.year_le (by omega)).2 (hc2.year_le (by omega)).2 (Nat.mod_lt _ (by decide)) (Nat.mod_lt _ (by decide)) h
        have := hc.inj hc2
        omega
      · rintro rfl
        obtain ⟨rfl, rfl, rfl⟩ := hc.uniq hc2
        rfl)
    generalize hs1 : Pl.stamp (T / 86400 % 7) d m y (T % 86400) = S1 at *
    generalize hs2 : Pl.stamp ((T + M) / 86400 % 7) d2' m2 y2 ((T + M) % 86400) = S2 at *
    have HD1 := Lib.hid (fun w => Date_calls (T : Int) w)
    have HD2 := Lib.hid (fun w => Date_calls ((T : Int) + M) w)
    have HD3 := Lib.hid (fun w => RDate.Date_calls (T : Int) w)
    clear hs1 hs2 hc hc2 eC eC2
    go_enter Tryd.func3, Tryd.ntmps3
    go_wp2_with fail
    refine HK.out.mono ?_
    rintro e w1 ⟨rfl, hb1⟩
    have HB1 := Lib.hid hb1
    clear hb1
    go_wp2_with fail
    refine (HD1.out _).mono ?_
    intro e w2 h
    obtain ⟨rfl, hb2⟩ := HP1.out _ _ _ h
    clear h
    have HB2 := Lib.hid hb2
    clear hb2
    go_wp2_with fail
    refine (HD2.out _).mono ?_
    intro e w3 h
    obtain ⟨rfl, hb3⟩ := HP2.out _ _ _ h
    clear h
    have HB3 := Lib.hid hb3
    clear hb3
    obtain ⟨K, hK⟩ : ∃ K, K = T / 86400 % 7 := ⟨_, rfl⟩
    have eK : (T : Int) / 86400 % 7 = (K : Int) := by omega
    rw [← hK] at hk7 htake
    have s1 : IntKind.i64.wrap (3 * (K : Int)) = 3 * (K : Int) := IntWalk.i64_in _ (by omega)
    have s2 : IntKind.i64.wrap (3 * (K : Int) + 3) = 3 * (K : Int) + 3 := IntWalk.i64_in _ (by omega)
    have s5 : 0 ≤ 3 * (K : Int) := by omega
    have s6 : 3 * (K : Int) + 3 ≤ 21 := by omega
    have s9 : 3 * (K : Int) ≤ 3 * (K : Int) + 3 := by omega
    have hl31 : S1.length = 31 := hlen.out
    have hsz : (⟨S1.toArray⟩ : ByteArray).size = 31 := by rw [size_mk]; exact hl31
    go_wp2_with fail
    have hx : (⟨S1.toArray⟩ : ByteArray).extract 0 3 = ⟨(part3 wdays K).toArray⟩ := by
      apply ByteArray.ext
      rw [← htake.out]
      simp
    have hy0 : (⟨#[84, 104, 117, 70, 114, 105, 83, 97, 116, 83, 117, 110, 77, 111, 110, 84, 117, 101, 87, 101, 100]⟩ : ByteArray).extract (3 * (K : Int)).toNat (3 * (K : Int) + 3).toNat = ⟨(part3 wdays K).toArray⟩ := by
      rw [show (3 * (K : Int)).toNat = 3 * K from by omega, show (3 * (K : Int) + 3).toNat = 3 * K + 3 from by omega]
      apply ByteArray.ext
      simp [part3, wdays]
    have hy1 : (⟨#[84, 104, 117, 70, 114, 105, 83, 97, 116, 83, 117, 110, 77, 111, 110, 84, 117, 101, 87, 101, 100]⟩ : ByteArray).extract (3 * K) (3 * K + 3) = ⟨(part3 wdays K).toArray⟩ := by
      apply ByteArray.ext
      simp [part3, wdays]
    have hy2 : S1 = S2 ↔ M = 0 := hinj.out
    clear s5 s6 s9 hK
    have s5 : 0 ≤ 3 * (K : Int) := by omega
    have s6 : 3 * (K : Int) + 3 ≤ 21 := by omega
    have s9 : 3 * (K : Int) ≤ 3 * (K : Int) + 3 := by omega
    by_cases hM0 : M = 0
    · have hS := hy2.2 hM0
      subst hM0
      subst hS
      clear hy2
      go_region_held3 (fun w' => Below w3.heap.size w3 w') (first | exact (Below.refl _ _).drew | exact below_then (by assumption) (Below.size (by assumption)) hb4) (first | (go_at_call 11; refine (HD3.out _).mono ?_; intro e w4 h; obtain ⟨rfl, hb4⟩ := HP1.out _ _ _ h; clear h))
      all_goals (
        go_wp2
        go_ret
        refine ⟨rfl, ?_⟩
        have x1 := below_then HB1.out HB1.out.size HB2.out
        have x2 := below_then x1 x1.size HB3.out
        exact below_then x2 x2.size (by assumption))
    · have hb1 : (S1 == S2) = false := by rw [beq_eq_false_iff_ne]; exact fun h => hM0 (hy2.1 h)
      have hb2 : ((M : Int) == 0) = false := by rw [beq_eq_false_iff_ne]; omega
      clear hM0 hy2
      go_region_held3 (fun w' => Below w3.heap.size w3 w') (first | exact (Below.refl _ _).drew | exact below_then (by assumption) (Below.size (by assumption)) hb4) (first | (go_at_call 11; refine (HD3.out _).mono ?_; intro e w4 h; obtain ⟨rfl, hb4⟩ := HP1.out _ _ _ h; clear h))
      all_goals (
        go_wp2
        go_ret
        refine ⟨rfl, ?_⟩
        have x1 := below_then HB1.out HB1.out.size HB2.out
        have x2 := below_then x1 x1.size HB3.out
        exact below_then x2 x2.size (by assumption))
end Go.Proofs.YtfpcngoonfbphaaDoor
