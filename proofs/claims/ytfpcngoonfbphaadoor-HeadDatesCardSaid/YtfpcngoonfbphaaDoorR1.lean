/- The reference's Date. -/
import Derived.Test.YtfpcngoonfbphaaDoorH7
import Derived.Test.YtfpcngoonfbphaaDoorRDate
set_option linter.unusedVariables false
set_option linter.unusedSimpArgs false
namespace Go.Proofs.YtfpcngoonfbphaaDoor.RDate
open Go.RowKit Go.Proofs.YtfpcngoonfbphaaDoorW.PrintWords Go.Proofs.YtfpcngoonfbphaaDoor

theorem tdiv_nat (a b : Nat) : Int.tdiv (a : Int) (b : Int) = ((a / b : Nat) : Int) := rfl
theorem tmod_nat (a b : Nat) : Int.tmod (a : Int) (b : Int) = ((a % b : Nat) : Int) := rfl
theorem w64_nat (a : Nat) (h : a ≤ 9223372036854775807) : wrap64 (a : Int) = a := by
  unfold wrap64; omega
theorem leap_f (y : Nat) : mailbagref18_leap.f y = some (Pl.leap y) := by
  have e4 : Int.tmod (y : Int) 4 = ((y % 4 : Nat) : Int) := rfl
  have e1 : Int.tmod (y : Int) 100 = ((y % 100 : Nat) : Int) := rfl
  have e0 : Int.tmod (y : Int) 400 = ((y % 400 : Nat) : Int) := rfl
  unfold mailbagref18_leap.f Pl.leap
  rw [e4, e1, e0]
  by_cases h4 : y % 4 = 0
  · rw [if_pos (by omega)]
    by_cases h1 : y % 100 = 0
    · rw [if_pos (by omega)]
      congr 1
      rw [Bool.eq_iff_iff]
      simp
      omega
    · rw [if_neg (by omega)]
      simp [h4, h1]
  · rw [if_neg (by omega)]
    simp [h4]
theorem days_f (m y : Nat) (hm : m < 12) : mailbagref18_days.f m y = some (Pl.mlen y m : Int) := by
  unfold mailbagref18_days.f
  rw [leap_f]
  have hc : m = 0 ∨ m = 1 ∨ m = 2 ∨ m = 3 ∨ m = 4 ∨ m = 5 ∨ m = 6 ∨ m = 7 ∨ m = 8 ∨ m = 9 ∨ m = 10 ∨ m = 11 := by omega
  cases hl : Pl.leap y <;> rcases hc with rfl | rfl | rfl | rfl | rfl | rfl | rfl | rfl | rfl | rfl | rfl | rfl <;> simp [Pl.mlen, hl, rd]
theorem two_f (n : Nat) (hn : n ≤ 100000) : mailbagref18_two.f n = some ⟨(Pl.two n).toArray⟩ := by
  have e1 : Int.tdiv (n : Int) 10 = ((n / 10 : Nat) : Int) := rfl
  unfold mailbagref18_two.f
  rw [e1, w64_nat _ (by omega)]
  have e2 : Int.tmod ((n / 10 : Nat) : Int) 10 = ((n / 10 % 10 : Nat) : Int) := rfl
  have e3 : Int.tmod (n : Int) 10 = ((n % 10 : Nat) : Int) := rfl
  rw [e2, e3]
  rw [show (48 : Int) + ((n / 10 % 10 : Nat) : Int) = ((48 + n / 10 % 10 : Nat) : Int) from by omega, show (48 : Int) + ((n % 10 : Nat) : Int) = ((48 + n % 10 : Nat) : Int) from by omega, w64_nat _ (by omega), w64_nat _ (by omega)]
  congr 1
  unfold strOfNums Pl.two Pl.dig
  congr 2
  have q1 : ∀ k : Nat, UInt8.ofNat (((48 + k % 10 : Nat) : Int) % 256).toNat = (48 + k % 10).toUInt8 := by
    intro k
    rw [show (((48 + k % 10 : Nat) : Int) % 256).toNat = 48 + k % 10 from by omega]
  rw [List.map_cons, List.map_cons, List.map_nil, q1, q1]

theorem two_i (a : Int) (n : Nat) (ha : a = n) (hn : n ≤ 100000) : mailbagref18_two.f a = some ⟨(Pl.two n).toArray⟩ := by subst ha; exact two_f n hn
/-- The last lines. -/
theorem l1_end (K D M Y S : Nat) (x6 : ByteArray) (h6 : x6.size = 3) (hD : D < Pl.mlen Y M) (hM : M < 12) (hD2 : D ≤ 30) (hY : Y ≤ 9999) (hS : S < 86400) :
    mailbagref18_Date.l1 (K + 1) D S x6 Y M = some (x6 ++ ⟨([44, 32] ++ Pl.two (D + 1) ++ [32] ++ Pl.part3 Pl.monthsT M ++ [32] ++ Pl.four Y ++ [32] ++ Pl.two (S / 3600) ++ [58] ++ Pl.two (S / 60 % 60) ++ [58] ++ Pl.two (S % 60) ++ [32, 43, 48, 48, 48, 48]).toArray⟩) := by
  unfold mailbagref18_Date.l1
  rw [days_f M Y hM]
  simp only [Option.bind_some]
  rw [if_neg (by omega)]
  have e1 : wrap64 ((D : Int) + 1) = ((D + 1 : Nat) : Int) := by rw [show (D : Int) + 1 = ((D + 1 : Nat) : Int) from by omega]; exact w64_nat _ (by omega)
  have e2 : wrap64 (Int.tdiv (Y : Int) 100) = ((Y / 100 : Nat) : Int) := (w64_nat (Y / 100) (by omega))
  have e3 : wrap64 (Int.tdiv (S : Int) 3600) = ((S / 3600 : Nat) : Int) := (w64_nat (S / 3600) (by omega))
  have e4 : wrap64 (Int.tdiv (S : Int) 60) = ((S / 60 : Nat) : Int) := (w64_nat (S / 60) (by omega))
  have e5 : Int.tmod ((S / 60 : Nat) : Int) 60 = ((S / 60 % 60 : Nat) : Int) := rfl
  have e6 : Int.tmod (S : Int) 60 = ((S % 60 : Nat) : Int) := rfl
  rw [e1, e2, e3, e4, e5, e6]
  rw [two_f (D + 1) (by omega), two_f (Y / 100) (by omega), two_f Y (by omega), two_f (S / 3600) (by omega), two_f (S / 60 % 60) (by omega), two_f (S % 60) (by omega)]
  simp only [Option.bind_some]
  have z3 : ∀ n, (⟨(Pl.two n).toArray⟩ : ByteArray).size = 2 := fun n => rfl
  have zm : ∀ a b c : UInt8, (⟨#[a, b, c]⟩ : ByteArray).size = 3 := fun _ _ _ => rfl
  have z2 : ∀ a b : UInt8, (⟨#[a, b]⟩ : ByteArray).size = 2 := fun _ _ => rfl
  have z1 : ∀ a : UInt8, (⟨#[a]⟩ : ByteArray).size = 1 := fun _ => rfl
  have z6 : ∀ a b c d e f : UInt8, (⟨#[a, b, c, d, e, f]⟩ : ByteArray).size = 6 := fun _ _ _ _ _ _ => rfl
  have hc : M = 0 ∨ M = 1 ∨ M = 2 ∨ M = 3 ∨ M = 4 ∨ M = 5 ∨ M = 6 ∨ M = 7 ∨ M = 8 ∨ M = 9 ∨ M = 10 ∨ M = 11 := by omega
  rcases hc with rfl | rfl | rfl | rfl | rfl | rfl | rfl | rfl | rfl | rfl | rfl | rfl
  all_goals
    simp [rdOf, ByteArray.size_append, h6, z3, zm, z2, z1, z6]
    apply ByteArray.ext
    simp [Pl.part3, Pl.monthsT, Pl.four]

theorem l1_all (S M D Y : Nat) (x6 : ByteArray) (K : Nat) (hD : D < Pl.mlen Y M) (hM : M < 12) : ∀ (g j q : Nat), j + g = M → Pl.mbef Y j + q = Pl.mbef Y M + D → q ≤ 1000 →
    mailbagref18_Date.l1 (K + 1 + g) q S x6 Y j = mailbagref18_Date.l1 (K + 1) D S x6 Y M := by
  intro g
  induction g with
  | zero =>
    intro j q hj hq _
    obtain rfl : j = M := by omega
    obtain rfl : q = D := by omega
    rfl
  | succ g ih =>
    intro j q hj hq hb
    have h1 := Pl.mbef_succ Y j (by omega)
    have hge : Pl.mlen Y j ≤ q := by
      rcases Nat.lt_or_ge q (Pl.mlen Y j) with c | c
      · have := (Pl.month_uniq (by omega) hM hq c hD).1
        omega
      · exact c
    rw [show K + 1 + (g + 1) = (K + 1 + g) + 1 from by omega]
    rw [mailbagref18_Date.l1]
    rw [days_f j Y (by omega)]
    simp only [Option.bind_some]
    rw [if_pos (by omega)]
    rw [show (q : Int) - (Pl.mlen Y j : Nat) = ((q - Pl.mlen Y j : Nat) : Int) from by omega, show (j : Int) + 1 = ((j + 1 : Nat) : Int) from by omega, w64_nat _ (by omega), w64_nat _ (by omega)]
    exact ih (j + 1) (q - Pl.mlen Y j) (by omega) (by omega) (by omega)
theorem l0_all (S Y R : Nat) (x6 : ByteArray) (K : Nat) (hR : R < Pl.ylen Y) (hY : Y ≤ 9999) : ∀ (g y r : Nat), y + g = Y → Pl.bef y + r = Pl.bef Y + R → r ≤ 1000000 →
    mailbagref18_Date.l0 (K + 1 + g) r S x6 y = mailbagref18_Date.j3 K R S x6 Y := by
  intro g
  induction g with
  | zero =>
    intro y r hy hr _
    obtain rfl : y = Y := by omega
    obtain rfl : r = R := by omega
    show mailbagref18_Date.l0 (K + 1) r S x6 y = _
    rw [mailbagref18_Date.l0, leap_f]
    simp only [Option.bind_some]
    have hyl : Pl.ylen y = if Pl.leap y = true then 366 else 365 := rfl
    cases hl : Pl.leap y with
    | true => rw [hl] at hyl; simp at hyl; rw [if_pos rfl, if_pos (by omega)]
    | false => rw [hl] at hyl; simp at hyl; rw [if_neg (by simp), if_pos (by omega)]
  | succ g ih =>
    intro y r hy hr hb
    have h1 := Pl.bef_succ y
    have hyl : Pl.ylen y = if Pl.leap y = true then 366 else 365 := rfl
    have hge : Pl.ylen y ≤ r := by
      rcases Nat.lt_or_ge r (Pl.ylen y) with c | c
      · have := (Pl.year_uniq (by omega) c hR).1
        omega
      · exact c
    rw [show K + 1 + (g + 1) = (K + 1 + g) + 1 from by omega]
    rw [mailbagref18_Date.l0, leap_f]
    simp only [Option.bind_some]
    cases hl : Pl.leap y with
    | true =>
      rw [hl] at hyl
      simp at hyl
      rw [if_pos rfl, if_neg (by omega)]
      rw [show (r : Int) - 366 = ((r - 366 : Nat) : Int) from by omega, show (y : Int) + 1 = ((y + 1 : Nat) : Int) from by omega, w64_nat _ (by omega), w64_nat _ (by omega)]
      exact ih (y + 1) (r - 366) (by omega) (by omega) (by omega)
    | false =>
      rw [hl] at hyl
      simp at hyl
      rw [if_neg (by simp), if_neg (by omega)]
      rw [show (r : Int) - 365 = ((r - 365 : Nat) : Int) from by omega, show (y : Int) + 1 = ((y + 1 : Nat) : Int) from by omega, w64_nat _ (by omega), w64_nat _ (by omega)]
      exact ih (y + 1) (r - 365) (by omega) (by omega) (by omega)

theorem arith_f (N y m d Q : Nat) (hc : Pl.Civ N y m d) (hQ : N / 146097 = Q) : Pl.bef (1970 + 400 * Q) + N % 146097 = Pl.bef y + (Pl.mbef y m + d) := by
  have h401 : Pl.bef (1970 + 400 * Q) = 719528 + 146097 * Q := (Pl.bef_400 Q).trans (congrArg (· + 146097 * Q) (by decide))
  have hs := hc.sum
  rw [show Pl.bef 1970 = 719528 from by decide] at hs
  rw [h401]
  clear h401
  generalize Pl.bef y = B' at hs ⊢
  generalize Pl.mbef y m = B'' at hs ⊢
  clear hc
  omega
theorem w64_div (a b : Nat) (h : a / b ≤ 9223372036854775807) : wrap64 (Int.tdiv (a : Int) (b : Int)) = ((a / b : Nat) : Int) := by
  rw [show Int.tdiv (a : Int) (b : Int) = ((a / b : Nat) : Int) from Int.ofNat_tdiv a b]
  exact w64_nat _ h
theorem w64_mul (a b : Nat) (h : a * b ≤ 9223372036854775807) : wrap64 ((a : Int) * (b : Int)) = ((a * b : Nat) : Int) := by
  rw [← Int.natCast_mul]
  exact w64_nat _ h
theorem w64_add (a b : Nat) (h : a + b ≤ 9223372036854775807) : wrap64 ((a : Int) + (b : Int)) = ((a + b : Nat) : Int) := by
  rw [← Int.natCast_add]
  exact w64_nat _ h
theorem j1_f (T N Q S K y m d G : Nat) (hN : T / 86400 = N) (hS : T % 86400 = S) (hQ : N / 146097 = Q) (hNl : N ≤ 2932896) (hc : Pl.Civ N y m d) (hy : y ≤ 9999) (hG : 1970 + 400 * Q + G = y) (hK : N % 7 = K) :
    mailbagref18_Date.j1 ((m + 1 + 1) + 1 + G + 1) T = some ⟨(Pl.stamp K d m y S).toArray⟩ := by
  have hAr := Lib.hid (arith_f N y m d Q hc hQ)
  have hlt := Lib.hid hc.lt
  have hSl : S < 86400 := by omega
  rw [mailbagref18_Date.j1, Option.bind_some]
  have b1 : T / 86400 ≤ 9223372036854775807 := by omega
  have b3 : N / 146097 ≤ 9223372036854775807 := by omega
  have b6 : 400 * Q ≤ 9223372036854775807 := by omega
  have b7 : 1970 + 400 * Q ≤ 9223372036854775807 := by omega
  have hk : K < 7 := by omega
  have hrl : N % 146097 < 146097 := by omega
  have e1 : wrap64 (Int.tdiv (T : Int) 86400) = (N : Int) := (w64_div T 86400 b1).trans (by rw [hN])
  have e2 : Int.tmod (N : Int) 7 = (K : Int) := (Int.ofNat_tmod N 7).symm.trans (by rw [hK])
  have e3 : wrap64 (Int.tdiv (N : Int) 146097) = (Q : Int) := (w64_div N 146097 b3).trans (by rw [hQ])
  have e4 : Int.tmod (N : Int) 146097 = ((N % 146097 : Nat) : Int) := (Int.ofNat_tmod N 146097).symm
  have e5 : Int.tmod (T : Int) 86400 = (S : Int) := (Int.ofNat_tmod T 86400).symm.trans (by rw [hS])
  have e6 : wrap64 ((400 : Int) * (Q : Int)) = ((400 * Q : Nat) : Int) := w64_mul 400 Q b6
  have e7 : wrap64 ((1970 : Int) + ((400 * Q : Nat) : Int)) = ((1970 + 400 * Q : Nat) : Int) := w64_add 1970 (400 * Q) b7
  rw [e1, e2, e3, e4, e5, e6, e7]
  clear e1 e2 e3 e4 e5 e6 e7 b1 b3 b6 b7
  rw [if_pos (Int.natCast_nonneg K), if_pos (by exact Int.ofNat_lt.2 hk)]
  generalize N % 146097 = R0 at hAr hrl ⊢
  generalize hY0 : 1970 + 400 * Q = Y0 at *
  have hm1 := hc.mon
  have hd1 := hc.day
  have hd2 := hc.day_le
  have hyl := Pl.ylen_pos y
  clear hN hS hQ hK
  have hl0 := fun x6 => l0_all S y (Pl.mbef y m + d) x6 (m + 1 + 1) hlt.out hy G Y0 R0 hG hAr.out (by omega)
  rw [hl0]
  rw [mailbagref18_Date.j3]
  have hl1 := fun x6 => l1_all S m d y x6 0 hd1 hm1 m 0 (Pl.mbef y m + d) (by omega) (by rw [Pl.mbef_0, Nat.zero_add]) (by have := hlt.out; omega)
  rw [show 0 + 1 + m = m + 1 from by omega] at hl1
  rw [show ((0 : Nat) : Int) = 0 from rfl] at hl1
  rw [hl1]
  have hkc : K = 0 ∨ K = 1 ∨ K = 2 ∨ K = 3 ∨ K = 4 ∨ K = 5 ∨ K = 6 := by omega
  rw [l1_end 0 d m y S _ (by rcases hkc with rfl | rfl | rfl | rfl | rfl | rfl | rfl <;> rfl) hd1 hm1 hd2 hy hSl]
  congr 1
  apply ByteArray.ext
  rcases hkc with rfl | rfl | rfl | rfl | rfl | rfl | rfl <;> simp [rdOf, Pl.stamp, Pl.part3, Pl.wdays]
theorem start_year (N y m d Q : Nat) (hc : Pl.Civ N y m d) (hQ : N / 146097 = Q) : 1970 + 400 * Q ≤ y := by
  have h400 := Pl.bef_400 Q
  have hs := hc.sum
  have hlt := hc.lt
  have e0 : Pl.bef 1970 = 719528 := by decide
  rcases Nat.lt_or_ge y (1970 + 400 * Q) with c | c
  · have h2 : Pl.bef (y + 1) ≤ Pl.bef (1970 + 400 * Q) := Pl.bef_mono c
    have h3 := Pl.bef_succ y
    omega
  · exact c
theorem f_f (k : Nat) (t : Int) (T : Nat) (eT : (T : Int) = min (max t 0) 253402300799) : mailbagref18_Date.f (k + 1) t = mailbagref18_Date.j1 k T := by
  unfold mailbagref18_Date.f
  by_cases h0 : t < 0
  · rw [if_pos h0, mailbagref18_Date.j0, if_neg (by omega)]
    congr 1
    omega
  · rw [if_neg h0, mailbagref18_Date.j0]
    by_cases hh : t > 253402300799
    · rw [if_pos hh]
      congr 1
      omega
    · rw [if_neg hh]
      congr 1
      omega
theorem date_f (t : Int) : ∃ k y m d : Nat, Pl.Civ (clampT t / 86400) y m d ∧ mailbagref18_Date.f k t = some ⟨(Pl.stamp (clampT t / 86400 % 7) d m y (clampT t % 86400)).toArray⟩ := by
  obtain ⟨T, hT⟩ : ∃ T, T = clampT t := ⟨_, rfl⟩
  have eT : (T : Int) = min (max t 0) 253402300799 := by rw [hT]; unfold clampT; omega
  rw [← hT]
  have hTl : T ≤ 253402300799 := by omega
  obtain ⟨y, m, d, hc⟩ := Pl.exists_civ (T / 86400)
  have hy := hc.year_le (by omega)
  have hge := start_year _ y m d _ hc rfl
  obtain ⟨G, hG⟩ : ∃ G, 1970 + 400 * (T / 86400 / 146097) + G = y := ⟨y - (1970 + 400 * (T / 86400 / 146097)), by omega⟩
  refine ⟨((m + 1 + 1) + 1 + G + 1) + 1, y, m, d, hc, ?_⟩
  rw [f_f _ t T eT]
  exact j1_f T _ _ _ _ y m d G rfl rfl rfl (by omega) hc hy.2 hG rfl
theorem Date_calls (t : Int) (w : World) : Calls Tryd.prog 11 #[.int .i64 t] w (DatePost t w) := by
  obtain ⟨k, y, m, d, hc, hf⟩ := date_f t
  refine (mailbagref18_Date.calls k t _ w hf).mono ?_
  rintro e w' ⟨rfl, hb⟩
  exact ⟨y, m, d, hc, rfl, hb⟩
end Go.Proofs.YtfpcngoonfbphaaDoor.RDate
