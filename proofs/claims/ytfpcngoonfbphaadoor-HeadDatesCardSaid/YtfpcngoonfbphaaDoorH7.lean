/- Dates: two, four, Date. -/
import Derived.Test.YtfpcngoonfbphaaDoorH6
import Derived.Test.YtfpcngoonfbphaaDoorShelf
set_option linter.unusedVariables false
set_option linter.unusedSimpArgs false
namespace Go.Proofs.YtfpcngoonfbphaaDoor
open Go.RowKit Go.Proofs.YtfpcngoonfbphaaDoorW.PrintWords

theorem dec_one : ∀ i, i < 10 → Lib.decDigits i = [Pl.dig i] := by decide +kernel
theorem Itoa_one (i : Nat) (hi : i < 10) (w : World) : Calls Tryd.prog 66 #[.int .i64 i] w fun e w' => e = .returned (.string ⟨#[Pl.dig i]⟩) ∧ w = w' := by
  refine (Tryd.strconv_Itoa_small i (by omega) w).mono ?_
  rintro e w' ⟨rfl, rfl⟩
  rw [dec_one i hi]
  exact ⟨rfl, rfl⟩
theorem dig_mod (n : Nat) : Pl.dig (n % 10) = Pl.dig n := by simp [Pl.dig]
set_option maxRecDepth 100000 in
theorem two_calls (n : Nat) (hn : n ≤ 99) (w : World) : Calls Tryd.prog 39 #[.int .i64 n] w fun e w' => e = .returned (.string ⟨(Pl.two n).toArray⟩) ∧ w = w' := by
  have h1 := Lib.hid (fun w => Itoa_one (n / 10) (by omega) w)
  have h2 := Lib.hid (fun w => Itoa_one (n % 10) (by omega) w)
  rw [show ((n / 10 : Nat) : Int) = (n : Int) / 10 from by omega] at h1
  rw [show ((n % 10 : Nat) : Int) = (n : Int) % 10 from by omega, dig_mod] at h2
  have tok1 : True := trivial
  go_enter Tryd.func39, Tryd.ntmps39
  go_wp2_with (first | (go_at_call 66; have _t := tok1; refine (h1.out _).mono ?_; rintro e w' ⟨rfl, rfl⟩; clear tok1 _t) | (go_at_call 66; refine (h2.out _).mono ?_; rintro e w' ⟨rfl, rfl⟩))
  go_ret
  exact ⟨ret_str (by apply ByteArray.ext; simp [Pl.two]), rfl⟩
set_option maxRecDepth 100000 in
theorem four_calls (n : Nat) (hn : n ≤ 9999) (w : World) : Calls Tryd.prog 40 #[.int .i64 n] w fun e w' => e = .returned (.string ⟨(Pl.four n).toArray⟩) ∧ w = w' := by
  have h1 := Lib.hid (fun w => two_calls (n / 100) (by omega) w)
  have h2 := Lib.hid (fun w => two_calls (n % 100) (by omega) w)
  have hF : Hid (Pl.two (n % 100) = Pl.two n) := Lib.hid (by
    have e1 : n % 100 / 10 % 10 = n / 10 % 10 := by omega
    have e2 : n % 100 % 10 = n % 10 := by omega
    simp [Pl.two, Pl.dig, e1, e2])
  rw [show ((n / 100 : Nat) : Int) = (n : Int) / 100 from by omega] at h1
  rw [show ((n % 100 : Nat) : Int) = (n : Int) % 100 from by omega, hF.out] at h2
  have tok1 : True := trivial
  go_enter Tryd.func40, Tryd.ntmps40
  go_wp2_with (first | (go_at_call 39; have _t := tok1; refine (h1.out _).mono ?_; rintro e w' ⟨rfl, rfl⟩; clear tok1 _t) | (go_at_call 39; refine (h2.out _).mono ?_; rintro e w' ⟨rfl, rfl⟩))
  go_ret
  exact ⟨ret_str (by apply ByteArray.ext; simp [Pl.four]), rfl⟩

/-- The time, as Date takes it. -/
def clampT (t : Int) : Nat := (min (max t 0) 253402300799).toNat
def DatePost (t : Int) (w : World) (e : Ending) (w' : World) : Prop :=
  ∃ y m d : Nat, Pl.Civ (clampT t / 86400) y m d ∧ e = .returned (.string ⟨(Pl.stamp (clampT t / 86400 % 7) d m y (clampT t % 86400)).toArray⟩) ∧ Below w.heap.size w w'

theorem two_i {n : Nat} (hn : n ≤ 99) {a : Int} (ha : a = (n : Int)) (w : World) : Calls Tryd.prog 39 #[.int .i64 a] w fun e w' => e = .returned (.string ⟨(Pl.two n).toArray⟩) ∧ w' = w := by
  subst ha
  exact (two_calls n hn w).mono (by rintro e w' ⟨rfl, rfl⟩; exact ⟨rfl, rfl⟩)
theorem four_i {n : Nat} (hn : n ≤ 9999) {a : Int} (ha : a = (n : Int)) (w : World) : Calls Tryd.prog 40 #[.int .i64 a] w fun e w' => e = .returned (.string ⟨(Pl.four n).toArray⟩) ∧ w' = w := by
  subst ha
  exact (four_calls n hn w).mono (by rintro e w' ⟨rfl, rfl⟩; exact ⟨rfl, rfl⟩)

theorem two_j (a : Int) (h0 : 0 ≤ a) (h1 : a ≤ 99) (w : World) : Calls Tryd.prog 39 #[.int .i64 a] w fun e w' => e = .returned (.string ⟨(Pl.two a.toNat).toArray⟩) ∧ w' = w := two_i (by omega) (by omega) w
theorem four_j (a : Int) (h0 : 0 ≤ a) (h1 : a ≤ 9999) (w : World) : Calls Tryd.prog 40 #[.int .i64 a] w fun e w' => e = .returned (.string ⟨(Pl.four a.toNat).toArray⟩) ∧ w' = w := four_i (by omega) (by omega) w

set_option maxHeartbeats 4000000 in
set_option maxRecDepth 1000000 in
theorem Date_calls (t : Int) (w : World) : Calls Tryd.prog 10 #[.int .i64 t] w (DatePost t w) := by
  obtain ⟨T, hT⟩ : ∃ T, T = clampT t := ⟨_, rfl⟩
  have eT : min (max t 0) 253402300799 = (T : Int) := by rw [hT]; unfold clampT; omega
  have hTl : T ≤ 253402300799 := by omega
  obtain ⟨S, hS⟩ : ∃ S, S = T % 86400 := ⟨_, rfl⟩
  obtain ⟨N, hN⟩ : ∃ N, N = T / 86400 := ⟨_, rfl⟩
  obtain ⟨K, hK⟩ : ∃ K, K = N % 7 := ⟨_, rfl⟩
  have eN : (T : Int) / 86400 = (N : Int) := by omega
  have eS : (T : Int) % 86400 = (S : Int) := by omega
  have eK : (N : Int) % 7 = (K : Int) := by omega
  have hNl : N ≤ 2932896 := by omega
  have hSl : S < 86400 := by omega
  have hKl : K < 7 := by omega
  have HD := Lib.hid (date_calls N hNl w)
  have HF : Hid (∀ e w', DatePost t w e w' = ∃ y m d : Nat, Pl.Civ N y m d ∧ e = .returned (.string ⟨(Pl.stamp K d m y S).toArray⟩) ∧ Below w.heap.size w w') := Lib.hid (by intro e w'; unfold DatePost; rw [← hT, ← hN, ← hS, ← hK])
  clear hT hTl hS hN hK
  go_enter Tryd.func10, Tryd.ntmps10
  go_wp2_with fail
  refine HD.out.mono ?_
  rintro e w1 ⟨y, m, d, hc, rfl, hb⟩
  have hy := hc.year_le hNl
  have hm := hc.mon
  have hd := hc.day_le
  have HC := Lib.hid (And.intro hc hb)
  clear hc hb HD
  rw [eS]
  clear eT eN eS
  go_wp2
  have s1 : IntKind.i64.wrap (3 * (K : Int)) = 3 * (K : Int) := IntWalk.i64_in _ (by omega)
  have s2 : IntKind.i64.wrap (3 * (K : Int) + 3) = 3 * (K : Int) + 3 := IntWalk.i64_in _ (by omega)
  have s3 : IntKind.i64.wrap (3 * (m : Int)) = 3 * (m : Int) := IntWalk.i64_in _ (by omega)
  have s4 : IntKind.i64.wrap (3 * (m : Int) + 3) = 3 * (m : Int) + 3 := IntWalk.i64_in _ (by omega)
  have s5 : 0 ≤ 3 * (K : Int) := by omega
  have s6 : 3 * (K : Int) + 3 ≤ 21 := by omega
  have s7 : 0 ≤ 3 * (m : Int) := by omega
  have s8 : 3 * (m : Int) + 3 ≤ 36 := by omega
  have s9 : 3 * (K : Int) ≤ 3 * (K : Int) + 3 := by omega
  have s10 : 3 * (m : Int) ≤ 3 * (m : Int) + 3 := by omega
  have z1 : ((⟨#[84, 104, 117, 70, 114, 105, 83, 97, 116, 83, 117, 110, 77, 111, 110, 84, 117, 101, 87, 101, 100]⟩ : ByteArray).extract (3 * (K : Int)).toNat (3 * (K : Int) + 3).toNat).size = 3 := by
    rw [ByteArray.size_extract]
    show min (3 * (K : Int) + 3).toNat 21 - (3 * (K : Int)).toNat = 3
    omega
  have z2 : ((⟨#[74, 97, 110, 70, 101, 98, 77, 97, 114, 65, 112, 114, 77, 97, 121, 74, 117, 110, 74, 117, 108, 65, 117, 103, 83, 101, 112, 79, 99, 116, 78, 111, 118, 68, 101, 99]⟩ : ByteArray).extract (3 * (m : Int)).toNat (3 * (m : Int) + 3).toNat).size = 3 := by
    rw [ByteArray.size_extract]
    show min (3 * (m : Int) + 3).toNat 36 - (3 * (m : Int)).toNat = 3
    omega
  have z3 : ∀ n, (⟨(Pl.two n).toArray⟩ : ByteArray).size = 2 := fun n => rfl
  have z4 : ∀ n, (⟨(Pl.four n).toArray⟩ : ByteArray).size = 4 := fun n => rfl
  go_quiet ((first | (go_at_call 40; exact Calls.quiet_of_same (four_j _ (by omega) (by omega) _)) | (go_at_call 39; exact Calls.quiet_of_same (two_j _ (by omega) (by omega) _))))
  go_wp2
  go_ret
  rw [HF.out]
  refine ⟨y, m, d, HC.out.1, ret_str ?_, pw_below_drewN HC.out.2 _⟩
  apply ByteArray.ext
  simp [Pl.stamp, Pl.part3, Pl.wdays, Pl.monthsT]
end Go.Proofs.YtfpcngoonfbphaaDoor
