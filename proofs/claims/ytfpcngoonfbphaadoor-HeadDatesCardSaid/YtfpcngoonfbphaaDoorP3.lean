/- Plain: dates' texts tell their dates apart. -/
import Derived.Test.YtfpcngoonfbphaaDoorP2
set_option linter.unusedVariables false
namespace Go.Proofs.YtfpcngoonfbphaaDoor.Pl
theorem dig_inj {a b : Nat} (h : dig a = dig b) : a % 10 = b % 10 := by
  unfold dig at h
  have h1 := congrArg UInt8.toNat h
  simp at h1
  omega
theorem two_inj {a b : Nat} (ha : a ≤ 99) (hb : b ≤ 99) (h : two a = two b) : a = b := by
  unfold two at h
  injection h with h1 h2
  injection h2 with h2 _
  have e1 := dig_inj h1
  have e2 := dig_inj h2
  omega
theorem two_mod (a : Nat) : two (a % 100) = two a := by
  have e1 : a % 100 / 10 % 10 = a / 10 % 10 := by omega
  have e2 : a % 100 % 10 = a % 10 := by omega
  simp [two, dig, e1, e2]
theorem four_inj {a b : Nat} (ha : a ≤ 9999) (hb : b ≤ 9999) (h : four a = four b) : a = b := by
  unfold four at h
  obtain ⟨h1, h2⟩ := List.append_inj h rfl
  have e1 := two_inj (by omega) (by omega) h1
  rw [← two_mod a, ← two_mod b] at h2
  have e2 := two_inj (by omega) (by omega) h2
  omega
theorem month_inj : ∀ a, a < 12 → ∀ b, b < 12 → part3 monthsT a = part3 monthsT b → a = b := by decide +kernel
theorem part3_w (k : Nat) (hk : k < 7) : (part3 wdays k).length = 3 := by
  have : k = 0 ∨ k = 1 ∨ k = 2 ∨ k = 3 ∨ k = 4 ∨ k = 5 ∨ k = 6 := by omega
  rcases this with rfl | rfl | rfl | rfl | rfl | rfl | rfl <;> rfl
theorem part3_m (k : Nat) (hk : k < 12) : (part3 monthsT k).length = 3 := by
  have : k = 0 ∨ k = 1 ∨ k = 2 ∨ k = 3 ∨ k = 4 ∨ k = 5 ∨ k = 6 ∨ k = 7 ∨ k = 8 ∨ k = 9 ∨ k = 10 ∨ k = 11 := by omega
  rcases this with rfl | rfl | rfl | rfl | rfl | rfl | rfl | rfl | rfl | rfl | rfl | rfl <;> rfl
theorem stamp_len {k d m y s : Nat} (hk : k < 7) (hm : m < 12) : (stamp k d m y s).length = 31 := by
  simp [stamp, part3_w k hk, part3_m m hm, two, four]
theorem stamp_take {k d m y s : Nat} (hk : k < 7) : (stamp k d m y s).take 3 = part3 wdays k := by
  unfold stamp
  simp only [List.append_assoc]
  rw [List.take_append_of_le_length (by rw [part3_w k hk]; omega), List.take_of_length_le (by rw [part3_w k hk]; omega)]
theorem stamp_inj {k d m y s k' d' m' y' s' : Nat} (hk : k < 7) (hk' : k' < 7) (hd : d ≤ 30) (hd' : d' ≤ 30) (hm : m < 12) (hm' : m' < 12) (hy : y ≤ 9999) (hy' : y' ≤ 9999) (hs : s < 86400) (hs' : s' < 86400)
    (h : stamp k d m y s = stamp k' d' m' y' s') : d = d' ∧ m = m' ∧ y = y' ∧ s = s' := by
  unfold stamp at h
  obtain ⟨h, _⟩ := List.append_inj' h rfl
  obtain ⟨h, a1⟩ := List.append_inj' h rfl
  obtain ⟨h, _⟩ := List.append_inj' h rfl
  obtain ⟨h, a2⟩ := List.append_inj' h rfl
  obtain ⟨h, _⟩ := List.append_inj' h rfl
  obtain ⟨h, a3⟩ := List.append_inj' h rfl
  obtain ⟨h, _⟩ := List.append_inj' h rfl
  obtain ⟨h, a4⟩ := List.append_inj' h rfl
  obtain ⟨h, _⟩ := List.append_inj' h rfl
  obtain ⟨h, a5⟩ := List.append_inj' h (by rw [part3_m m hm, part3_m m' hm'])
  obtain ⟨h, _⟩ := List.append_inj' h rfl
  obtain ⟨h, a6⟩ := List.append_inj' h rfl
  have e1 := two_inj (by omega) (by omega) a1
  have e2 := two_inj (by omega) (by omega) a2
  have e3 := two_inj (by omega) (by omega) a3
  have e4 := four_inj hy hy' a4
  have e5 := month_inj m hm m' hm' a5
  have e6 := two_inj (by omega) (by omega) a6
  exact ⟨by omega, e5, e4, by omega⟩
end Go.Proofs.YtfpcngoonfbphaaDoor.Pl
