/- Plain: dates. -/
import Derived.Lib.IndexMore
namespace Go.Proofs.YtfpcngoonfbphaaDoor.Pl
set_option linter.unusedVariables false
set_option linter.unusedSimpArgs false

def leap (y : Nat) : Bool := y % 4 == 0 && (y % 100 != 0 || y % 400 == 0)
def ylen (y : Nat) : Nat := if leap y = true then 366 else 365
/-- Days ahead of a year. -/
def bef (y : Nat) : Nat := 365 * y + (y + 3) / 4 + (y + 399) / 400 - (y + 99) / 100
theorem bef_succ (y : Nat) : bef (y + 1) = bef y + ylen y := by
  unfold bef ylen leap
  by_cases h4 : y % 4 = 0 <;> by_cases h1 : y % 100 = 0 <;> by_cases h0 : y % 400 = 0 <;> simp [h4, h1, h0] <;> omega
theorem bef_mono {a b : Nat} (h : a < b) : bef (a + 1) ≤ bef b := by
  induction b with
  | zero => omega
  | succ b ih =>
    rcases Nat.lt_or_ge a b with h' | h'
    · have := ih h'
      have := bef_succ b
      omega
    · obtain rfl : a = b := by omega
      exact Nat.le_refl _
theorem year_uniq {a b r s : Nat} (h : bef a + r = bef b + s) (hr : r < ylen a) (hs : s < ylen b) : a = b ∧ r = s := by
  have h1 := bef_succ a
  have h2 := bef_succ b
  rcases Nat.lt_trichotomy a b with c | c | c
  · have := bef_mono c; omega
  · subst c; exact ⟨rfl, by omega⟩
  · have := bef_mono c; omega
def yearGo : Nat → Nat → Nat → Nat × Nat
  | 0, y, n => (y, n)
  | F + 1, y, n => if n < ylen y then (y, n) else yearGo F (y + 1) (n - ylen y)
theorem ylen_pos (y : Nat) : 365 ≤ ylen y ∧ ylen y ≤ 366 := by unfold ylen; split <;> omega
theorem yearGo_spec : ∀ (F y n : Nat), n < F → bef (yearGo F y n).1 + (yearGo F y n).2 = bef y + n ∧ (yearGo F y n).2 < ylen (yearGo F y n).1 ∧ y ≤ (yearGo F y n).1
  | 0, y, n, h => by omega
  | F + 1, y, n, h => by
    unfold yearGo
    split
    · rename_i hlt; exact ⟨rfl, hlt, Nat.le_refl _⟩
    · have hp := ylen_pos y
      have ih := yearGo_spec F (y + 1) (n - ylen y) (by omega)
      have hb := bef_succ y
      exact ⟨by omega, ih.2.1, by omega⟩
def mlen (y m : Nat) : Nat := if m = 1 ∧ leap y = true then 29 else [31, 28, 31, 30, 31, 30, 31, 31, 30, 31, 30, 31].getD m 0
theorem mlen_le (y m : Nat) : mlen y m ≤ 31 := by
  unfold mlen
  split
  · omega
  · rcases Nat.lt_or_ge m 12 with h | h
    · have : m = 0 ∨ m = 1 ∨ m = 2 ∨ m = 3 ∨ m = 4 ∨ m = 5 ∨ m = 6 ∨ m = 7 ∨ m = 8 ∨ m = 9 ∨ m = 10 ∨ m = 11 := by omega
      rcases this with rfl | rfl | rfl | rfl | rfl | rfl | rfl | rfl | rfl | rfl | rfl | rfl <;> decide
    · rw [List.getD_eq_getElem?_getD, List.getElem?_eq_none (by simpa using h)]; decide
def mbef (y m : Nat) : Nat := [0, 31, 59, 90, 120, 151, 181, 212, 243, 273, 304, 334, 365].getD m 0 + (if 2 ≤ m ∧ leap y = true then 1 else 0)
theorem mbef_succ (y m : Nat) (h : m < 12) : mbef y (m + 1) = mbef y m + mlen y m := by
  unfold mbef mlen
  have : m = 0 ∨ m = 1 ∨ m = 2 ∨ m = 3 ∨ m = 4 ∨ m = 5 ∨ m = 6 ∨ m = 7 ∨ m = 8 ∨ m = 9 ∨ m = 10 ∨ m = 11 := by omega
  cases leap y <;> rcases this with rfl | rfl | rfl | rfl | rfl | rfl | rfl | rfl | rfl | rfl | rfl | rfl <;> rfl
theorem mbef_12 (y : Nat) : mbef y 12 = ylen y := by unfold mbef ylen; cases leap y <;> rfl
theorem mbef_0 (y : Nat) : mbef y 0 = 0 := by unfold mbef; simp
theorem mbef_mono (y : Nat) {a b : Nat} (h : a < b) (hb : b ≤ 12) : mbef y (a + 1) ≤ mbef y b := by
  induction b with
  | zero => omega
  | succ b ih =>
    rcases Nat.lt_or_ge a b with h' | h'
    · have := ih h' (by omega)
      have := mbef_succ y b (by omega)
      omega
    · obtain rfl : a = b := by omega
      exact Nat.le_refl _
theorem month_uniq {y a b r s : Nat} (ha : a < 12) (hb : b < 12) (h : mbef y a + r = mbef y b + s) (hr : r < mlen y a) (hs : s < mlen y b) : a = b ∧ r = s := by
  have h1 := mbef_succ y a ha
  have h2 := mbef_succ y b hb
  rcases Nat.lt_trichotomy a b with c | c | c
  · have := mbef_mono y c (by omega); omega
  · subst c; exact ⟨rfl, by omega⟩
  · have := mbef_mono y c (by omega); omega
/-- A day's year, month, day (all from 0, but the year). -/
structure Civ (n y m d : Nat) : Prop where
  sum : bef y + mbef y m + d = bef 1970 + n
  mon : m < 12
  day : d < mlen y m
theorem Civ.lt {n y m d : Nat} (h : Civ n y m d) : mbef y m + d < ylen y := by
  have h1 := mbef_succ y m h.mon
  have h2 := h.day
  have h3 := h.mon
  rcases Nat.lt_or_ge (m + 1) 12 with c | c
  · have := mbef_mono y c (Nat.le_refl _)
    have := mbef_12 y
    have := mbef_succ y (m + 1) c
    omega
  · obtain rfl : m = 11 := by omega
    have q1 : mbef y 12 = mbef y 11 + mlen y 11 := h1
    have q2 := mbef_12 y
    omega
theorem Civ.uniq {n y m d y' m' d' : Nat} (h : Civ n y m d) (h' : Civ n y' m' d') : y = y' ∧ m = m' ∧ d = d' := by
  have h1 := h.sum
  have h2 := h'.sum
  obtain ⟨rfl, e⟩ := year_uniq (r := mbef y m + d) (s := mbef y' m' + d') (by omega) h.lt h'.lt
  obtain ⟨rfl, rfl⟩ := month_uniq h.mon h'.mon e h.day h'.day
  exact ⟨rfl, rfl, rfl⟩
theorem Civ.inj {n n' y m d : Nat} (h : Civ n y m d) (h' : Civ n' y m d) : n = n' := by
  have h1 := h.sum
  have h2 := h'.sum
  omega
theorem Civ.year_le {n y m d : Nat} (h : Civ n y m d) (hn : n ≤ 2932896) : 1970 ≤ y ∧ y ≤ 9999 := by
  have h1 := h.sum
  have h2 := h.lt
  have h3 := bef_succ y
  have e0 : bef 1970 = 719528 := by decide
  have e1 : bef 10000 = 3652425 := by decide
  constructor
  · rcases Nat.lt_or_ge y 1970 with c | c
    · have := bef_mono c; omega
    · exact c
  · rcases Nat.lt_or_ge 9999 y with c | c
    · have q : bef 10000 ≤ bef y := bef_mono c
      rw [e1] at q
      omega
    · exact c
theorem Civ.day_le {n y m d : Nat} (h : Civ n y m d) : d ≤ 30 := by
  have h1 := h.day
  have h2 := h.mon
  unfold mlen at h1
  have : m = 0 ∨ m = 1 ∨ m = 2 ∨ m = 3 ∨ m = 4 ∨ m = 5 ∨ m = 6 ∨ m = 7 ∨ m = 8 ∨ m = 9 ∨ m = 10 ∨ m = 11 := by omega
  revert h1
  cases leap y <;> rcases this with rfl | rfl | rfl | rfl | rfl | rfl | rfl | rfl | rfl | rfl | rfl | rfl <;> simp <;> omega
theorem bef_400 (q : Nat) : bef (1970 + 400 * q) = bef 1970 + 146097 * q := by unfold bef; omega

/-! ### The text -/
def dig (n : Nat) : UInt8 := (48 + n % 10).toUInt8
def two (n : Nat) : List UInt8 := [dig (n / 10), dig n]
def four (n : Nat) : List UInt8 := two (n / 100) ++ two n
def wdays : List UInt8 := [84, 104, 117, 70, 114, 105, 83, 97, 116, 83, 117, 110, 77, 111, 110, 84, 117, 101, 87, 101, 100]
def monthsT : List UInt8 := [74, 97, 110, 70, 101, 98, 77, 97, 114, 65, 112, 114, 77, 97, 121, 74, 117, 110, 74, 117, 108, 65, 117, 103, 83, 101, 112, 79, 99, 116, 78, 111, 118, 68, 101, 99]
def part3 (l : List UInt8) (k : Nat) : List UInt8 := (l.drop (3 * k)).take 3
def stamp (k d m y s : Nat) : List UInt8 :=
  part3 wdays k ++ [44, 32] ++ two (d + 1) ++ [32] ++ part3 monthsT m ++ [32] ++ four y ++ [32] ++ two (s / 3600) ++ [58] ++ two (s / 60 % 60) ++ [58] ++ two (s % 60) ++ [32, 43, 48, 48, 48, 48]
theorem exists_civ (n : Nat) : ∃ y m d, Civ n y m d := by
  have h := yearGo_spec (n + 1) 1970 n (by omega)
  generalize (yearGo (n + 1) 1970 n).1 = y at h
  generalize (yearGo (n + 1) 1970 n).2 = r at h
  have : ∀ k, k ≤ 12 → ∃ m d, m < 12 ∧ d < mlen y m ∧ mbef y m + d = r ∨ mbef y k ≤ r := by
    intro k
    induction k with
    | zero => intro _; exact ⟨0, 0, .inr (by rw [mbef_0]; omega)⟩
    | succ k ih =>
      intro hk
      obtain ⟨m, d, h1⟩ := ih (by omega)
      rcases h1 with h1 | h1
      · exact ⟨m, d, .inl h1⟩
      · have := mbef_succ y k (by omega)
        rcases Nat.lt_or_ge r (mbef y (k + 1)) with c | c
        · exact ⟨k, r - mbef y k, .inl ⟨by omega, by omega, by omega⟩⟩
        · exact ⟨0, 0, .inr c⟩
  obtain ⟨m, d, h1⟩ := this 12 (Nat.le_refl _)
  have := mbef_12 y
  rcases h1 with h1 | h1
  · exact ⟨y, m, d, ⟨by omega, h1.1, h1.2.1⟩⟩
  · omega
end Go.Proofs.YtfpcngoonfbphaaDoor.Pl
