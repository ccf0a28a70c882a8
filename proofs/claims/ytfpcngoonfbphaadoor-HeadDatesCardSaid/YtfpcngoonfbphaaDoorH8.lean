/- addr.Lower, head.Get, head.Hops. -/
import Derived.Test.YtfpcngoonfbphaaDoorH4
set_option linter.unusedVariables false
set_option linter.unusedSimpArgs false
namespace Go.Proofs.YtfpcngoonfbphaaDoor
open Go.RowKit Go.Proofs.YtfpcngoonfbphaaDoorW.PrintWords Go.Proofs.YtfpcngoonfbphaaDoor.Pl

namespace Pl
def lowB (c : UInt8) : UInt8 := if 65 ≤ c ∧ c ≤ 90 then c ||| 32 else c
def low (l : Bs) : Bs := l.map lowB
end Pl
/-- What Lower has written when it stands at k. -/
def lowAt (l : Bs) (k : Nat) : Bs := Pl.low (l.take k) ++ l.drop k
theorem lowAt_len (l : Bs) (k : Nat) : (lowAt l k).length = l.length := by simp [lowAt, Pl.low]; omega
theorem lowAt_get (l : Bs) (k : Nat) (h : k < l.length) : (lowAt l k)[k]'(by rw [lowAt_len]; exact h) = l[k] := by
  unfold lowAt
  rw [List.getElem_append_right (by simp [Pl.low]; omega)]
  simp [Pl.low, Nat.min_eq_left (Nat.le_of_lt h)]
theorem lowAt_step (l : Bs) (k : Nat) (h : k < l.length) : lowAt l (k + 1) = (lowAt l k).set k (Pl.lowB l[k]) := by
  unfold lowAt
  rw [List.set_append_right _ _ (by simp [Pl.low]; omega)]
  have e : k - (Pl.low (l.take k)).length = 0 := by simp [Pl.low]; omega
  rw [e, List.drop_eq_getElem_cons h, List.set_cons_zero]
  rw [List.take_succ_eq_append_getElem h]
  unfold Pl.low
  rw [List.map_append, List.append_assoc]
  rfl
theorem lowAt_same (l : Bs) (k : Nat) (h : k < l.length) (hc : Pl.lowB l[k] = l[k]) : lowAt l (k + 1) = lowAt l k := by
  rw [lowAt_step l k h, hc]
  conv => lhs; rw [← lowAt_get l k h]
  rw [List.set_getElem_self]
/-- A row that Lower writes: its cells, and that they may be written. -/
def LowW (W : World) (g : Nat) (l : Bs) : Prop := ∀ j (hj : j < l.length), W.cell? ⟨g, j, none⟩ = some (.int .u8 l[j].toNat) ∧ W.frozen? ⟨g, j, none⟩ = false
theorem LowW.store {W : World} {g : Nat} {l : Bs} (h : LowW W g l) (k : Nat) (hk : k < l.length) (c : UInt8) : LowW (W.setCell ⟨g, k, none⟩ (.int .u8 c.toNat)) g (l.set k c) := by
  intro j hj
  have hj' : j < l.length := by simpa using hj
  refine ⟨?_, by rw [World.frozen?_setCell]; exact (h j hj').2⟩
  by_cases e : j = k
  · subst e
    rw [World.cell?_setCell_same _ _ _ (h j hj').1]
    simp
  · rw [World.cell?_setCell_other _ _ _ _ (by intro q; injection q with _ q2; exact e q2.symm), (h j hj').1]
    rw [List.getElem_set_ne (by omega)]
theorem LowW.reads {W : World} {g : Nat} {l : Bs} (h : LowW W g l) (hm : l.length ≤ 9223372036854775807) : ReadsInt W .u8 (some ⟨g, 0, none⟩) l.length (i8 l) := by
  refine ⟨i8_len l, hm, fun _ => ⟨_, rfl, fun j hj => ?_⟩⟩
  rw [add_plain, (h j hj).1]
  simp [i8, List.getD_eq_getElem?_getD, List.getElem?_eq_getElem hj]
theorem conv_low (W : World) (s : Bs) : LowW (Lib.bytesWorld W 5 ⟨s.toArray⟩) W.heap.size s := by
  intro j hj
  refine ⟨?_, ?_⟩
  · rw [Lib.bytesWorld_cell W 5 ⟨s.toArray⟩ j (by rw [size_mk]; exact hj)]
    simp [List.getD_eq_getElem?_getD, List.getElem?_eq_getElem hj]
  · unfold World.frozen?
    rw [Lib.bytesWorld_at_new]
    have : j < (Lib.bytesCells W 5 ⟨s.toArray⟩).size := by
      unfold Lib.bytesCells
      rw [Array.size_append, Array.size_map]
      simp
      omega
    simp
    omega
theorem low_or : ∀ c : UInt8, 65 ≤ c.toNat → c.toNat ≤ 90 → (Pl.lowB c).toNat = c.toNat ||| 32 := by
  intro c h1 h2
  unfold Pl.lowB
  rw [if_pos (by simp only [UInt8.le_iff_toNat_le]; exact ⟨h1, h2⟩), UInt8.toNat_or]
  rfl
theorem or_bits : ∀ n, n < 91 → bits BinOp.or IntKind.u8 ((n : Nat) : Int) 32 = ((n ||| 32 : Nat) : Int) := by decide +kernel
theorem low_no : ∀ c : UInt8, (c.toNat < 65 ∨ 90 < c.toNat) → Pl.lowB c = c := by
  intro c h
  unfold Pl.lowB
  rw [if_neg (by simp only [UInt8.le_iff_toNat_le]; intro q; have q1 : 65 ≤ c.toNat := q.1; have q2 : c.toNat ≤ 90 := q.2; omega)]
set_option maxHeartbeats 1000000 in
theorem Lower_calls (s : Bs) (w : World) (hs : s.length ≤ 10000000) :
    Calls Tryd.prog 46 #[.string ⟨s.toArray⟩] w fun e w' => e = .returned (.string ⟨(Pl.low s).toArray⟩) ∧ Below w.heap.size w w' := by
  have kb := fun W => print_bytes (P := Tryd.prog) 9 26 5 Tryd.underlying9 Tryd.underlying26 Tryd.underlying5 ⟨s.toArray⟩ W
  have hsz := size_mk s
  have HL := Lib.hid (conv_low w s)
  have HB := Lib.hid (conv_below w ⟨s.toArray⟩)
  go_enter Tryd.func46, Tryd.ntmps46
  go_wp2
  go_loopw [10] (fun i wr => ∃ k : Nat, k ≤ s.length ∧ i = .int .i64 k ∧ Hid (LowW wr w.heap.size (lowAt s k) ∧ Below w.heap.size w wr)) (fun i _ => s.length - (intOf i).toNat)
  case atStart => exact ⟨0, Nat.zero_le _, rfl, Lib.hid ⟨HL.out, HB.out⟩⟩
  case round =>
    obtain ⟨k, hk, rfl, HR⟩ := hrel
    by_cases hlt : k < s.length
    · have hc : wr.cell? ⟨w.heap.size, k, none⟩ = some (.int .u8 s[k].toNat) := by
        have := (HR.out.1 k (by rw [lowAt_len]; exact hlt)).1
        rw [lowAt_get s k hlt] at this
        exact this
      have hz := (HR.out.1 k (by rw [lowAt_len]; exact hlt)).2
      have hlow := Lib.hid (low_or s[k])
      have hno := Lib.hid (low_no s[k])
      have hsame := Lib.hid (lowAt_same s k hlt)
      have hstep := Lib.hid (lowAt_step s k hlt)
      have hc256 : s[k].toNat < 256 := s[k].toNat_lt
      by_cases b1 : 65 ≤ s[k].toNat
      · have d1 : decide (65 ≤ (s[k].toNat : Int)) = true := decide_eq_true (by omega)
        by_cases b2 : s[k].toNat ≤ 90
        · have d2 : decide ((s[k].toNat : Int) ≤ 90) = true := decide_eq_true (by omega)
          go_wp2
          go_roundw
          case rel => exact ⟨k + 1, by omega, by go_num, Lib.hid ⟨by have h := HR.out.1.store k (by rw [lowAt_len]; exact hlt) (Pl.lowB s[k]); rw [← hstep.out, hlow.out (by omega) (by omega), ← or_bits _ (by omega)] at h; exact h, HR.out.2.setCell (Nat.le_refl _) _⟩⟩
          case measure => simp [intOf]; omega
        · have d2 : decide ((s[k].toNat : Int) ≤ 90) = false := decide_eq_false (by omega)
          go_wp2
          go_roundw
          case rel => exact ⟨k + 1, by omega, by go_num, Lib.hid ⟨by rw [hsame.out (hno.out (.inr (by omega)))]; exact HR.out.1, HR.out.2⟩⟩
          case measure => simp [intOf]; omega
      · have d1 : decide (65 ≤ (s[k].toNat : Int)) = false := decide_eq_false (by omega)
        go_wp2
        go_roundw
        case rel => exact ⟨k + 1, by omega, by go_num, Lib.hid ⟨by rw [hsame.out (hno.out (.inl (by omega)))]; exact HR.out.1, HR.out.2⟩⟩
        case measure => simp [intOf]; omega
    · have hcv : ∀ c, (convert 26 9 (.slice (some ⟨w.heap.size, 0, none⟩) s.length c)).run Tryd.prog wr = .ok (.string ⟨(Pl.low s).toArray⟩) wr := by
        intro c
        have e : lowAt s k = Pl.low s := by unfold lowAt; rw [List.take_of_length_le (by omega), List.drop_of_length_le (by omega), List.append_nil]
        have h := string_of_reads (c := c) (P := Tryd.prog) Tryd.underlying26 Tryd.underlying5 Tryd.underlying9 (HR.out.1.reads (by rw [lowAt_len]; omega))
        rw [lowAt_len, e, strOf_i8] at h
        exact h
      go_wp2
      go_ret
      exact ⟨rfl, HR.out.2⟩
end Go.Proofs.YtfpcngoonfbphaaDoor
