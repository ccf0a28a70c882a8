/- Name. -/
import Derived.Test.YtfpcngoonfbphaaDoorH2
import Derived.Test.YtfpcngoonfbphaaDoorP1
set_option linter.unusedVariables false
set_option linter.unusedSimpArgs false
namespace Go.Proofs.YtfpcngoonfbphaaDoor
open Go.RowKit Go.Proofs.YtfpcngoonfbphaaDoorW.PrintWords Go.Proofs.YtfpcngoonfbphaaDoor.Pl

theorem size_mk (l : List UInt8) : (⟨l.toArray⟩ : ByteArray).size = l.length := by simp [ByteArray.size]
theorem eta_mk (s : ByteArray) : s = ⟨s.data.toList.toArray⟩ := by cases s; simp
theorem toList_mk (l : List UInt8) : (⟨l.toArray⟩ : ByteArray).toList = l := by
  rw [ByteArray.toList_eq]
theorem get_data (s : ByteArray) (k : Nat) (h : k < s.size) : s.data.toList[k]? = some s[k] := by
  have h' : k < s.data.toList.length := by rw [data_length]; exact h
  rw [List.getElem?_eq_getElem h']
  rfl




theorem name_no {l : List UInt8} {k : Nat} {c : UInt8} (h : l[k]? = some c) (hc : okC c = false) : nameOk l = false := by
  have : l.all okC = false := by
    rw [List.all_eq_false]
    exact ⟨c, List.mem_of_getElem? h, by simp [hc]⟩
  simp [nameOk, this]

set_option maxHeartbeats 1000000 in
theorem Name_calls (s : ByteArray) (w : World) (hs : s.size ≤ 10000000) :
    Calls Tryd.prog 20 #[.string s] w fun e w' => e = .returned (.bool (nameOk s.data.toList)) ∧ w = w' := by
  have hl : s.data.toList.length = s.size := data_length s
  go_enter Tryd.func20, Tryd.ntmps20
  go_wp2
  go_loop [6] (fun i => ∃ k : Nat, k ≤ s.size ∧ i = .int .i64 k ∧ Hid ((s.data.toList.take k).all okC = true)) (fun i => s.size - (intOf i).toNat)
  case atStart => exact ⟨0, Nat.zero_le _, rfl, Lib.hid (by simp)⟩
  case round =>
    obtain ⟨k, hk, rfl, HA⟩ := hrel
    by_cases hlt : k < s.size
    · have hg := Lib.hid (get_data s k hlt)
      have hc : s[k].toNat < 256 := s[k].toNat_lt
      by_cases b1 : s[k].toNat < 33
      · have d1 : decide ((s[k].toNat : Int) < 33) = true := decide_eq_true (by omega)
        have hn : Hid (nameOk s.data.toList = false) := Lib.hid (name_no hg.out (by simp [okC, UInt8.le_iff_toNat_le]; omega))
        go_wp2
        go_ret
        exact ⟨ret_bool hn.out.symm, rfl⟩
      have d1 : decide ((s[k].toNat : Int) < 33) = false := decide_eq_false (by omega)
      by_cases b2 : 126 < s[k].toNat
      · have d2 : decide (126 < (s[k].toNat : Int)) = true := decide_eq_true (by omega)
        have hn : Hid (nameOk s.data.toList = false) := Lib.hid (name_no hg.out (by simp [okC, UInt8.le_iff_toNat_le]; omega))
        go_wp2
        go_ret
        exact ⟨ret_bool hn.out.symm, rfl⟩
      have d2 : decide (126 < (s[k].toNat : Int)) = false := decide_eq_false (by omega)
      by_cases b3 : s[k].toNat = 58
      · have d3 : ((s[k].toNat : Int) == 58) = true := beq_iff_eq.2 (by omega)
        have hn : Hid (nameOk s.data.toList = false) := Lib.hid (name_no hg.out (by
          have : s[k] = 58 := UInt8.toNat_inj.1 (by rw [b3]; rfl)
          rw [this]; decide))
        clear b3
        go_wp2
        go_ret
        exact ⟨ret_bool hn.out.symm, rfl⟩
      have d3 : ((s[k].toNat : Int) == 58) = false := beq_eq_false_iff_ne.2 (by omega)
      have hok : Hid (okC s[k] = true) := Lib.hid (by
        have : s[k] ≠ 58 := fun h => b3 (by rw [h]; rfl)
        simp [okC, UInt8.le_iff_toNat_le, this]; omega)
      clear b3
      go_wp2
      go_round
      case rel => exact ⟨k + 1, by omega, by go_num, Lib.hid (by rw [take_step hg.out]; simp [HA.out, hok.out])⟩
      case measure => simp [intOf]; omega
    · have hall : Hid (s.data.toList.all okC = true) := Lib.hid (by have := HA.out; rwa [List.take_of_length_le (by omega)] at this)
      by_cases h0 : s.size = 0
      · have hn : Hid (nameOk s.data.toList = false) := Lib.hid (by
          have : s.data.toList = [] := List.eq_nil_of_length_eq_zero (by omega)
          simp [this, nameOk])
        have he : s.toList = [] := by rw [ByteArray.toList_eq]; exact List.eq_nil_of_length_eq_zero (by omega)
        go_wp2
        go_ret
        exact ⟨ret_bool hn.out.symm, rfl⟩
      · have hne : s.toList.isEmpty = false := by
          rw [ByteArray.toList_eq]
          cases h : s.data.toList with
          | nil => rw [h] at hl; simp at hl; omega
          | cons a b => rfl
        have hn : Hid (nameOk s.data.toList = decide ((s.size : Int) ≤ 76)) := Lib.hid (by
          have : s.data.toList.isEmpty = false := by have := hne; rwa [ByteArray.toList_eq] at this
          unfold nameOk
          rw [hall.out, this, hl]
          simp
          omega)
        go_wp2
        go_ret
        exact ⟨ret_bool hn.out.symm, rfl⟩
end Go.Proofs.YtfpcngoonfbphaaDoor
