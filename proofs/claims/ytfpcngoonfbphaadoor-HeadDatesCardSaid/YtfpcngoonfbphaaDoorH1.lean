/- Clone, Concat, HasSuffix, Whole. -/
import Derived.Test.YtfpcngoonfbphaaDoorK
import Derived.Test.YtfpcngoonfbphaaDoorWZeros
import Derived.WalkSpells
set_option linter.unusedVariables false
set_option linter.unusedSimpArgs false
namespace Go.Proofs.YtfpcngoonfbphaaDoor
open Go.RowKit Go.Proofs.YtfpcngoonfbphaaDoorW.PrintWords

def endsB (xs ys : List Int) : Bool := decide (ys.length ≤ xs.length) && ((strOfNums (xs.drop (xs.length - ys.length))).toList == (strOfNums ys).toList)

theorem Equal_calls (w : World) (A : Option Addr) (n c : Nat) (xs : List Int) (hr : ReadsInt w .u8 A n xs) (A' : Option Addr) (n' c' : Nat) (ys : List Int) (hr' : ReadsInt w .u8 A' n' ys) :
    Calls Tryd.prog 87 #[.slice A n c, .slice A' n' c'] w fun e w' => e = .returned (.bool ((strOfNums xs).toList == (strOfNums ys).toList)) ∧ w = w' := by
  have h1 := string_of_reads (P := Tryd.prog) (c := c) Tryd.underlying26 Tryd.underlying5 Tryd.underlying9 hr
  have h2 := string_of_reads (P := Tryd.prog) (c := c') Tryd.underlying26 Tryd.underlying5 Tryd.underlying9 hr'
  clear hr hr'
  go_enter Tryd.func87, Tryd.ntmps87
  go_wp2
  go_ret
  exact ⟨rfl, rfl⟩

theorem HasSuffix_calls (w : World) (A : Option Addr) (n c : Nat) (xs : List Int) (hr : ReadsInt w .u8 A n xs) (hnc : n ≤ c) (hn : n ≤ 1000000000) (A' : Option Addr) (n' c' : Nat) (ys : List Int) (hr' : ReadsInt w .u8 A' n' ys) (hn' : n' ≤ 1000000000) :
    Calls Tryd.prog 67 #[.slice A n c, .slice A' n' c'] w fun e w' => e = .returned (.bool (endsB xs ys)) ∧ w = w' := by
  have e1 := hr.1
  have e2 := hr'.1
  by_cases h : n' ≤ n
  · obtain ⟨m, hm⟩ : ∃ m, m = n - n' := ⟨_, rfl⟩
    obtain ⟨A1, hcut, hA1⟩ := print_cut (P := Tryd.prog) 26 5 .i64 Tryd.underlying26 hinfB hinfBs A n c m (by omega)
    have hr1 := hA1 w .u8 xs hnc hr
    have hE := Lib.hid (Equal_calls w A1 (n - m) (c - m) (xs.drop m) hr1 A' n' c' ys hr')
    have hF : Hid (endsB xs ys = ((strOfNums (xs.drop m)).toList == (strOfNums ys).toList)) := Lib.hid (by simp [endsB, e1, e2, h, hm])
    have hd : decide (n' ≤ n) = true := decide_eq_true h
    have hs : (n : Int) - (n' : Int) = (m : Int) := by omega
    clear hr hr' hr1 hA1 e1 e2
    have hm1 : m ≤ n := by omega
    clear hm
    go_enter Tryd.func67, Tryd.ntmps67
    go_wp2_with (go_at_call 87; refine hE.out.mono ?_; rintro e w' ⟨rfl, rfl⟩)
    go_ret
    exact ⟨ret_bool hF.out.symm, rfl⟩
  · have hF : Hid (endsB xs ys = false) := Lib.hid (by simp [endsB, e1, e2, h])
    have hd : decide (n' ≤ n) = false := decide_eq_false h
    clear hr hr' e1 e2
    go_enter Tryd.func67, Tryd.ntmps67
    go_wp2
    go_ret
    exact ⟨ret_bool hF.out.symm, rfl⟩

theorem Clone_calls (w : World) (A : Option Addr) (n c : Nat) (xs : List Int) (hr : ReadsInt w .u8 A n xs) (hn : n ≤ 1000000000) :
    Calls Tryd.prog 68 #[.slice A n c] w fun e w' => ∃ v, e = .returned v ∧ SB w' w.heap.size v xs ∧ Below w.heap.size w w' := by
  rcases A with _ | ad
  · have h0 : n = 0 := by
      rcases Nat.eq_zero_or_pos n with h0 | h0
      · exact h0
      · obtain ⟨ad, h, _⟩ := hr.2.2 h0
        cases h
    subst h0
    obtain rfl : xs = [] := List.eq_nil_of_length_eq_zero hr.1
    clear hr hn
    have he := Lib.run_eql_slice_nil (P := Tryd.prog) w 26 5 none 0 c 0 0 Tryd.underlying26
    go_enter Tryd.func68, Tryd.ntmps68
    go_wp2
    go_ret
    exact ⟨_, rfl, SB.nil _ _, Below.refl _ _⟩
  · have hB : Below w.heap.size w (w.alloc (.cells #[] 5)) := below_alloc (Below.refl _ _) _
    obtain ⟨v1, w1, hrun, ho, hg, ha, hb⟩ := appendR_run (w.alloc (.cells #[] 5)) w.heap.size _ [] (some ad) n c xs (own_empty w w.heap.size (Nat.le_refl _)) (hr.below hB) hB.size (by simp; omega)
    have HR := Lib.hid hrun
    have HQ := Lib.hid (And.intro ho hb)
    have he := Lib.run_eql_slice_nil (P := Tryd.prog) w 26 5 (some ad) n c 0 0 Tryd.underlying26
    clear hrun ho hb hg ha hr hn
    go_enter Tryd.func68, Tryd.ntmps68
    go_wp2_with (at_builtin; refine wpList_append_known rfl (.tmp 5) (.tmp 6) 26 26 rfl (.slice (some ⟨w.heap.size, 0, none⟩) 0 0) (.slice (some ad) n c) rfl rfl HR.out ?_)
    go_ret
    exact ⟨_, rfl, SB.of_own (by simpa using HQ.out.1), hB.trans HQ.out.2⟩

theorem zero_one (n : Nat) : ∀ u ∈ (Builtin.zeroCells (Value.int .u8 0).cells n).toList, u.oneCell' = true := by
  intro u hu
  have hr := Kd.reps_zeros (R := fun (x : Int) cs => cs = [.int .u8 0]) (z := .int .u8 0) (size := 1) (z0 := 0) rfl (by omega) rfl n
  obtain ⟨j, hj, rfl⟩ := List.mem_iff_getElem.1 hu
  have h1 := hr.1
  simp only [List.length_replicate, Nat.mul_one] at h1
  have h2 := hr.2 j 0 (by rw [List.getElem?_replicate]; simp; omega)
  rw [Nat.mul_one] at h2
  have h3 := congrArg List.head? h2
  rw [List.head?_take, if_neg (by decide), List.head?_drop, List.getElem?_eq_getElem hj] at h3
  injection h3 with h3
  rw [h3]
  rfl
theorem own_cut0 {W : World} {base g n cap : Nat} {ys : List Value} (h : W.ownsRow base 5 1 (.slice (some ⟨g, 0, none⟩) n cap) n ys) : OwnB W base (.slice (some ⟨g, 0, none⟩) 0 cap) [] := by
  rcases h.2 with ⟨e, _⟩ | ⟨k, cp, cur, e, h3, h4, h5, h6, h7, h8⟩
  · cases e
  · injection e with e1 e2 e3
    injection e1 with e1
    injection e1 with e1
    subst e1 e3
    exact ⟨rfl, .inr ⟨_, _, cur, rfl, h3, h4, Nat.zero_le _, h6, h7, by simp [nums]⟩⟩

theorem Grow_zero (w : World) : Calls Tryd.prog 70 #[.slice none 0 0, .int .i64 0] w fun e w' => e = .returned (.slice none 0 0) ∧ w = w' := by
  go_enter Tryd.func70, Tryd.ntmps70
  go_wp2
  go_ret
  exact ⟨rfl, rfl⟩
set_option maxRecDepth 1000000 in
theorem Grow_some (w : World) (n : Nat) (h0 : 0 < n) (hn : n ≤ 1000000000) :
    Calls Tryd.prog 70 #[.slice none 0 0, .int .i64 n] w fun e w' => ∃ v, e = .returned v ∧ OwnB w' w.heap.size v [] ∧ Below w.heap.size w w' := by
  obtain ⟨i0, hi, hzz⟩ := Option.map_eq_some_iff.1 infoB
  simp only [Prod.mk.injEq] at hzz
  obtain ⟨hz0, hz1, hz2⟩ := hzz
  obtain ⟨v1, w1, hr, ho, hg, ha⟩ := run_append_zeros (P := Tryd.prog) w w.heap.size 26 3 26 5 i0 (.int .u8 0) 1 1 Tryd.underlying26 Tryd.underlying3 hi hz0 hz1 hz2 rfl (by omega) (by omega) (.slice none 0 0) 0 [] (own_nil _ _ _ _) .i64 n
    (zero_one n) (by omega) (Nat.le_refl _)
  have hb : Below w.heap.size w w1 := (Below.refl _ _).grown hg (Nat.le_refl _) (by intro k hk; simp [Value.ownBlock] at hk)
  obtain ⟨g, cap, rfl, hgb, hgl⟩ := World.ownsRow.form ho (by omega)
  have hc := own_cut0 ho
  have HR := Lib.hid hr
  have HQ := Lib.hid (And.intro hc hb)
  clear hr ho hg ha hb hc hi hz0 hz1 hz2 hgb hgl
  have hd : decide (0 < (n : Int)) = true := decide_eq_true (by omega)
  have hn1 : (n : Int) ≤ 1000000000 := by omega
  clear hn
  go_enter Tryd.func70, Tryd.ntmps70
  go_wp2_with (at_builtin; refine wpList_append_known rfl (.tmp 20) (.tmp 21) 26 3 rfl (.slice none 0 0) (.int .i64 n) rfl rfl HR.out ?_)
  go_ret
  exact ⟨_, rfl, HQ.out.1, HQ.out.2⟩

/-- The parts that Concat joins: address, capacity, bytes. -/
abbrev Part := Option Addr × Nat × List Int
def Parts (W : World) (g : Nat) (ps : List Part) : Prop := ∀ (j : Nat) (p : Part), ps[j]? = some p → W.cell? ⟨g, j, none⟩ = some (.slice p.1 p.2.2.length p.2.1) ∧ ReadsInt W .u8 p.1 p.2.2.length p.2.2
theorem Parts.below {W W1 : World} {g : Nat} {ps : List Part} (h : Parts W g ps) (hb : Below W.heap.size W W1) : Parts W1 g ps := fun j p hj => ⟨pw_cell_below hb (h j p hj).1, (h j p hj).2.below hb⟩
def sumOf (ps : List Part) : Nat := (ps.map fun p => p.2.2.length).sum
def joinOf (ps : List Part) : List Int := ps.flatMap fun p => p.2.2
theorem sumOf_join (ps : List Part) : (joinOf ps).length = sumOf ps := by simp [joinOf, sumOf, List.length_flatMap]
theorem take_step {α : Type} {l : List α} {k : Nat} {x : α} (h : l[k]? = some x) : l.take (k + 1) = l.take k ++ [x] := by
  have hk := (List.getElem?_eq_some_iff.1 h).1
  rw [List.take_succ_eq_append_getElem hk, (List.getElem?_eq_some_iff.1 h).2]
theorem sum_take_le (ps : List Part) (k : Nat) : sumOf (ps.take k) ≤ sumOf ps := by
  have h : sumOf ps = sumOf (ps.take k) + sumOf (ps.drop k) := by
    conv => lhs; rw [← List.take_append_drop k ps]
    unfold sumOf
    rw [List.map_append, List.sum_append]
  omega

set_option maxHeartbeats 1000000 in
set_option maxRecDepth 1000000 in
theorem Concat_calls (w : World) (g : Nat) (ps : List Part) (hp : Parts w g ps) (hm : ps.length ≤ 1000) (hs : sumOf ps ≤ 1000000000) :
    Calls Tryd.prog 50 #[.slice (some ⟨g, 0, none⟩) ps.length ps.length] w fun e w' => ∃ v, e = .returned v ∧ OwnB w' w.heap.size v (joinOf ps) ∧ Below w.heap.size w w' := by
  have HP := Lib.hid hp
  clear hp
  go_enter Tryd.func50, Tryd.ntmps50
  go_wp2
  go_loop [3, 11] (fun sz i => ∃ k : Nat, k ≤ ps.length ∧ i = .int .i64 k ∧ sz = .int .i64 (sumOf (ps.take k) : Nat)) (fun _ i => ps.length - (intOf i).toNat)
  case atStart => exact ⟨0, Nat.zero_le _, rfl, rfl⟩
  case round =>
    obtain ⟨k, hk, rfl, rfl⟩ := hrel
    by_cases hlt : k < ps.length
    · obtain ⟨p, hpk⟩ : ∃ p, ps[k]? = some p := ⟨_, List.getElem?_eq_getElem hlt⟩
      obtain ⟨hc, _⟩ := HP.out k p hpk
      have hst : Hid (sumOf (ps.take (k + 1)) = sumOf (ps.take k) + p.2.2.length) := Lib.hid (by rw [take_step hpk]; simp [sumOf])
      have hle := sum_take_le ps (k + 1)
      rw [hst.out] at hle
      have hneg : decide (((sumOf (ps.take k) : Nat) : Int) + (p.2.2.length : Int) < 0) = false := decide_eq_false (by omega)
      have hneg' : decide ((((sumOf (ps.take k)) + p.2.2.length : Nat) : Int) < 0) = false := decide_eq_false (by omega)
      obtain ⟨pa, pc, px⟩ := p
      simp only at hst hle hneg hneg' hc
      clear hpk
      go_wp2
      go_round
      case rel => exact ⟨k + 1, by omega, by go_num, by rw [hst.out]; go_num⟩
      case measure => simp [intOf]; omega
    · have hkn : ps.take k = ps := List.take_of_length_le (by omega)
      rw [hkn]
      clear hkn
      obtain ⟨T, hT⟩ : ∃ T, T = sumOf ps := ⟨_, rfl⟩
      rw [← hT]
      rw [← hT] at hs
      have HG : Hid (Calls Tryd.prog 70 #[.slice none 0 0, .int .i64 T] w fun e w' => ∃ v, e = .returned v ∧ OwnB w' w.heap.size v [] ∧ Below w.heap.size w w') := by
        rcases Nat.eq_zero_or_pos T with h0 | h0
        · subst h0
          exact Lib.hid ((Grow_zero w).mono (by rintro e w' ⟨rfl, rfl⟩; exact ⟨_, rfl, own_nil _ _ _ _, Below.refl _ _⟩))
        · exact Lib.hid (Grow_some w T h0 hs)
      have hs' := Lib.hid hs
      have hT' := Lib.hid hT
      clear hs hT
      go_wp2_with (go_at_call 70; refine HG.out.mono ?_; rintro e w1 ⟨v0, rfl, ho1, hb1⟩; have HB1 := Lib.hid (And.intro ho1 hb1); clear ho1 hb1)
      go_loopw [6, 27] (fun v i wr => ∃ k : Nat, k ≤ ps.length ∧ i = .int .i64 k ∧ Hid (OwnB wr w.heap.size v (joinOf (ps.take k)) ∧ Below w.heap.size w wr)) (fun _ i _ => ps.length - (intOf i).toNat)
      case atStart => exact ⟨0, Nat.zero_le _, rfl, HB1⟩
      case round =>
        obtain ⟨k, hk, rfl, HR⟩ := hrel
        by_cases hlt : k < ps.length
        · obtain ⟨p, hpk⟩ : ∃ p, ps[k]? = some p := ⟨_, List.getElem?_eq_getElem hlt⟩
          obtain ⟨hc, hrd⟩ := (HP.out.below HR.out.2) k p hpk
          have hst : Hid (joinOf (ps.take (k + 1)) = joinOf (ps.take k) ++ p.2.2) := Lib.hid (by rw [take_step hpk]; simp [joinOf])
          have hle := sum_take_le ps (k + 1)
          rw [← sumOf_join, hst.out, List.length_append] at hle
          obtain ⟨v1, w2, hrun, ho, hg, ha, hb⟩ := appendR_run wr w.heap.size u6 _ p.1 p.2.2.length p.2.1 p.2.2 HR.out.1 hrd HR.out.2.size (by have := hs'.out; have := hT'.out; omega)
          have HA := Lib.hid hrun
          have HQ := Lib.hid (And.intro ho hb)
          obtain ⟨pa, pc, px⟩ := p
          simp only at hst hc HA HQ
          clear hpk hrun ho hg ha hb hrd hle
          go_wp2_with (at_builtin; refine wpList_append_known rfl (.tmp 31) (.tmp 32) 26 26 rfl u6 (.slice pa px.length pc) rfl rfl HA.out ?_)
          go_roundw
          case rel => exact ⟨k + 1, by omega, by go_num, Lib.hid ⟨by rw [hst.out]; exact HQ.out.1, HR.out.2.trans HQ.out.2⟩⟩
          case measure => simp [intOf]; omega
        · go_wp2
          go_ret
          refine ⟨_, rfl, ?_, HR.out.2⟩
          have := HR.out.1
          rwa [List.take_of_length_le (by omega)] at this
end Go.Proofs.YtfpcngoonfbphaaDoor
