/- For every input the statement of YtfpcngoonfbphaaDoorRJ holds: XHx7, Sh3, XHx8, WJ, OP, RJ. -/
import Derived.Test.YtfpcngoonfbphaaDoorCJ1
import Derived.Test.YtfpcngoonfbphaaDoorCJ2
import Derived.Test.YtfpcngoonfbphaaDoorProg
import Derived.Test.YtfpcngoonfbphaaDoorWWords
import Derived.Deep.Slices
import Derived.ChangeArms
import Derived.DataElems
import Derived.Test.YtfpcngoonfbphaaDoorCards
import Derived.Test.YtfpcngoonfbphaaDoorTie
import Derived.SevenTiedAt
import Derived.WalkKit
import Derived.ProofKit
import Derived.OpenShut
import Derived.ShutString
import Derived.ChangeOld
import Derived.Below
/- Contracts of Go functions: for each function a Lean function with its answers, and the proof that the Go code comes to these. Written by wip/px.py of this session, upon the kit's printer. -/
namespace Go.Proofs.YtfpcngoonfbphaaDoor.XH
open Go.RowKit Go.Proofs.YtfpcngoonfbphaaDoorW.PrintWords Go.Proofs.YtfpcngoonfbphaaDoorW.PrintLast Go.Proofs.YtfpcngoonfbphaaDoorW.PrintMore
attribute [local go_sem] max2_int min2_int max_two min_two max_three min_three max_four min_four   -- for this text's walks alone
set_option linter.unusedVariables false
set_option linter.unusedSimpArgs false

/-! ### head_Name: function 20 -/
def head_Name.l0 : Nat → ByteArray → Int → Int → Option (Bool)
  | 0, _, _, _ => none
  | k + 1, x0, x5, x6 => if x6 < x5 then (if 0 ≤ x6 then (if x6 < (x0.size : Int) then (if (bt x0 x6) < 33 then (some false) else (if (bt x0 x6) > 126 then (some false) else (if (bt x0 x6) = 58 then (some false) else (head_Name.l0 k x0 x5 (wrap64 (x6 + 1)))))) else (none)) else (none)) else (if x0.toList = ([] : List UInt8) then (some false) else (some (decide ((x0.size : Int) ≤ 76))))
def head_Name.f (k : Nat) (a0 : ByteArray) : Option (Bool) := head_Name.l0 k a0 (a0.size : Int) 0
theorem head_Name.mono_l : ∀ k, (∀ y0 y1 y2, LeO (head_Name.l0 k y0 y1 y2) (head_Name.l0 (k + 1) y0 y1 y2))
  | 0 => fun _ _ _ r h => by simp [head_Name.l0] at h
  | k + 1 => by
    have ih0 := head_Name.mono_l k
    · intro y0 y1 y2
      unfold head_Name.l0
      repeat' first
      | (with_reducible exact ih0 _ _ _)
      | (with_reducible exact LeO.refl _)
      | (with_reducible exact LeO.none _)
      | (with_reducible refine LeO.ite ?_ ?_)
      | (with_reducible refine LeO.bind ?_ (fun _ => ?_))
      | exact ih0 _ _ _
      | exact LeO.none _
      | refine LeO.ite ?_ ?_
      | refine LeO.bind ?_ (fun _ => ?_)
theorem head_Name.mono : ∀ a0 k, LeO (head_Name.f k a0) (head_Name.f (k + 1) a0) := by
  intro a0 k
  have ih0 := head_Name.mono_l k
  unfold head_Name.f
  repeat' first
      | (with_reducible exact ih0 _ _ _)
      | (with_reducible exact LeO.refl _)
      | (with_reducible exact LeO.none _)
      | (with_reducible refine LeO.ite ?_ ?_)
      | (with_reducible refine LeO.bind ?_ (fun _ => ?_))
      | exact ih0 _ _ _
      | exact LeO.none _
      | refine LeO.ite ?_ ?_
      | refine LeO.bind ?_ (fun _ => ?_)
set_option maxHeartbeats 8000000 in
set_option maxRecDepth 100000 in
theorem head_Name.calls (k : Nat) (a0 : ByteArray) (r : Bool) (w : World) (h : head_Name.f k a0 = some r) :
    Calls Tryd.prog 20 #[.string a0] w fun e w' => e = .returned (.bool r) ∧ Drawn0 w w' := by
  have H : (head_Name.l0 k a0 (a0.size : Int) 0) = some r := h
  clear h
  have H' := Aside0.mk H
  clear H
  go_enter Tryd.func20, Tryd.ntmps20
  go_wp2
  go_loopg [6] k (fun kq v6 w' => ∃ (x6_1 : Int), v6 = .int .i64 x6_1 ∧ Aside0 (head_Name.l0 kq a0 (a0.size : Int) x6_1 = some r) ∧ Aside0 (kq ≤ k) ∧ Drawn0 w w')
  case atStart => exact ⟨(0), (by first | rfl | (simp; done) | (simp [*]; done)), H', ⟨Nat.le_refl _⟩, by repeat (first | exact Drawn0.refl _ | apply Drawn0.step)⟩
  case round =>
    clear H'
    obtain ⟨x6_1, rfl, HA, HK1, ⟨m1, rfl⟩⟩ := hrel
    cases gk with
    | zero => exact absurd HA.out (by simp [head_Name.l0])
    | succ k1 =>
      have H := HA.out
      clear HA
      simp only [head_Name.l0] at H
      by_cases c2 : x6_1 < (a0.size : Int)
      · rw [if_pos c2] at H
        have c2b0 : decide (x6_1 < (a0.size : Int)) = true := decide_eq_true c2
        clear c2
        by_cases c3 : 0 ≤ x6_1
        · rw [if_pos c3] at H
          have c3b0 : decide (0 ≤ x6_1) = true := decide_eq_true c3
          clear c3
          by_cases c4 : x6_1 < (a0.size : Int)
          · rw [if_pos c4] at H
            have c4b0 : decide (x6_1 < (a0.size : Int)) = true := decide_eq_true c4
            clear c4
            by_cases c6 : (bt a0 x6_1) < 33
            · rw [if_pos c6] at H
              have c6b0 : decide ((bt a0 x6_1) < 33) = true := decide_eq_true c6
              clear c6
              obtain rfl := Option.some.inj H
              have p5 : 0 ≤ (x6_1 : Int) := of_decide_eq_true (by first | (with_reducible assumption) | assumption)
              have q5 : x6_1 < (a0.size : Int) := of_decide_eq_true (by first | (with_reducible assumption) | assumption)
              have hx5 := bt_at a0 x6_1
              replace p5 := eq_true p5
              replace q5 := eq_true q5
              go_wp2
              go_ret
              exact ⟨by first | rfl | (simp; done) | (simp [*]; done), by repeat (first | exact Drawn0.refl _ | apply Drawn0.step)⟩
            · rw [if_neg c6] at H
              have c6b0 : decide ((bt a0 x6_1) < 33) = false := decide_eq_false c6
              clear c6
              by_cases c8 : (bt a0 x6_1) > 126
              · rw [if_pos c8] at H
                have c8b0 : decide (126 < (bt a0 x6_1)) = true := decide_eq_true c8
                clear c8
                obtain rfl := Option.some.inj H
                have p5 : 0 ≤ (x6_1 : Int) := of_decide_eq_true (by first | (with_reducible assumption) | assumption)
                have q5 : x6_1 < (a0.size : Int) := of_decide_eq_true (by first | (with_reducible assumption) | assumption)
                have hx5 := bt_at a0 x6_1
                replace p5 := eq_true p5
                replace q5 := eq_true q5
                have p7 : 0 ≤ (x6_1 : Int) := of_decide_eq_true (by first | (with_reducible assumption) | assumption)
                have q7 : x6_1 < (a0.size : Int) := of_decide_eq_true (by first | (with_reducible assumption) | assumption)
                have hx7 := bt_at a0 x6_1
                replace p7 := eq_true p7
                replace q7 := eq_true q7
                go_wp2
                go_ret
                exact ⟨by first | rfl | (simp; done) | (simp [*]; done), by repeat (first | exact Drawn0.refl _ | apply Drawn0.step)⟩
              · rw [if_neg c8] at H
                have c8b0 : decide (126 < (bt a0 x6_1)) = false := decide_eq_false c8
                clear c8
                by_cases c10 : (bt a0 x6_1) = 58
                · rw [if_pos c10] at H
                  have c10b0 : ((bt a0 x6_1) == 58) = true := beq_iff_eq.mpr c10
                  have c10b1 : ((bt a0 x6_1) != 58) = false := bne_eq_false_iff_eq.mpr c10
                  clear c10
                  obtain rfl := Option.some.inj H
                  have p5 : 0 ≤ (x6_1 : Int) := of_decide_eq_true (by first | (with_reducible assumption) | assumption)
                  have q5 : x6_1 < (a0.size : Int) := of_decide_eq_true (by first | (with_reducible assumption) | assumption)
                  have hx5 := bt_at a0 x6_1
                  replace p5 := eq_true p5
                  replace q5 := eq_true q5
                  have p7 : 0 ≤ (x6_1 : Int) := of_decide_eq_true (by first | (with_reducible assumption) | assumption)
                  have q7 : x6_1 < (a0.size : Int) := of_decide_eq_true (by first | (with_reducible assumption) | assumption)
                  have hx7 := bt_at a0 x6_1
                  replace p7 := eq_true p7
                  replace q7 := eq_true q7
                  have p9 : 0 ≤ (x6_1 : Int) := of_decide_eq_true (by first | (with_reducible assumption) | assumption)
                  have q9 : x6_1 < (a0.size : Int) := of_decide_eq_true (by first | (with_reducible assumption) | assumption)
                  have hx9 := bt_at a0 x6_1
                  replace p9 := eq_true p9
                  replace q9 := eq_true q9
                  go_wp2
                  go_ret
                  exact ⟨by first | rfl | (simp; done) | (simp [*]; done), by repeat (first | exact Drawn0.refl _ | apply Drawn0.step)⟩
                · rw [if_neg c10] at H
                  have c10b0 : ((bt a0 x6_1) == 58) = false := beq_eq_false_iff_ne.mpr c10
                  have c10b1 : ((bt a0 x6_1) != 58) = true := bne_iff_ne.mpr c10
                  have H' := Aside0.mk H
                  clear H
                  have p5 : 0 ≤ (x6_1 : Int) := of_decide_eq_true (by first | (with_reducible assumption) | assumption)
                  have q5 : x6_1 < (a0.size : Int) := of_decide_eq_true (by first | (with_reducible assumption) | assumption)
                  have hx5 := bt_at a0 x6_1
                  replace p5 := eq_true p5
                  replace q5 := eq_true q5
                  have p7 : 0 ≤ (x6_1 : Int) := of_decide_eq_true (by first | (with_reducible assumption) | assumption)
                  have q7 : x6_1 < (a0.size : Int) := of_decide_eq_true (by first | (with_reducible assumption) | assumption)
                  have hx7 := bt_at a0 x6_1
                  replace p7 := eq_true p7
                  replace q7 := eq_true q7
                  have p9 : 0 ≤ (x6_1 : Int) := of_decide_eq_true (by first | (with_reducible assumption) | assumption)
                  have q9 : x6_1 < (a0.size : Int) := of_decide_eq_true (by first | (with_reducible assumption) | assumption)
                  have hx9 := bt_at a0 x6_1
                  replace p9 := eq_true p9
                  replace q9 := eq_true q9
                  go_wp2
                  go_roundg k1
                  case measure => have := HK1.out; omega
                  case rel => exact ⟨(wrap64 (x6_1 + 1)), (by first | rfl | (simp; done) | (simp [*]; done)), H', ⟨by have := HK1.out; omega⟩, by repeat (first | exact Drawn0.refl _ | apply Drawn0.step)⟩
          · rw [if_neg c4] at H
            exact absurd H (by simp)
        · rw [if_neg c3] at H
          exact absurd H (by simp)
      · rw [if_neg c2] at H
        have c2b0 : decide (x6_1 < (a0.size : Int)) = false := decide_eq_false c2
        clear c2
        by_cases c11 : a0.toList = ([] : List UInt8)
        · rw [if_pos c11] at H
          have c11b0 : (a0.toList == ([] : List UInt8)) = true := beq_iff_eq.mpr c11
          have c11b1 : (a0.toList != ([] : List UInt8)) = false := bne_eq_false_iff_eq.mpr c11
          clear c11
          obtain rfl := Option.some.inj H
          go_wp2
          go_ret
          exact ⟨by first | rfl | (simp; done) | (simp [*]; done), by repeat (first | exact Drawn0.refl _ | apply Drawn0.step)⟩
        · rw [if_neg c11] at H
          have c11b0 : (a0.toList == ([] : List UInt8)) = false := beq_eq_false_iff_ne.mpr c11
          have c11b1 : (a0.toList != ([] : List UInt8)) = true := bne_iff_ne.mpr c11
          obtain rfl := Option.some.inj H
          go_wp2
          go_ret
          exact ⟨by first | rfl | (simp; done) | (simp [*]; done), by repeat (first | exact Drawn0.refl _ | apply Drawn0.step)⟩

/-! ### mailbaglaw18_HeadTexts: function 5 -/
def mailbaglaw18_HeadTexts.j0 : Nat → List Int → ByteArray → Bool → Option (Bool)
  | 0, _, _, _ => none
  | k + 1, x0, x1, x22 => if x22 = true then (some true) else ((head_Split.f x0).bind fun bt205 => ((mailbagref18_Split.f k x0).bind fun bt211 => ((head_Get.f k bt205.1 x1).bind fun bt217 => ((mailbagref18_Get.f k bt211.1 x1).bind fun bt219 => ((mailbaglaw18_same.f k bt205.1 bt211.1).bind fun t221 => (if t221 = true then (if (strOfNums bt205.2).toList = (strOfNums bt211.2).toList then (if bt217.1.toList = bt219.1.toList then (if bt217.2 = bt219.2 then ((head_Hops.f k bt205.1).bind fun t222 => ((mailbagref18_Hops.f k bt211.1).bind fun t223 => (if t222 = t223 then ((head_Name.f k x1).bind fun t224 => ((mailbagref18_Name.f k x1).bind fun t225 => (some (t224 == t225)))) else (some false)))) else (some false)) else (some false)) else (some false)) else (some false)))))))
def mailbaglaw18_HeadTexts.f (k : Nat) (l0 : List Int) (a1 : ByteArray) : Option (Bool) := (mailbaglaw18_known.f).bind fun t204 => (if t204 = true then (if (l0.length : Int) > 4096 then (mailbaglaw18_HeadTexts.j0 k l0 a1 true) else (mailbaglaw18_HeadTexts.j0 k l0 a1 (decide ((a1.size : Int) > 300)))) else (some false))
theorem mailbaglaw18_HeadTexts.mono_l : ∀ k, (∀ y0 y1 y2, LeO (mailbaglaw18_HeadTexts.j0 k y0 y1 y2) (mailbaglaw18_HeadTexts.j0 (k + 1) y0 y1 y2))
  | 0 => fun _ _ _ r h => by simp [mailbaglaw18_HeadTexts.j0] at h
  | k + 1 => by
    have ih0 := mailbaglaw18_HeadTexts.mono_l k
    · intro y0 y1 y2
      unfold mailbaglaw18_HeadTexts.j0
      repeat' first
      | (with_reducible exact ih0 _ _ _)
      | (with_reducible exact head_Get.mono _ _ _)
      | (with_reducible exact head_Hops.mono _ _)
      | (with_reducible exact head_Name.mono _ _)
      | (with_reducible exact mailbaglaw18_same.mono _ _ _)
      | (with_reducible exact mailbagref18_Get.mono _ _ _)
      | (with_reducible exact mailbagref18_Hops.mono _ _)
      | (with_reducible exact mailbagref18_Name.mono _ _)
      | (with_reducible exact mailbagref18_Split.mono _ _)
      | (with_reducible exact LeO.refl _)
      | (with_reducible exact LeO.none _)
      | (with_reducible refine LeO.ite ?_ ?_)
      | (with_reducible refine LeO.bind ?_ (fun _ => ?_))
      | exact ih0 _ _ _
      | exact head_Get.mono _ _ _
      | exact head_Hops.mono _ _
      | exact head_Name.mono _ _
      | exact mailbaglaw18_same.mono _ _ _
      | exact mailbagref18_Get.mono _ _ _
      | exact mailbagref18_Hops.mono _ _
      | exact mailbagref18_Name.mono _ _
      | exact mailbagref18_Split.mono _ _
      | exact LeO.none _
      | refine LeO.ite ?_ ?_
      | refine LeO.bind ?_ (fun _ => ?_)
theorem mailbaglaw18_HeadTexts.mono : ∀ a0 a1 k, LeO (mailbaglaw18_HeadTexts.f k a0 a1) (mailbaglaw18_HeadTexts.f (k + 1) a0 a1) := by
  intro a0 a1 k
  have ih0 := mailbaglaw18_HeadTexts.mono_l k
  unfold mailbaglaw18_HeadTexts.f
  repeat' first
      | (with_reducible exact ih0 _ _ _)
      | (with_reducible exact head_Get.mono _ _ _)
      | (with_reducible exact head_Hops.mono _ _)
      | (with_reducible exact head_Name.mono _ _)
      | (with_reducible exact mailbaglaw18_same.mono _ _ _)
      | (with_reducible exact mailbagref18_Get.mono _ _ _)
      | (with_reducible exact mailbagref18_Hops.mono _ _)
      | (with_reducible exact mailbagref18_Name.mono _ _)
      | (with_reducible exact mailbagref18_Split.mono _ _)
      | (with_reducible exact LeO.refl _)
      | (with_reducible exact LeO.none _)
      | (with_reducible refine LeO.ite ?_ ?_)
      | (with_reducible refine LeO.bind ?_ (fun _ => ?_))
      | exact ih0 _ _ _
      | exact head_Get.mono _ _ _
      | exact head_Hops.mono _ _
      | exact head_Name.mono _ _
      | exact mailbaglaw18_same.mono _ _ _
      | exact mailbagref18_Get.mono _ _ _
      | exact mailbagref18_Hops.mono _ _
      | exact mailbagref18_Name.mono _ _
      | exact mailbagref18_Split.mono _ _
      | exact LeO.none _
      | refine LeO.ite ?_ ?_
      | refine LeO.bind ?_ (fun _ => ?_)
set_option maxHeartbeats 8000000 in
set_option maxRecDepth 100000 in
theorem mailbaglaw18_HeadTexts.calls (k : Nat) (A0 : Option Addr) (c0 : Nat) (l0 : List Int) (a1 : ByteArray) (r : Bool) (w : World) (hr0 : Kd.C (Kd.int .u8) w A0 l0.length l0) (hc0 : l0.length ≤ c0) (hsh : w.ShapedOpen Tryd.prog) (h : mailbaglaw18_HeadTexts.f k l0 a1 = some r) :
    Calls Tryd.prog 5 #[.slice A0 l0.length c0, .string a1] w fun e w' => e = .returned (.bool r) ∧ Below w.heap.size w w' := by
  have HR0 := Aside0.mk hr0
  have HC0 := Aside0.mk hc0
  clear hr0 hc0
  have HB := Aside0.mk (Below.refl w.heap.size w)
  have HSH := Aside0.mk hsh
  clear hsh
  have H : ((mailbaglaw18_known.f).bind fun t204 => (if t204 = true then (if (l0.length : Int) > 4096 then (mailbaglaw18_HeadTexts.j0 k l0 a1 true) else (mailbaglaw18_HeadTexts.j0 k l0 a1 (decide ((a1.size : Int) > 300)))) else (some false))) = some r := h
  clear h
  replace H := Option.bind_eq_some_iff.mp H
  obtain ⟨t204, A30, H⟩ := H
  replace H : (if t204 = true then (if (l0.length : Int) > 4096 then (mailbaglaw18_HeadTexts.j0 k l0 a1 true) else (mailbaglaw18_HeadTexts.j0 k l0 a1 (decide ((a1.size : Int) > 300)))) else (some false)) = some r := H
  have A3 := Aside0.mk A30
  clear A30
  by_cases c4 : t204 = true
  · subst c4
    have H1 : (if (l0.length : Int) > 4096 then (mailbaglaw18_HeadTexts.j0 k l0 a1 true) else (mailbaglaw18_HeadTexts.j0 k l0 a1 (decide ((a1.size : Int) > 300)))) = some r := by rw [if_pos rfl] at H; exact H
    clear H
    have H := H1
    clear H1
    have HC5 := Aside0.mk H
    clear H
    go_enter Tryd.func5, Tryd.ntmps5
    go_upto_region 3 with (first | ((with_reducible refine gate_callee (f := 9) rfl ?_); refine goesL_ (some 13) rfl rfl Tryd.func9 (by kernel_rfl) rfl #[] rfl (by (try simp only [List.map_toArray, List.map_cons, List.map_nil]); first | done | rfl | (simp only [List.length_drop, List.length_take]; rfl)) ?_; (with_reducible refine (mailbaglaw18_known.calls  true _ ?side1 A3.out).mono ?_); (case side1 => exact shaped_below HSH.out (by repeat (first | (with_reducible first | exact HB.out | apply below_alloc | apply pw_below_drewN | apply below_drew1) | exact HB.out)) (Nat.le_refl _)); rintro e w6 ⟨rfl, hb⟩; refine ⟨_, rfl, ?_⟩; have n0_ := Aside0.mk (below_step (by repeat (first | (with_reducible first | exact HB.out | apply below_alloc | apply pw_below_drewN | apply below_drew1) | exact HB.out)) hb); clear HB; have HB := n0_; clear n0_; (try clear hb); (try clear hb2); (try clear hk); (try clear hi)))
    (try simp only [Act.put, List.setIfInBounds_toArray, List.set_cons_zero, List.set_cons_succ])
    go_cut [22] (fun v22 wc => ∃ (kq : Nat) (x22_4 : Bool), v22 = .bool x22_4 ∧ Aside0 (mailbaglaw18_HeadTexts.j0 kq l0 a1 x22_4 = some r) ∧ Aside0 (kq ≤ k) ∧ Aside0 (Below w.heap.size w wc))
    case first =>
      have H := HC5.out
      clear HC5
      by_cases c7 : (l0.length : Int) > 4096
      · rw [if_pos c7] at H
        have c7b0 : decide (4096 < (l0.length : Int)) = true := decide_eq_true c7
        have c7b1 : decide (4096 < l0.length) = true := decide_eq_true (by omega)
        clear c7
        (first | rw [c7b0] | (simp only [i64_w, i32_w]; rw [c7b0]) | skip)
        have H' := Aside0.mk H
        clear H
        go_wp2
        go_meet
        case rel => exact ⟨_, (true), (by first | rfl | (simp; done) | (simp [*]; done)), H', ⟨by first | omega | exact Nat.le_refl _⟩, ⟨by repeat (first | (with_reducible first | exact HB.out | apply below_alloc | apply pw_below_drewN | apply below_drew1) | exact HB.out)⟩⟩
      · rw [if_neg c7] at H
        have c7b0 : decide (4096 < (l0.length : Int)) = false := decide_eq_false c7
        have c7b1 : decide (4096 < l0.length) = false := decide_eq_false (by omega)
        clear c7
        (first | rw [c7b0] | (simp only [i64_w, i32_w]; rw [c7b0]) | skip)
        have H' := Aside0.mk H
        clear H
        go_wp2
        go_meet
        case rel => exact ⟨_, (decide ((a1.size : Int) > 300)), (by first | rfl | (simp; done) | (simp [*]; done)), H', ⟨by first | omega | exact Nat.le_refl _⟩, ⟨by repeat (first | (with_reducible first | exact HB.out | apply below_alloc | apply pw_below_drewN | apply below_drew1) | exact HB.out)⟩⟩
    case rest =>
      clear HC5
      try clear p2
      try clear c4
      try clear c5
      try clear c7
      try clear c7b0
      try clear c7b1
      obtain ⟨kq, x22_4, rfl, HA, HJ4, HB⟩ := hcut
      cases kq with
      | zero => exact absurd HA.out (by simp [mailbaglaw18_HeadTexts.j0])
      | succ kj4 =>
        have H := HA.out
        clear HA
        simp only [mailbaglaw18_HeadTexts.j0] at H
        by_cases c8 : x22_4 = true
        · subst c8
          have H1 : (some true) = some r := by rw [if_pos rfl] at H; exact H
          clear H
          have H := H1
          clear H1
          obtain rfl := Option.some.inj H
          go_wp2
          go_ret
          exact ⟨by first | rfl | (simp [errW_none, errW_some] <;> rfl) | (simp [*, errW_none, errW_some] <;> rfl), by repeat (first | (with_reducible first | exact HB.out | apply below_alloc | apply pw_below_drewN | apply below_drew1) | exact HB.out)⟩
        · replace c8 := Bool.eq_false_iff.mpr c8
          subst c8
          have H1 : ((head_Split.f l0).bind fun bt205 => ((mailbagref18_Split.f kj4 l0).bind fun bt211 => ((head_Get.f kj4 bt205.1 a1).bind fun bt217 => ((mailbagref18_Get.f kj4 bt211.1 a1).bind fun bt219 => ((mailbaglaw18_same.f kj4 bt205.1 bt211.1).bind fun t221 => (if t221 = true then (if (strOfNums bt205.2).toList = (strOfNums bt211.2).toList then (if bt217.1.toList = bt219.1.toList then (if bt217.2 = bt219.2 then ((head_Hops.f kj4 bt205.1).bind fun t222 => ((mailbagref18_Hops.f kj4 bt211.1).bind fun t223 => (if t222 = t223 then ((head_Name.f kj4 a1).bind fun t224 => ((mailbagref18_Name.f kj4 a1).bind fun t225 => (some (t224 == t225)))) else (some false)))) else (some false)) else (some false)) else (some false)) else (some false))))))) = some r := by rw [if_neg (show ¬ (false = true) by decide)] at H; exact H
          clear H
          have H := H1
          clear H1
          replace H := Option.bind_eq_some_iff.mp H
          obtain ⟨⟨t205, t208⟩, A90, H⟩ := H
          replace H : ((mailbagref18_Split.f kj4 l0).bind fun bt211 => ((head_Get.f kj4 t205 a1).bind fun bt217 => ((mailbagref18_Get.f kj4 bt211.1 a1).bind fun bt219 => ((mailbaglaw18_same.f kj4 t205 bt211.1).bind fun t221 => (if t221 = true then (if (strOfNums t208).toList = (strOfNums bt211.2).toList then (if bt217.1.toList = bt219.1.toList then (if bt217.2 = bt219.2 then ((head_Hops.f kj4 t205).bind fun t222 => ((mailbagref18_Hops.f kj4 bt211.1).bind fun t223 => (if t222 = t223 then ((head_Name.f kj4 a1).bind fun t224 => ((mailbagref18_Name.f kj4 a1).bind fun t225 => (some (t224 == t225)))) else (some false)))) else (some false)) else (some false)) else (some false)) else (some false)))))) = some r := H
          have A9 := Aside0.mk A90
          clear A90
          replace H := Option.bind_eq_some_iff.mp H
          obtain ⟨⟨t211, t212⟩, A100, H⟩ := H
          replace H : ((head_Get.f kj4 t205 a1).bind fun bt217 => ((mailbagref18_Get.f kj4 t211 a1).bind fun bt219 => ((mailbaglaw18_same.f kj4 t205 t211).bind fun t221 => (if t221 = true then (if (strOfNums t208).toList = (strOfNums t212).toList then (if bt217.1.toList = bt219.1.toList then (if bt217.2 = bt219.2 then ((head_Hops.f kj4 t205).bind fun t222 => ((mailbagref18_Hops.f kj4 t211).bind fun t223 => (if t222 = t223 then ((head_Name.f kj4 a1).bind fun t224 => ((mailbagref18_Name.f kj4 a1).bind fun t225 => (some (t224 == t225)))) else (some false)))) else (some false)) else (some false)) else (some false)) else (some false))))) = some r := H
          have A10 := Aside0.mk A100
          clear A100
          replace H := Option.bind_eq_some_iff.mp H
          obtain ⟨⟨t217, t218⟩, A110, H⟩ := H
          replace H : ((mailbagref18_Get.f kj4 t211 a1).bind fun bt219 => ((mailbaglaw18_same.f kj4 t205 t211).bind fun t221 => (if t221 = true then (if (strOfNums t208).toList = (strOfNums t212).toList then (if t217.toList = bt219.1.toList then (if t218 = bt219.2 then ((head_Hops.f kj4 t205).bind fun t222 => ((mailbagref18_Hops.f kj4 t211).bind fun t223 => (if t222 = t223 then ((head_Name.f kj4 a1).bind fun t224 => ((mailbagref18_Name.f kj4 a1).bind fun t225 => (some (t224 == t225)))) else (some false)))) else (some false)) else (some false)) else (some false)) else (some false)))) = some r := H
          have A11 := Aside0.mk A110
          clear A110
          replace H := Option.bind_eq_some_iff.mp H
          obtain ⟨⟨t219, t220⟩, A120, H⟩ := H
          replace H : ((mailbaglaw18_same.f kj4 t205 t211).bind fun t221 => (if t221 = true then (if (strOfNums t208).toList = (strOfNums t212).toList then (if t217.toList = t219.toList then (if t218 = t220 then ((head_Hops.f kj4 t205).bind fun t222 => ((mailbagref18_Hops.f kj4 t211).bind fun t223 => (if t222 = t223 then ((head_Name.f kj4 a1).bind fun t224 => ((mailbagref18_Name.f kj4 a1).bind fun t225 => (some (t224 == t225)))) else (some false)))) else (some false)) else (some false)) else (some false)) else (some false))) = some r := H
          have A12 := Aside0.mk A120
          clear A120
          replace H := Option.bind_eq_some_iff.mp H
          obtain ⟨t221, A130, H⟩ := H
          replace H : (if t221 = true then (if (strOfNums t208).toList = (strOfNums t212).toList then (if t217.toList = t219.toList then (if t218 = t220 then ((head_Hops.f kj4 t205).bind fun t222 => ((mailbagref18_Hops.f kj4 t211).bind fun t223 => (if t222 = t223 then ((head_Name.f kj4 a1).bind fun t224 => ((mailbagref18_Name.f kj4 a1).bind fun t225 => (some (t224 == t225)))) else (some false)))) else (some false)) else (some false)) else (some false)) else (some false)) = some r := H
          have A13 := Aside0.mk A130
          clear A130
          by_cases c14 : t221 = true
          · subst c14
            have H1 : (if (strOfNums t208).toList = (strOfNums t212).toList then (if t217.toList = t219.toList then (if t218 = t220 then ((head_Hops.f kj4 t205).bind fun t222 => ((mailbagref18_Hops.f kj4 t211).bind fun t223 => (if t222 = t223 then ((head_Name.f kj4 a1).bind fun t224 => ((mailbagref18_Name.f kj4 a1).bind fun t225 => (some (t224 == t225)))) else (some false)))) else (some false)) else (some false)) else (some false)) = some r := by rw [if_pos rfl] at H; exact H
            clear H
            have H := H1
            clear H1
            by_cases c15 : (strOfNums t208).toList = (strOfNums t212).toList
            · rw [if_pos c15] at H
              have c15b0 : ((strOfNums t208).toList == (strOfNums t212).toList) = true := beq_iff_eq.mpr c15
              have c15b1 : ((strOfNums t208).toList != (strOfNums t212).toList) = false := bne_eq_false_iff_eq.mpr c15
              clear c15
              by_cases c16 : t217.toList = t219.toList
              · rw [if_pos c16] at H
                have c16b0 : (t217.toList == t219.toList) = true := beq_iff_eq.mpr c16
                have c16b1 : (t217.toList != t219.toList) = false := bne_eq_false_iff_eq.mpr c16
                clear c16
                by_cases c17 : t218 = t220
                · rw [if_pos c17] at H
                  have c17b0 : (t218 == t220) = true := beq_iff_eq.mpr c17
                  have c17b1 : (t218 != t220) = false := bne_eq_false_iff_eq.mpr c17
                  clear c17
                  replace H := Option.bind_eq_some_iff.mp H
                  obtain ⟨t222, A180, H⟩ := H
                  replace H : ((mailbagref18_Hops.f kj4 t211).bind fun t223 => (if t222 = t223 then ((head_Name.f kj4 a1).bind fun t224 => ((mailbagref18_Name.f kj4 a1).bind fun t225 => (some (t224 == t225)))) else (some false))) = some r := H
                  have A18 := Aside0.mk A180
                  clear A180
                  replace H := Option.bind_eq_some_iff.mp H
                  obtain ⟨t223, A190, H⟩ := H
                  replace H : (if t222 = t223 then ((head_Name.f kj4 a1).bind fun t224 => ((mailbagref18_Name.f kj4 a1).bind fun t225 => (some (t224 == t225)))) else (some false)) = some r := H
                  have A19 := Aside0.mk A190
                  clear A190
                  by_cases c20 : t222 = t223
                  · rw [if_pos c20] at H
                    have c20b0 : (t222 == t223) = true := beq_iff_eq.mpr c20
                    have c20b1 : (t222 != t223) = false := bne_eq_false_iff_eq.mpr c20
                    clear c20
                    replace H := Option.bind_eq_some_iff.mp H
                    obtain ⟨t224, A210, H⟩ := H
                    replace H : ((mailbagref18_Name.f kj4 a1).bind fun t225 => (some (t224 == t225))) = some r := H
                    have A21 := Aside0.mk A210
                    clear A210
                    replace H := Option.bind_eq_some_iff.mp H
                    obtain ⟨t225, A220, H⟩ := H
                    replace H : (some (t224 == t225)) = some r := H
                    have A22 := Aside0.mk A220
                    clear A220
                    obtain rfl := Option.some.inj H
                    go_wp2_with (first | ((with_reducible refine gate_callee (f := 13) rfl ?_); refine goesL_ (some 25) rfl rfl Tryd.func13 (by kernel_rfl) rfl #[.slice A0 l0.length c0] rfl (by (try simp only [List.map_toArray, List.map_cons, List.map_nil]); first | done | rfl | (simp only [List.length_drop, List.length_take]; rfl)) ?_; (with_reducible refine (head_Split.calls _ _ l0 t205 t208 _ ?side1 ?side2 ?side3 A9.out).mono ?_); (case side1 => repeat (first | exact (Kd.C_below HR0.out HB.out) | (with_reducible refine Kd.C_alloc ?_ _) | (with_reducible refine Kd.C_drewN ?_ _) | (with_reducible refine Kd.C_drew ?_))); (case side2 => exact HC0.out); (case side3 => exact shaped_below HSH.out (by repeat (first | (with_reducible first | exact HB.out | apply below_alloc | apply pw_below_drewN | apply below_drew1) | exact HB.out)) (Nat.le_refl _)); rintro e w23 ⟨v206, v209, rfl, ho0, ho1, hb⟩; refine ⟨_, rfl, ?_⟩; have n0_ := Aside0.mk (Kd.R_lower (Kd.R_mono (ok' := fun k_ => True) ho0 (fun _ hk_ => trivial)) (below_size (by repeat (first | (with_reducible first | exact HB.out | apply below_alloc | apply pw_below_drewN | apply below_drew1) | exact HB.out)))); have n1_ := Aside0.mk (Kd.V_lower (Kd.V_mono (ok' := fun k_ => some k_ ≠ (v206 : Value).ownBlock) ho1 (fun k_ hk_ => hk_.2)) (below_size (by repeat (first | (with_reducible first | exact HB.out | apply below_alloc | apply pw_below_drewN | apply below_drew1) | exact HB.out)))); have n2_ := Aside0.mk (below_step (by repeat (first | (with_reducible first | exact HB.out | apply below_alloc | apply pw_below_drewN | apply below_drew1) | exact HB.out)) hb); clear HB; have HO207 := n0_; have HO210 := n1_; have HB := n2_; clear n0_ n1_ n2_; (try clear hb); (try clear hb2); (try clear hk); (try clear hi); (try clear ho0); (try clear ho1)) | ((with_reducible refine gate_callee (f := 15) rfl ?_); refine goesL_ (some 30) rfl rfl Tryd.func15 (by kernel_rfl) rfl #[.slice A0 l0.length c0] rfl (by (try simp only [List.map_toArray, List.map_cons, List.map_nil]); first | done | rfl | (simp only [List.length_drop, List.length_take]; rfl)) ?_; (with_reducible refine (mailbagref18_Split.calls kj4 _ _ l0 t211 t212 _ ?side1 ?side2 A10.out).mono ?_); (case side1 => repeat (first | exact (Kd.C_below HR0.out HB.out) | (with_reducible refine Kd.C_alloc ?_ _) | (with_reducible refine Kd.C_drewN ?_ _) | (with_reducible refine Kd.C_drew ?_))); (case side2 => exact HC0.out); rintro e w24 ⟨v213, v215, rfl, ho0, ho1, hb⟩; refine ⟨_, rfl, ?_⟩; have n0_ := Aside0.mk (Kd.R_below (by (with_reducible repeat (first | apply Kd.R_alloc | apply Kd.R_drewN | apply Kd.R_drew)); exact HO207.out) hb); have n1_ := Aside0.mk (Kd.V_mono (Kd.V_told (Kd.V_told (Kd.V_old (by (with_reducible repeat (first | apply Kd.V_alloc | apply Kd.V_drewN | apply Kd.V_drew)); exact HO210.out) hb) (Kd.R_base ho0)) (Kd.Q_base ho1)) (fun _ h_ => h_.1)); have n2_ := Aside0.mk (Kd.R_lower ho0 (below_size (by repeat (first | (with_reducible first | exact HB.out | apply below_alloc | apply pw_below_drewN | apply below_drew1) | exact HB.out)))); have n3_ := Aside0.mk (Kd.Q_lower ho1 (below_size (by repeat (first | (with_reducible first | exact HB.out | apply below_alloc | apply pw_below_drewN | apply below_drew1) | exact HB.out)))); have n4_ := Aside0.mk (below_step (by repeat (first | (with_reducible first | exact HB.out | apply below_alloc | apply pw_below_drewN | apply below_drew1) | exact HB.out)) hb); clear HO207; clear HO210; clear HB; have HO207 := n0_; have HO210 := n1_; have HO214 := n2_; have HO216 := n3_; have HB := n4_; clear n0_ n1_ n2_ n3_ n4_; (try clear hb); (try clear hb2); (try clear hk); (try clear hi); (try clear ho0); (try clear ho1); obtain ⟨Ao25, co25, eo25⟩ := Kd.R_slice HO207.out; subst eo25) | ((with_reducible refine gate_callee (f := 14) rfl ?_); refine goesL_ (some 36) rfl rfl Tryd.func14 (by kernel_rfl) rfl #[.slice Ao25 t205.length co25, .string a1] rfl (by (try simp only [List.map_toArray, List.map_cons, List.map_nil]); first | done | rfl | (simp only [List.length_drop, List.length_take]; rfl)) ?_; (with_reducible refine (head_Get.calls kj4 _ _ t205 a1 t217 t218 _ ?side1 ?side2 A11.out).mono ?_); (case side1 => repeat (first | exact (Kd.R_reads' HO207.out).2.2 | (with_reducible refine Kd.C_alloc ?_ _) | (with_reducible refine Kd.C_drewN ?_ _) | (with_reducible refine Kd.C_drew ?_))); (case side2 => exact (Kd.R_reads' HO207.out).2.1); rintro e w26 ⟨rfl, hb⟩; refine ⟨_, rfl, ?_⟩; have n0_ := Aside0.mk (Kd.R_below (by (with_reducible repeat (first | apply Kd.R_alloc | apply Kd.R_drewN | apply Kd.R_drew)); exact HO207.out) hb); have n1_ := Aside0.mk (Kd.V_below (by (with_reducible repeat (first | apply Kd.V_alloc | apply Kd.V_drewN | apply Kd.V_drew)); exact HO210.out) hb); have n2_ := Aside0.mk (Kd.R_below (by (with_reducible repeat (first | apply Kd.R_alloc | apply Kd.R_drewN | apply Kd.R_drew)); exact HO214.out) hb); have n3_ := Aside0.mk (Kd.Q_below (by (with_reducible repeat (first | apply Kd.Q_alloc | apply Kd.Q_drewN | apply Kd.Q_drew)); exact HO216.out) hb); have n4_ := Aside0.mk (below_step (by repeat (first | (with_reducible first | exact HB.out | apply below_alloc | apply pw_below_drewN | apply below_drew1) | exact HB.out)) hb); clear HO207; clear HO210; clear HO214; clear HO216; clear HB; have HO207 := n0_; have HO210 := n1_; have HO214 := n2_; have HO216 := n3_; have HB := n4_; clear n0_ n1_ n2_ n3_ n4_; (try clear hb); (try clear hb2); (try clear hk); (try clear hi); obtain ⟨Ao27, co27, eo27⟩ := Kd.R_slice HO214.out; subst eo27) | ((with_reducible refine gate_callee (f := 16) rfl ?_); refine goesL_ (some 42) rfl rfl Tryd.func16 (by kernel_rfl) rfl #[.slice Ao27 t211.length co27, .string a1] rfl (by (try simp only [List.map_toArray, List.map_cons, List.map_nil]); first | done | rfl | (simp only [List.length_drop, List.length_take]; rfl)) ?_; (with_reducible refine (mailbagref18_Get.calls kj4 _ _ t211 a1 t219 t220 _ ?side1 ?side2 A12.out).mono ?_); (case side1 => repeat (first | exact (Kd.R_reads' HO214.out).2.2 | (with_reducible refine Kd.C_alloc ?_ _) | (with_reducible refine Kd.C_drewN ?_ _) | (with_reducible refine Kd.C_drew ?_))); (case side2 => exact (Kd.R_reads' HO214.out).2.1); rintro e w28 ⟨rfl, hb⟩; refine ⟨_, rfl, ?_⟩; have n0_ := Aside0.mk (Kd.R_below (by (with_reducible repeat (first | apply Kd.R_alloc | apply Kd.R_drewN | apply Kd.R_drew)); exact HO207.out) hb); have n1_ := Aside0.mk (Kd.V_below (by (with_reducible repeat (first | apply Kd.V_alloc | apply Kd.V_drewN | apply Kd.V_drew)); exact HO210.out) hb); have n2_ := Aside0.mk (Kd.R_below (by (with_reducible repeat (first | apply Kd.R_alloc | apply Kd.R_drewN | apply Kd.R_drew)); exact HO214.out) hb); have n3_ := Aside0.mk (Kd.Q_below (by (with_reducible repeat (first | apply Kd.Q_alloc | apply Kd.Q_drewN | apply Kd.Q_drew)); exact HO216.out) hb); have n4_ := Aside0.mk (below_step (by repeat (first | (with_reducible first | exact HB.out | apply below_alloc | apply pw_below_drewN | apply below_drew1) | exact HB.out)) hb); clear HO207; clear HO210; clear HO214; clear HO216; clear HB; have HO207 := n0_; have HO210 := n1_; have HO214 := n2_; have HO216 := n3_; have HB := n4_; clear n0_ n1_ n2_ n3_ n4_; (try clear hb); (try clear hb2); (try clear hk); (try clear hi)) | ((with_reducible refine gate_callee (f := 17) rfl ?_); refine goesL_ (some 47) rfl rfl Tryd.func17 (by kernel_rfl) rfl #[.slice Ao25 t205.length co25, .slice Ao27 t211.length co27] rfl (by (try simp only [List.map_toArray, List.map_cons, List.map_nil]); first | done | rfl | (simp only [List.length_drop, List.length_take]; rfl)) ?_; (with_reducible refine (mailbaglaw18_same.calls kj4 _ _ t205 _ _ t211 true _ ?side1 ?side2 ?side3 ?side4 A13.out).mono ?_); (case side1 => repeat (first | exact (Kd.R_reads' HO207.out).2.2 | (with_reducible refine Kd.C_alloc ?_ _) | (with_reducible refine Kd.C_drewN ?_ _) | (with_reducible refine Kd.C_drew ?_))); (case side2 => exact (Kd.R_reads' HO207.out).2.1); (case side3 => repeat (first | exact (Kd.R_reads' HO214.out).2.2 | (with_reducible refine Kd.C_alloc ?_ _) | (with_reducible refine Kd.C_drewN ?_ _) | (with_reducible refine Kd.C_drew ?_))); (case side4 => exact (Kd.R_reads' HO214.out).2.1); rintro e w' ⟨rfl, ⟨nd, rfl⟩⟩; refine ⟨_, rfl, ?_⟩; (try (rw [drewN_self w28]; generalize hq_ : World.drewN w28 _ = w28; have n0_ : Aside0 (Kd.R k34 34 w28 w.heap.size (fun _ => True) (.slice Ao25 t205.length co25) t205) := ⟨by rw [← hq_]; exact (by (with_reducible repeat (first | apply Kd.R_alloc | apply Kd.R_drewN | apply Kd.R_drew)); exact HO207.out)⟩; have n1_ : Aside0 (Kd.V (Kd.int .u8) 5 w28 w.heap.size (fun k_ => some k_ ≠ (.slice Ao25 t205.length co25 : Value).ownBlock ∧ some k_ ≠ (.slice Ao27 t211.length co27 : Value).ownBlock ∧ some k_ ≠ (v215 : Value).ownBlock) v209 t208) := ⟨by rw [← hq_]; exact (by (with_reducible repeat (first | apply Kd.V_alloc | apply Kd.V_drewN | apply Kd.V_drew)); exact Kd.V_mono HO210.out (fun _ hk => ⟨hk.1.1, ⟨hk.1.2, hk.2⟩⟩))⟩; have n2_ : Aside0 (Kd.R k68 68 w28 w.heap.size (fun _ => True) (.slice Ao27 t211.length co27) t211) := ⟨by rw [← hq_]; exact (by (with_reducible repeat (first | apply Kd.R_alloc | apply Kd.R_drewN | apply Kd.R_drew)); exact HO214.out)⟩; have n3_ : Aside0 (Kd.Q (Kd.int .u8) 5 w28 w.heap.size (fun _ => True) v215 t212) := ⟨by rw [← hq_]; exact (by (with_reducible repeat (first | apply Kd.Q_alloc | apply Kd.Q_drewN | apply Kd.Q_drew)); exact HO216.out)⟩; have n4_ : Aside0 (Below w.heap.size w w28) := ⟨by rw [← hq_]; exact (by repeat (first | (with_reducible first | exact HB.out | apply below_alloc | apply pw_below_drewN | apply below_drew1) | exact HB.out))⟩; clear HO207 HO210 HO214 HO216 HB hq_; have HO207 := n0_; have HO210 := n1_; have HO214 := n2_; have HO216 := n3_; have HB := n4_; clear n0_ n1_ n2_ n3_ n4_)); obtain ⟨Ao29, co29, eo29⟩ := Kd.V_slice HO210.out; subst eo29; have hcv30 := Kd.C_string (P := Tryd.prog) (A := Ao29) (c := co29) Tryd.underlying26 Tryd.underlying5 Tryd.underlying9 (Kd.V_reads' HO210.out).2.2; obtain ⟨Ao31, co31, eo31, _⟩ := Kd.Q_slice HO216.out; subst eo31; have hcv32 := Kd.C_string (P := Tryd.prog) (A := Ao31) (c := co31) Tryd.underlying26 Tryd.underlying5 Tryd.underlying9 (Kd.Q_reads' HO216.out).2.2) | (go_at_call 18; (with_reducible refine (head_Hops.calls kj4 _ _ t205 t222 _ ?side1 ?side2 A18.out).mono ?_); (case side1 => repeat (first | exact (Kd.R_reads' HO207.out).2.2 | (with_reducible refine Kd.C_alloc ?_ _) | (with_reducible refine Kd.C_drewN ?_ _) | (with_reducible refine Kd.C_drew ?_))); (case side2 => exact (Kd.R_reads' HO207.out).2.1); rintro e w33 ⟨rfl, hb⟩; have n0_ := Aside0.mk (Kd.R_below (by (with_reducible repeat (first | apply Kd.R_alloc | apply Kd.R_drewN | apply Kd.R_drew)); exact HO207.out) hb); have n1_ := Aside0.mk (Kd.V_below (by (with_reducible repeat (first | apply Kd.V_alloc | apply Kd.V_drewN | apply Kd.V_drew)); exact HO210.out) hb); have n2_ := Aside0.mk (Kd.R_below (by (with_reducible repeat (first | apply Kd.R_alloc | apply Kd.R_drewN | apply Kd.R_drew)); exact HO214.out) hb); have n3_ := Aside0.mk (Kd.Q_below (by (with_reducible repeat (first | apply Kd.Q_alloc | apply Kd.Q_drewN | apply Kd.Q_drew)); exact HO216.out) hb); have n4_ := Aside0.mk (below_step (by repeat (first | (with_reducible first | exact HB.out | apply below_alloc | apply pw_below_drewN | apply below_drew1) | exact HB.out)) hb); clear HO207; clear HO210; clear HO214; clear HO216; clear HB; have HO207 := n0_; have HO210 := n1_; have HO214 := n2_; have HO216 := n3_; have HB := n4_; clear n0_ n1_ n2_ n3_ n4_; (try clear hb); (try clear hb2); (try clear hk); (try clear hi)) | (go_at_call 19; (with_reducible refine (mailbagref18_Hops.calls kj4 _ _ t211 t223 _ ?side1 ?side2 A19.out).mono ?_); (case side1 => repeat (first | exact (Kd.R_reads' HO214.out).2.2 | (with_reducible refine Kd.C_alloc ?_ _) | (with_reducible refine Kd.C_drewN ?_ _) | (with_reducible refine Kd.C_drew ?_))); (case side2 => exact (Kd.R_reads' HO214.out).2.1); rintro e w34 ⟨rfl, hb⟩; have n0_ := Aside0.mk (Kd.R_below (by (with_reducible repeat (first | apply Kd.R_alloc | apply Kd.R_drewN | apply Kd.R_drew)); exact HO207.out) hb); have n1_ := Aside0.mk (Kd.V_below (by (with_reducible repeat (first | apply Kd.V_alloc | apply Kd.V_drewN | apply Kd.V_drew)); exact HO210.out) hb); have n2_ := Aside0.mk (Kd.R_below (by (with_reducible repeat (first | apply Kd.R_alloc | apply Kd.R_drewN | apply Kd.R_drew)); exact HO214.out) hb); have n3_ := Aside0.mk (Kd.Q_below (by (with_reducible repeat (first | apply Kd.Q_alloc | apply Kd.Q_drewN | apply Kd.Q_drew)); exact HO216.out) hb); have n4_ := Aside0.mk (below_step (by repeat (first | (with_reducible first | exact HB.out | apply below_alloc | apply pw_below_drewN | apply below_drew1) | exact HB.out)) hb); clear HO207; clear HO210; clear HO214; clear HO216; clear HB; have HO207 := n0_; have HO210 := n1_; have HO214 := n2_; have HO216 := n3_; have HB := n4_; clear n0_ n1_ n2_ n3_ n4_; (try clear hb); (try clear hb2); (try clear hk); (try clear hi)) | (go_at_call 20; (with_reducible refine (head_Name.calls kj4 a1 t224 _ A21.out).mono ?_); rintro e w' ⟨rfl, ⟨nd, rfl⟩⟩) | (go_at_call 21; (with_reducible refine (mailbagref18_Name.calls kj4 a1 t225 _ A22.out).mono ?_); rintro e w' ⟨rfl, ⟨nd, rfl⟩⟩))
                    go_ret
                    exact ⟨by first | rfl | (simp [errW_none, errW_some] <;> rfl) | (simp [*, errW_none, errW_some] <;> rfl), by repeat (first | (with_reducible first | exact HB.out | apply below_alloc | apply pw_below_drewN | apply below_drew1) | exact HB.out)⟩
                  · rw [if_neg c20] at H
                    have c20b0 : (t222 == t223) = false := beq_eq_false_iff_ne.mpr c20
                    have c20b1 : (t222 != t223) = true := bne_iff_ne.mpr c20
                    obtain rfl := Option.some.inj H
                    go_wp2_with (first | ((with_reducible refine gate_callee (f := 13) rfl ?_); refine goesL_ (some 25) rfl rfl Tryd.func13 (by kernel_rfl) rfl #[.slice A0 l0.length c0] rfl (by (try simp only [List.map_toArray, List.map_cons, List.map_nil]); first | done | rfl | (simp only [List.length_drop, List.length_take]; rfl)) ?_; (with_reducible refine (head_Split.calls _ _ l0 t205 t208 _ ?side1 ?side2 ?side3 A9.out).mono ?_); (case side1 => repeat (first | exact (Kd.C_below HR0.out HB.out) | (with_reducible refine Kd.C_alloc ?_ _) | (with_reducible refine Kd.C_drewN ?_ _) | (with_reducible refine Kd.C_drew ?_))); (case side2 => exact HC0.out); (case side3 => exact shaped_below HSH.out (by repeat (first | (with_reducible first | exact HB.out | apply below_alloc | apply pw_below_drewN | apply below_drew1) | exact HB.out)) (Nat.le_refl _)); rintro e w35 ⟨v206, v209, rfl, ho0, ho1, hb⟩; refine ⟨_, rfl, ?_⟩; have n0_ := Aside0.mk (Kd.R_lower (Kd.R_mono (ok' := fun k_ => True) ho0 (fun _ hk_ => trivial)) (below_size (by repeat (first | (with_reducible first | exact HB.out | apply below_alloc | apply pw_below_drewN | apply below_drew1) | exact HB.out)))); have n1_ := Aside0.mk (Kd.V_lower (Kd.V_mono (ok' := fun k_ => some k_ ≠ (v206 : Value).ownBlock) ho1 (fun k_ hk_ => hk_.2)) (below_size (by repeat (first | (with_reducible first | exact HB.out | apply below_alloc | apply pw_below_drewN | apply below_drew1) | exact HB.out)))); have n2_ := Aside0.mk (below_step (by repeat (first | (with_reducible first | exact HB.out | apply below_alloc | apply pw_below_drewN | apply below_drew1) | exact HB.out)) hb); clear HB; have HO207 := n0_; have HO210 := n1_; have HB := n2_; clear n0_ n1_ n2_; (try clear hb); (try clear hb2); (try clear hk); (try clear hi); (try clear ho0); (try clear ho1)) | ((with_reducible refine gate_callee (f := 15) rfl ?_); refine goesL_ (some 30) rfl rfl Tryd.func15 (by kernel_rfl) rfl #[.slice A0 l0.length c0] rfl (by (try simp only [List.map_toArray, List.map_cons, List.map_nil]); first | done | rfl | (simp only [List.length_drop, List.length_take]; rfl)) ?_; (with_reducible refine (mailbagref18_Split.calls kj4 _ _ l0 t211 t212 _ ?side1 ?side2 A10.out).mono ?_); (case side1 => repeat (first | exact (Kd.C_below HR0.out HB.out) | (with_reducible refine Kd.C_alloc ?_ _) | (with_reducible refine Kd.C_drewN ?_ _) | (with_reducible refine Kd.C_drew ?_))); (case side2 => exact HC0.out); rintro e w36 ⟨v213, v215, rfl, ho0, ho1, hb⟩; refine ⟨_, rfl, ?_⟩; have n0_ := Aside0.mk (Kd.R_below (by (with_reducible repeat (first | apply Kd.R_alloc | apply Kd.R_drewN | apply Kd.R_drew)); exact HO207.out) hb); have n1_ := Aside0.mk (Kd.V_mono (Kd.V_told (Kd.V_told (Kd.V_old (by (with_reducible repeat (first | apply Kd.V_alloc | apply Kd.V_drewN | apply Kd.V_drew)); exact HO210.out) hb) (Kd.R_base ho0)) (Kd.Q_base ho1)) (fun _ h_ => h_.1)); have n2_ := Aside0.mk (Kd.R_lower ho0 (below_size (by repeat (first | (with_reducible first | exact HB.out | apply below_alloc | apply pw_below_drewN | apply below_drew1) | exact HB.out)))); have n3_ := Aside0.mk (Kd.Q_lower ho1 (below_size (by repeat (first | (with_reducible first | exact HB.out | apply below_alloc | apply pw_below_drewN | apply below_drew1) | exact HB.out)))); have n4_ := Aside0.mk (below_step (by repeat (first | (with_reducible first | exact HB.out | apply below_alloc | apply pw_below_drewN | apply below_drew1) | exact HB.out)) hb); clear HO207; clear HO210; clear HB; have HO207 := n0_; have HO210 := n1_; have HO214 := n2_; have HO216 := n3_; have HB := n4_; clear n0_ n1_ n2_ n3_ n4_; (try clear hb); (try clear hb2); (try clear hk); (try clear hi); (try clear ho0); (try clear ho1); obtain ⟨Ao37, co37, eo37⟩ := Kd.R_slice HO207.out; subst eo37) | ((with_reducible refine gate_callee (f := 14) rfl ?_); refine goesL_ (some 36) rfl rfl Tryd.func14 (by kernel_rfl) rfl #[.slice Ao37 t205.length co37, .string a1] rfl (by (try simp only [List.map_toArray, List.map_cons, List.map_nil]); first | done | rfl | (simp only [List.length_drop, List.length_take]; rfl)) ?_; (with_reducible refine (head_Get.calls kj4 _ _ t205 a1 t217 t218 _ ?side1 ?side2 A11.out).mono ?_); (case side1 => repeat (first | exact (Kd.R_reads' HO207.out).2.2 | (with_reducible refine Kd.C_alloc ?_ _) | (with_reducible refine Kd.C_drewN ?_ _) | (with_reducible refine Kd.C_drew ?_))); (case side2 => exact (Kd.R_reads' HO207.out).2.1); rintro e w38 ⟨rfl, hb⟩; refine ⟨_, rfl, ?_⟩; have n0_ := Aside0.mk (Kd.R_below (by (with_reducible repeat (first | apply Kd.R_alloc | apply Kd.R_drewN | apply Kd.R_drew)); exact HO207.out) hb); have n1_ := Aside0.mk (Kd.V_below (by (with_reducible repeat (first | apply Kd.V_alloc | apply Kd.V_drewN | apply Kd.V_drew)); exact HO210.out) hb); have n2_ := Aside0.mk (Kd.R_below (by (with_reducible repeat (first | apply Kd.R_alloc | apply Kd.R_drewN | apply Kd.R_drew)); exact HO214.out) hb); have n3_ := Aside0.mk (Kd.Q_below (by (with_reducible repeat (first | apply Kd.Q_alloc | apply Kd.Q_drewN | apply Kd.Q_drew)); exact HO216.out) hb); have n4_ := Aside0.mk (below_step (by repeat (first | (with_reducible first | exact HB.out | apply below_alloc | apply pw_below_drewN | apply below_drew1) | exact HB.out)) hb); clear HO207; clear HO210; clear HO214; clear HO216; clear HB; have HO207 := n0_; have HO210 := n1_; have HO214 := n2_; have HO216 := n3_; have HB := n4_; clear n0_ n1_ n2_ n3_ n4_; (try clear hb); (try clear hb2); (try clear hk); (try clear hi); obtain ⟨Ao39, co39, eo39⟩ := Kd.R_slice HO214.out; subst eo39) | ((with_reducible refine gate_callee (f := 16) rfl ?_); refine goesL_ (some 42) rfl rfl Tryd.func16 (by kernel_rfl) rfl #[.slice Ao39 t211.length co39, .string a1] rfl (by (try simp only [List.map_toArray, List.map_cons, List.map_nil]); first | done | rfl | (simp only [List.length_drop, List.length_take]; rfl)) ?_; (with_reducible refine (mailbagref18_Get.calls kj4 _ _ t211 a1 t219 t220 _ ?side1 ?side2 A12.out).mono ?_); (case side1 => repeat (first | exact (Kd.R_reads' HO214.out).2.2 | (with_reducible refine Kd.C_alloc ?_ _) | (with_reducible refine Kd.C_drewN ?_ _) | (with_reducible refine Kd.C_drew ?_))); (case side2 => exact (Kd.R_reads' HO214.out).2.1); rintro e w40 ⟨rfl, hb⟩; refine ⟨_, rfl, ?_⟩; have n0_ := Aside0.mk (Kd.R_below (by (with_reducible repeat (first | apply Kd.R_alloc | apply Kd.R_drewN | apply Kd.R_drew)); exact HO207.out) hb); have n1_ := Aside0.mk (Kd.V_below (by (with_reducible repeat (first | apply Kd.V_alloc | apply Kd.V_drewN | apply Kd.V_drew)); exact HO210.out) hb); have n2_ := Aside0.mk (Kd.R_below (by (with_reducible repeat (first | apply Kd.R_alloc | apply Kd.R_drewN | apply Kd.R_drew)); exact HO214.out) hb); have n3_ := Aside0.mk (Kd.Q_below (by (with_reducible repeat (first | apply Kd.Q_alloc | apply Kd.Q_drewN | apply Kd.Q_drew)); exact HO216.out) hb); have n4_ := Aside0.mk (below_step (by repeat (first | (with_reducible first | exact HB.out | apply below_alloc | apply pw_below_drewN | apply below_drew1) | exact HB.out)) hb); clear HO207; clear HO210; clear HO214; clear HO216; clear HB; have HO207 := n0_; have HO210 := n1_; have HO214 := n2_; have HO216 := n3_; have HB := n4_; clear n0_ n1_ n2_ n3_ n4_; (try clear hb); (try clear hb2); (try clear hk); (try clear hi)) | ((with_reducible refine gate_callee (f := 17) rfl ?_); refine goesL_ (some 47) rfl rfl Tryd.func17 (by kernel_rfl) rfl #[.slice Ao37 t205.length co37, .slice Ao39 t211.length co39] rfl (by (try simp only [List.map_toArray, List.map_cons, List.map_nil]); first | done | rfl | (simp only [List.length_drop, List.length_take]; rfl)) ?_; (with_reducible refine (mailbaglaw18_same.calls kj4 _ _ t205 _ _ t211 true _ ?side1 ?side2 ?side3 ?side4 A13.out).mono ?_); (case side1 => repeat (first | exact (Kd.R_reads' HO207.out).2.2 | (with_reducible refine Kd.C_alloc ?_ _) | (with_reducible refine Kd.C_drewN ?_ _) | (with_reducible refine Kd.C_drew ?_))); (case side2 => exact (Kd.R_reads' HO207.out).2.1); (case side3 => repeat (first | exact (Kd.R_reads' HO214.out).2.2 | (with_reducible refine Kd.C_alloc ?_ _) | (with_reducible refine Kd.C_drewN ?_ _) | (with_reducible refine Kd.C_drew ?_))); (case side4 => exact (Kd.R_reads' HO214.out).2.1); rintro e w' ⟨rfl, ⟨nd, rfl⟩⟩; refine ⟨_, rfl, ?_⟩; (try (rw [drewN_self w40]; generalize hq_ : World.drewN w40 _ = w40; have n0_ : Aside0 (Kd.R k34 34 w40 w.heap.size (fun _ => True) (.slice Ao37 t205.length co37) t205) := ⟨by rw [← hq_]; exact (by (with_reducible repeat (first | apply Kd.R_alloc | apply Kd.R_drewN | apply Kd.R_drew)); exact HO207.out)⟩; have n1_ : Aside0 (Kd.V (Kd.int .u8) 5 w40 w.heap.size (fun k_ => some k_ ≠ (.slice Ao37 t205.length co37 : Value).ownBlock ∧ some k_ ≠ (.slice Ao39 t211.length co39 : Value).ownBlock ∧ some k_ ≠ (v215 : Value).ownBlock) v209 t208) := ⟨by rw [← hq_]; exact (by (with_reducible repeat (first | apply Kd.V_alloc | apply Kd.V_drewN | apply Kd.V_drew)); exact Kd.V_mono HO210.out (fun _ hk => ⟨hk.1.1, ⟨hk.1.2, hk.2⟩⟩))⟩; have n2_ : Aside0 (Kd.R k68 68 w40 w.heap.size (fun _ => True) (.slice Ao39 t211.length co39) t211) := ⟨by rw [← hq_]; exact (by (with_reducible repeat (first | apply Kd.R_alloc | apply Kd.R_drewN | apply Kd.R_drew)); exact HO214.out)⟩; have n3_ : Aside0 (Kd.Q (Kd.int .u8) 5 w40 w.heap.size (fun _ => True) v215 t212) := ⟨by rw [← hq_]; exact (by (with_reducible repeat (first | apply Kd.Q_alloc | apply Kd.Q_drewN | apply Kd.Q_drew)); exact HO216.out)⟩; have n4_ : Aside0 (Below w.heap.size w w40) := ⟨by rw [← hq_]; exact (by repeat (first | (with_reducible first | exact HB.out | apply below_alloc | apply pw_below_drewN | apply below_drew1) | exact HB.out))⟩; clear HO207 HO210 HO214 HO216 HB hq_; have HO207 := n0_; have HO210 := n1_; have HO214 := n2_; have HO216 := n3_; have HB := n4_; clear n0_ n1_ n2_ n3_ n4_)); obtain ⟨Ao41, co41, eo41⟩ := Kd.V_slice HO210.out; subst eo41; have hcv42 := Kd.C_string (P := Tryd.prog) (A := Ao41) (c := co41) Tryd.underlying26 Tryd.underlying5 Tryd.underlying9 (Kd.V_reads' HO210.out).2.2; obtain ⟨Ao43, co43, eo43, _⟩ := Kd.Q_slice HO216.out; subst eo43; have hcv44 := Kd.C_string (P := Tryd.prog) (A := Ao43) (c := co43) Tryd.underlying26 Tryd.underlying5 Tryd.underlying9 (Kd.Q_reads' HO216.out).2.2) | (go_at_call 18; (with_reducible refine (head_Hops.calls kj4 _ _ t205 t222 _ ?side1 ?side2 A18.out).mono ?_); (case side1 => repeat (first | exact (Kd.R_reads' HO207.out).2.2 | (with_reducible refine Kd.C_alloc ?_ _) | (with_reducible refine Kd.C_drewN ?_ _) | (with_reducible refine Kd.C_drew ?_))); (case side2 => exact (Kd.R_reads' HO207.out).2.1); rintro e w45 ⟨rfl, hb⟩; have n0_ := Aside0.mk (Kd.R_below (by (with_reducible repeat (first | apply Kd.R_alloc | apply Kd.R_drewN | apply Kd.R_drew)); exact HO207.out) hb); have n1_ := Aside0.mk (Kd.V_below (by (with_reducible repeat (first | apply Kd.V_alloc | apply Kd.V_drewN | apply Kd.V_drew)); exact HO210.out) hb); have n2_ := Aside0.mk (Kd.R_below (by (with_reducible repeat (first | apply Kd.R_alloc | apply Kd.R_drewN | apply Kd.R_drew)); exact HO214.out) hb); have n3_ := Aside0.mk (Kd.Q_below (by (with_reducible repeat (first | apply Kd.Q_alloc | apply Kd.Q_drewN | apply Kd.Q_drew)); exact HO216.out) hb); have n4_ := Aside0.mk (below_step (by repeat (first | (with_reducible first | exact HB.out | apply below_alloc | apply pw_below_drewN | apply below_drew1) | exact HB.out)) hb); clear HO207; clear HO210; clear HO214; clear HO216; clear HB; have HO207 := n0_; have HO210 := n1_; have HO214 := n2_; have HO216 := n3_; have HB := n4_; clear n0_ n1_ n2_ n3_ n4_; (try clear hb); (try clear hb2); (try clear hk); (try clear hi)) | (go_at_call 19; (with_reducible refine (mailbagref18_Hops.calls kj4 _ _ t211 t223 _ ?side1 ?side2 A19.out).mono ?_); (case side1 => repeat (first | exact (Kd.R_reads' HO214.out).2.2 | (with_reducible refine Kd.C_alloc ?_ _) | (with_reducible refine Kd.C_drewN ?_ _) | (with_reducible refine Kd.C_drew ?_))); (case side2 => exact (Kd.R_reads' HO214.out).2.1); rintro e w46 ⟨rfl, hb⟩; have n0_ := Aside0.mk (Kd.R_below (by (with_reducible repeat (first | apply Kd.R_alloc | apply Kd.R_drewN | apply Kd.R_drew)); exact HO207.out) hb); have n1_ := Aside0.mk (Kd.V_below (by (with_reducible repeat (first | apply Kd.V_alloc | apply Kd.V_drewN | apply Kd.V_drew)); exact HO210.out) hb); have n2_ := Aside0.mk (Kd.R_below (by (with_reducible repeat (first | apply Kd.R_alloc | apply Kd.R_drewN | apply Kd.R_drew)); exact HO214.out) hb); have n3_ := Aside0.mk (Kd.Q_below (by (with_reducible repeat (first | apply Kd.Q_alloc | apply Kd.Q_drewN | apply Kd.Q_drew)); exact HO216.out) hb); have n4_ := Aside0.mk (below_step (by repeat (first | (with_reducible first | exact HB.out | apply below_alloc | apply pw_below_drewN | apply below_drew1) | exact HB.out)) hb); clear HO207; clear HO210; clear HO214; clear HO216; clear HB; have HO207 := n0_; have HO210 := n1_; have HO214 := n2_; have HO216 := n3_; have HB := n4_; clear n0_ n1_ n2_ n3_ n4_; (try clear hb); (try clear hb2); (try clear hk); (try clear hi)))
                    go_ret
                    exact ⟨by first | rfl | (simp [errW_none, errW_some] <;> rfl) | (simp [*, errW_none, errW_some] <;> rfl), by repeat (first | (with_reducible first | exact HB.out | apply below_alloc | apply pw_below_drewN | apply below_drew1) | exact HB.out)⟩
                · rw [if_neg c17] at H
                  have c17b0 : (t218 == t220) = false := beq_eq_false_iff_ne.mpr c17
                  have c17b1 : (t218 != t220) = true := bne_iff_ne.mpr c17
                  obtain rfl := Option.some.inj H
                  go_wp2_with (first | ((with_reducible refine gate_callee (f := 13) rfl ?_); refine goesL_ (some 25) rfl rfl Tryd.func13 (by kernel_rfl) rfl #[.slice A0 l0.length c0] rfl (by (try simp only [List.map_toArray, List.map_cons, List.map_nil]); first | done | rfl | (simp only [List.length_drop, List.length_take]; rfl)) ?_; (with_reducible refine (head_Split.calls _ _ l0 t205 t208 _ ?side1 ?side2 ?side3 A9.out).mono ?_); (case side1 => repeat (first | exact (Kd.C_below HR0.out HB.out) | (with_reducible refine Kd.C_alloc ?_ _) | (with_reducible refine Kd.C_drewN ?_ _) | (with_reducible refine Kd.C_drew ?_))); (case side2 => exact HC0.out); (case side3 => exact shaped_below HSH.out (by repeat (first | (with_reducible first | exact HB.out | apply below_alloc | apply pw_below_drewN | apply below_drew1) | exact HB.out)) (Nat.le_refl _)); rintro e w47 ⟨v206, v209, rfl, ho0, ho1, hb⟩; refine ⟨_, rfl, ?_⟩; have n0_ := Aside0.mk (Kd.R_lower (Kd.R_mono (ok' := fun k_ => True) ho0 (fun _ hk_ => trivial)) (below_size (by repeat (first | (with_reducible first | exact HB.out | apply below_alloc | apply pw_below_drewN | apply below_drew1) | exact HB.out)))); have n1_ := Aside0.mk (Kd.V_lower (Kd.V_mono (ok' := fun k_ => some k_ ≠ (v206 : Value).ownBlock) ho1 (fun k_ hk_ => hk_.2)) (below_size (by repeat (first | (with_reducible first | exact HB.out | apply below_alloc | apply pw_below_drewN | apply below_drew1) | exact HB.out)))); have n2_ := Aside0.mk (below_step (by repeat (first | (with_reducible first | exact HB.out | apply below_alloc | apply pw_below_drewN | apply below_drew1) | exact HB.out)) hb); clear HB; have HO207 := n0_; have HO210 := n1_; have HB := n2_; clear n0_ n1_ n2_; (try clear hb); (try clear hb2); (try clear hk); (try clear hi); (try clear ho0); (try clear ho1)) | ((with_reducible refine gate_callee (f := 15) rfl ?_); refine goesL_ (some 30) rfl rfl Tryd.func15 (by kernel_rfl) rfl #[.slice A0 l0.length c0] rfl (by (try simp only [List.map_toArray, List.map_cons, List.map_nil]); first | done | rfl | (simp only [List.length_drop, List.length_take]; rfl)) ?_; (with_reducible refine (mailbagref18_Split.calls kj4 _ _ l0 t211 t212 _ ?side1 ?side2 A10.out).mono ?_); (case side1 => repeat (first | exact (Kd.C_below HR0.out HB.out) | (with_reducible refine Kd.C_alloc ?_ _) | (with_reducible refine Kd.C_drewN ?_ _) | (with_reducible refine Kd.C_drew ?_))); (case side2 => exact HC0.out); rintro e w48 ⟨v213, v215, rfl, ho0, ho1, hb⟩; refine ⟨_, rfl, ?_⟩; have n0_ := Aside0.mk (Kd.R_below (by (with_reducible repeat (first | apply Kd.R_alloc | apply Kd.R_drewN | apply Kd.R_drew)); exact HO207.out) hb); have n1_ := Aside0.mk (Kd.V_mono (Kd.V_told (Kd.V_told (Kd.V_old (by (with_reducible repeat (first | apply Kd.V_alloc | apply Kd.V_drewN | apply Kd.V_drew)); exact HO210.out) hb) (Kd.R_base ho0)) (Kd.Q_base ho1)) (fun _ h_ => h_.1)); have n2_ := Aside0.mk (Kd.R_lower ho0 (below_size (by repeat (first | (with_reducible first | exact HB.out | apply below_alloc | apply pw_below_drewN | apply below_drew1) | exact HB.out)))); have n3_ := Aside0.mk (Kd.Q_lower ho1 (below_size (by repeat (first | (with_reducible first | exact HB.out | apply below_alloc | apply pw_below_drewN | apply below_drew1) | exact HB.out)))); have n4_ := Aside0.mk (below_step (by repeat (first | (with_reducible first | exact HB.out | apply below_alloc | apply pw_below_drewN | apply below_drew1) | exact HB.out)) hb); clear HO207; clear HO210; clear HB; have HO207 := n0_; have HO210 := n1_; have HO214 := n2_; have HO216 := n3_; have HB := n4_; clear n0_ n1_ n2_ n3_ n4_; (try clear hb); (try clear hb2); (try clear hk); (try clear hi); (try clear ho0); (try clear ho1); obtain ⟨Ao49, co49, eo49⟩ := Kd.R_slice HO207.out; subst eo49) | ((with_reducible refine gate_callee (f := 14) rfl ?_); refine goesL_ (some 36) rfl rfl Tryd.func14 (by kernel_rfl) rfl #[.slice Ao49 t205.length co49, .string a1] rfl (by (try simp only [List.map_toArray, List.map_cons, List.map_nil]); first | done | rfl | (simp only [List.length_drop, List.length_take]; rfl)) ?_; (with_reducible refine (head_Get.calls kj4 _ _ t205 a1 t217 t218 _ ?side1 ?side2 A11.out).mono ?_); (case side1 => repeat (first | exact (Kd.R_reads' HO207.out).2.2 | (with_reducible refine Kd.C_alloc ?_ _) | (with_reducible refine Kd.C_drewN ?_ _) | (with_reducible refine Kd.C_drew ?_))); (case side2 => exact (Kd.R_reads' HO207.out).2.1); rintro e w50 ⟨rfl, hb⟩; refine ⟨_, rfl, ?_⟩; have n0_ := Aside0.mk (Kd.R_below (by (with_reducible repeat (first | apply Kd.R_alloc | apply Kd.R_drewN | apply Kd.R_drew)); exact HO207.out) hb); have n1_ := Aside0.mk (Kd.V_below (by (with_reducible repeat (first | apply Kd.V_alloc | apply Kd.V_drewN | apply Kd.V_drew)); exact HO210.out) hb); have n2_ := Aside0.mk (Kd.R_below (by (with_reducible repeat (first | apply Kd.R_alloc | apply Kd.R_drewN | apply Kd.R_drew)); exact HO214.out) hb); have n3_ := Aside0.mk (Kd.Q_below (by (with_reducible repeat (first | apply Kd.Q_alloc | apply Kd.Q_drewN | apply Kd.Q_drew)); exact HO216.out) hb); have n4_ := Aside0.mk (below_step (by repeat (first | (with_reducible first | exact HB.out | apply below_alloc | apply pw_below_drewN | apply below_drew1) | exact HB.out)) hb); clear HO207; clear HO210; clear HO214; clear HO216; clear HB; have HO207 := n0_; have HO210 := n1_; have HO214 := n2_; have HO216 := n3_; have HB := n4_; clear n0_ n1_ n2_ n3_ n4_; (try clear hb); (try clear hb2); (try clear hk); (try clear hi); obtain ⟨Ao51, co51, eo51⟩ := Kd.R_slice HO214.out; subst eo51) | ((with_reducible refine gate_callee (f := 16) rfl ?_); refine goesL_ (some 42) rfl rfl Tryd.func16 (by kernel_rfl) rfl #[.slice Ao51 t211.length co51, .string a1] rfl (by (try simp only [List.map_toArray, List.map_cons, List.map_nil]); first | done | rfl | (simp only [List.length_drop, List.length_take]; rfl)) ?_; (with_reducible refine (mailbagref18_Get.calls kj4 _ _ t211 a1 t219 t220 _ ?side1 ?side2 A12.out).mono ?_); (case side1 => repeat (first | exact (Kd.R_reads' HO214.out).2.2 | (with_reducible refine Kd.C_alloc ?_ _) | (with_reducible refine Kd.C_drewN ?_ _) | (with_reducible refine Kd.C_drew ?_))); (case side2 => exact (Kd.R_reads' HO214.out).2.1); rintro e w52 ⟨rfl, hb⟩; refine ⟨_, rfl, ?_⟩; have n0_ := Aside0.mk (Kd.R_below (by (with_reducible repeat (first | apply Kd.R_alloc | apply Kd.R_drewN | apply Kd.R_drew)); exact HO207.out) hb); have n1_ := Aside0.mk (Kd.V_below (by (with_reducible repeat (first | apply Kd.V_alloc | apply Kd.V_drewN | apply Kd.V_drew)); exact HO210.out) hb); have n2_ := Aside0.mk (Kd.R_below (by (with_reducible repeat (first | apply Kd.R_alloc | apply Kd.R_drewN | apply Kd.R_drew)); exact HO214.out) hb); have n3_ := Aside0.mk (Kd.Q_below (by (with_reducible repeat (first | apply Kd.Q_alloc | apply Kd.Q_drewN | apply Kd.Q_drew)); exact HO216.out) hb); have n4_ := Aside0.mk (below_step (by repeat (first | (with_reducible first | exact HB.out | apply below_alloc | apply pw_below_drewN | apply below_drew1) | exact HB.out)) hb); clear HO207; clear HO210; clear HO214; clear HO216; clear HB; have HO207 := n0_; have HO210 := n1_; have HO214 := n2_; have HO216 := n3_; have HB := n4_; clear n0_ n1_ n2_ n3_ n4_; (try clear hb); (try clear hb2); (try clear hk); (try clear hi)) | ((with_reducible refine gate_callee (f := 17) rfl ?_); refine goesL_ (some 47) rfl rfl Tryd.func17 (by kernel_rfl) rfl #[.slice Ao49 t205.length co49, .slice Ao51 t211.length co51] rfl (by (try simp only [List.map_toArray, List.map_cons, List.map_nil]); first | done | rfl | (simp only [List.length_drop, List.length_take]; rfl)) ?_; (with_reducible refine (mailbaglaw18_same.calls kj4 _ _ t205 _ _ t211 true _ ?side1 ?side2 ?side3 ?side4 A13.out).mono ?_); (case side1 => repeat (first | exact (Kd.R_reads' HO207.out).2.2 | (with_reducible refine Kd.C_alloc ?_ _) | (with_reducible refine Kd.C_drewN ?_ _) | (with_reducible refine Kd.C_drew ?_))); (case side2 => exact (Kd.R_reads' HO207.out).2.1); (case side3 => repeat (first | exact (Kd.R_reads' HO214.out).2.2 | (with_reducible refine Kd.C_alloc ?_ _) | (with_reducible refine Kd.C_drewN ?_ _) | (with_reducible refine Kd.C_drew ?_))); (case side4 => exact (Kd.R_reads' HO214.out).2.1); rintro e w' ⟨rfl, ⟨nd, rfl⟩⟩; refine ⟨_, rfl, ?_⟩; (try (rw [drewN_self w52]; generalize hq_ : World.drewN w52 _ = w52; have n0_ : Aside0 (Kd.R k34 34 w52 w.heap.size (fun _ => True) (.slice Ao49 t205.length co49) t205) := ⟨by rw [← hq_]; exact (by (with_reducible repeat (first | apply Kd.R_alloc | apply Kd.R_drewN | apply Kd.R_drew)); exact HO207.out)⟩; have n1_ : Aside0 (Kd.V (Kd.int .u8) 5 w52 w.heap.size (fun k_ => some k_ ≠ (.slice Ao49 t205.length co49 : Value).ownBlock ∧ some k_ ≠ (.slice Ao51 t211.length co51 : Value).ownBlock ∧ some k_ ≠ (v215 : Value).ownBlock) v209 t208) := ⟨by rw [← hq_]; exact (by (with_reducible repeat (first | apply Kd.V_alloc | apply Kd.V_drewN | apply Kd.V_drew)); exact Kd.V_mono HO210.out (fun _ hk => ⟨hk.1.1, ⟨hk.1.2, hk.2⟩⟩))⟩; have n2_ : Aside0 (Kd.R k68 68 w52 w.heap.size (fun _ => True) (.slice Ao51 t211.length co51) t211) := ⟨by rw [← hq_]; exact (by (with_reducible repeat (first | apply Kd.R_alloc | apply Kd.R_drewN | apply Kd.R_drew)); exact HO214.out)⟩; have n3_ : Aside0 (Kd.Q (Kd.int .u8) 5 w52 w.heap.size (fun _ => True) v215 t212) := ⟨by rw [← hq_]; exact (by (with_reducible repeat (first | apply Kd.Q_alloc | apply Kd.Q_drewN | apply Kd.Q_drew)); exact HO216.out)⟩; have n4_ : Aside0 (Below w.heap.size w w52) := ⟨by rw [← hq_]; exact (by repeat (first | (with_reducible first | exact HB.out | apply below_alloc | apply pw_below_drewN | apply below_drew1) | exact HB.out))⟩; clear HO207 HO210 HO214 HO216 HB hq_; have HO207 := n0_; have HO210 := n1_; have HO214 := n2_; have HO216 := n3_; have HB := n4_; clear n0_ n1_ n2_ n3_ n4_)); obtain ⟨Ao53, co53, eo53⟩ := Kd.V_slice HO210.out; subst eo53; have hcv54 := Kd.C_string (P := Tryd.prog) (A := Ao53) (c := co53) Tryd.underlying26 Tryd.underlying5 Tryd.underlying9 (Kd.V_reads' HO210.out).2.2; obtain ⟨Ao55, co55, eo55, _⟩ := Kd.Q_slice HO216.out; subst eo55; have hcv56 := Kd.C_string (P := Tryd.prog) (A := Ao55) (c := co55) Tryd.underlying26 Tryd.underlying5 Tryd.underlying9 (Kd.Q_reads' HO216.out).2.2))
                  go_ret
                  exact ⟨by first | rfl | (simp [errW_none, errW_some] <;> rfl) | (simp [*, errW_none, errW_some] <;> rfl), by repeat (first | (with_reducible first | exact HB.out | apply below_alloc | apply pw_below_drewN | apply below_drew1) | exact HB.out)⟩
              · rw [if_neg c16] at H
                have c16b0 : (t217.toList == t219.toList) = false := beq_eq_false_iff_ne.mpr c16
                have c16b1 : (t217.toList != t219.toList) = true := bne_iff_ne.mpr c16
                obtain rfl := Option.some.inj H
                go_wp2_with (first | ((with_reducible refine gate_callee (f := 13) rfl ?_); refine goesL_ (some 25) rfl rfl Tryd.func13 (by kernel_rfl) rfl #[.slice A0 l0.length c0] rfl (by (try simp only [List.map_toArray, List.map_cons, List.map_nil]); first | done | rfl | (simp only [List.length_drop, List.length_take]; rfl)) ?_; (with_reducible refine (head_Split.calls _ _ l0 t205 t208 _ ?side1 ?side2 ?side3 A9.out).mono ?_); (case side1 => repeat (first | exact (Kd.C_below HR0.out HB.out) | (with_reducible refine Kd.C_alloc ?_ _) | (with_reducible refine Kd.C_drewN ?_ _) | (with_reducible refine Kd.C_drew ?_))); (case side2 => exact HC0.out); (case side3 => exact shaped_below HSH.out (by repeat (first | (with_reducible first | exact HB.out | apply below_alloc | apply pw_below_drewN | apply below_drew1) | exact HB.out)) (Nat.le_refl _)); rintro e w57 ⟨v206, v209, rfl, ho0, ho1, hb⟩; refine ⟨_, rfl, ?_⟩; have n0_ := Aside0.mk (Kd.R_lower (Kd.R_mono (ok' := fun k_ => True) ho0 (fun _ hk_ => trivial)) (below_size (by repeat (first | (with_reducible first | exact HB.out | apply below_alloc | apply pw_below_drewN | apply below_drew1) | exact HB.out)))); have n1_ := Aside0.mk (Kd.V_lower (Kd.V_mono (ok' := fun k_ => some k_ ≠ (v206 : Value).ownBlock) ho1 (fun k_ hk_ => hk_.2)) (below_size (by repeat (first | (with_reducible first | exact HB.out | apply below_alloc | apply pw_below_drewN | apply below_drew1) | exact HB.out)))); have n2_ := Aside0.mk (below_step (by repeat (first | (with_reducible first | exact HB.out | apply below_alloc | apply pw_below_drewN | apply below_drew1) | exact HB.out)) hb); clear HB; have HO207 := n0_; have HO210 := n1_; have HB := n2_; clear n0_ n1_ n2_; (try clear hb); (try clear hb2); (try clear hk); (try clear hi); (try clear ho0); (try clear ho1)) | ((with_reducible refine gate_callee (f := 15) rfl ?_); refine goesL_ (some 30) rfl rfl Tryd.func15 (by kernel_rfl) rfl #[.slice A0 l0.length c0] rfl (by (try simp only [List.map_toArray, List.map_cons, List.map_nil]); first | done | rfl | (simp only [List.length_drop, List.length_take]; rfl)) ?_; (with_reducible refine (mailbagref18_Split.calls kj4 _ _ l0 t211 t212 _ ?side1 ?side2 A10.out).mono ?_); (case side1 => repeat (first | exact (Kd.C_below HR0.out HB.out) | (with_reducible refine Kd.C_alloc ?_ _) | (with_reducible refine Kd.C_drewN ?_ _) | (with_reducible refine Kd.C_drew ?_))); (case side2 => exact HC0.out); rintro e w58 ⟨v213, v215, rfl, ho0, ho1, hb⟩; refine ⟨_, rfl, ?_⟩; have n0_ := Aside0.mk (Kd.R_below (by (with_reducible repeat (first | apply Kd.R_alloc | apply Kd.R_drewN | apply Kd.R_drew)); exact HO207.out) hb); have n1_ := Aside0.mk (Kd.V_mono (Kd.V_told (Kd.V_told (Kd.V_old (by (with_reducible repeat (first | apply Kd.V_alloc | apply Kd.V_drewN | apply Kd.V_drew)); exact HO210.out) hb) (Kd.R_base ho0)) (Kd.Q_base ho1)) (fun _ h_ => h_.1)); have n2_ := Aside0.mk (Kd.R_lower ho0 (below_size (by repeat (first | (with_reducible first | exact HB.out | apply below_alloc | apply pw_below_drewN | apply below_drew1) | exact HB.out)))); have n3_ := Aside0.mk (Kd.Q_lower ho1 (below_size (by repeat (first | (with_reducible first | exact HB.out | apply below_alloc | apply pw_below_drewN | apply below_drew1) | exact HB.out)))); have n4_ := Aside0.mk (below_step (by repeat (first | (with_reducible first | exact HB.out | apply below_alloc | apply pw_below_drewN | apply below_drew1) | exact HB.out)) hb); clear HO207; clear HO210; clear HB; have HO207 := n0_; have HO210 := n1_; have HO214 := n2_; have HO216 := n3_; have HB := n4_; clear n0_ n1_ n2_ n3_ n4_; (try clear hb); (try clear hb2); (try clear hk); (try clear hi); (try clear ho0); (try clear ho1); obtain ⟨Ao59, co59, eo59⟩ := Kd.R_slice HO207.out; subst eo59) | ((with_reducible refine gate_callee (f := 14) rfl ?_); refine goesL_ (some 36) rfl rfl Tryd.func14 (by kernel_rfl) rfl #[.slice Ao59 t205.length co59, .string a1] rfl (by (try simp only [List.map_toArray, List.map_cons, List.map_nil]); first | done | rfl | (simp only [List.length_drop, List.length_take]; rfl)) ?_; (with_reducible refine (head_Get.calls kj4 _ _ t205 a1 t217 t218 _ ?side1 ?side2 A11.out).mono ?_); (case side1 => repeat (first | exact (Kd.R_reads' HO207.out).2.2 | (with_reducible refine Kd.C_alloc ?_ _) | (with_reducible refine Kd.C_drewN ?_ _) | (with_reducible refine Kd.C_drew ?_))); (case side2 => exact (Kd.R_reads' HO207.out).2.1); rintro e w60 ⟨rfl, hb⟩; refine ⟨_, rfl, ?_⟩; have n0_ := Aside0.mk (Kd.R_below (by (with_reducible repeat (first | apply Kd.R_alloc | apply Kd.R_drewN | apply Kd.R_drew)); exact HO207.out) hb); have n1_ := Aside0.mk (Kd.V_below (by (with_reducible repeat (first | apply Kd.V_alloc | apply Kd.V_drewN | apply Kd.V_drew)); exact HO210.out) hb); have n2_ := Aside0.mk (Kd.R_below (by (with_reducible repeat (first | apply Kd.R_alloc | apply Kd.R_drewN | apply Kd.R_drew)); exact HO214.out) hb); have n3_ := Aside0.mk (Kd.Q_below (by (with_reducible repeat (first | apply Kd.Q_alloc | apply Kd.Q_drewN | apply Kd.Q_drew)); exact HO216.out) hb); have n4_ := Aside0.mk (below_step (by repeat (first | (with_reducible first | exact HB.out | apply below_alloc | apply pw_below_drewN | apply below_drew1) | exact HB.out)) hb); clear HO207; clear HO210; clear HO214; clear HO216; clear HB; have HO207 := n0_; have HO210 := n1_; have HO214 := n2_; have HO216 := n3_; have HB := n4_; clear n0_ n1_ n2_ n3_ n4_; (try clear hb); (try clear hb2); (try clear hk); (try clear hi); obtain ⟨Ao61, co61, eo61⟩ := Kd.R_slice HO214.out; subst eo61) | ((with_reducible refine gate_callee (f := 16) rfl ?_); refine goesL_ (some 42) rfl rfl Tryd.func16 (by kernel_rfl) rfl #[.slice Ao61 t211.length co61, .string a1] rfl (by (try simp only [List.map_toArray, List.map_cons, List.map_nil]); first | done | rfl | (simp only [List.length_drop, List.length_take]; rfl)) ?_; (with_reducible refine (mailbagref18_Get.calls kj4 _ _ t211 a1 t219 t220 _ ?side1 ?side2 A12.out).mono ?_); (case side1 => repeat (first | exact (Kd.R_reads' HO214.out).2.2 | (with_reducible refine Kd.C_alloc ?_ _) | (with_reducible refine Kd.C_drewN ?_ _) | (with_reducible refine Kd.C_drew ?_))); (case side2 => exact (Kd.R_reads' HO214.out).2.1); rintro e w62 ⟨rfl, hb⟩; refine ⟨_, rfl, ?_⟩; have n0_ := Aside0.mk (Kd.R_below (by (with_reducible repeat (first | apply Kd.R_alloc | apply Kd.R_drewN | apply Kd.R_drew)); exact HO207.out) hb); have n1_ := Aside0.mk (Kd.V_below (by (with_reducible repeat (first | apply Kd.V_alloc | apply Kd.V_drewN | apply Kd.V_drew)); exact HO210.out) hb); have n2_ := Aside0.mk (Kd.R_below (by (with_reducible repeat (first | apply Kd.R_alloc | apply Kd.R_drewN | apply Kd.R_drew)); exact HO214.out) hb); have n3_ := Aside0.mk (Kd.Q_below (by (with_reducible repeat (first | apply Kd.Q_alloc | apply Kd.Q_drewN | apply Kd.Q_drew)); exact HO216.out) hb); have n4_ := Aside0.mk (below_step (by repeat (first | (with_reducible first | exact HB.out | apply below_alloc | apply pw_below_drewN | apply below_drew1) | exact HB.out)) hb); clear HO207; clear HO210; clear HO214; clear HO216; clear HB; have HO207 := n0_; have HO210 := n1_; have HO214 := n2_; have HO216 := n3_; have HB := n4_; clear n0_ n1_ n2_ n3_ n4_; (try clear hb); (try clear hb2); (try clear hk); (try clear hi)) | ((with_reducible refine gate_callee (f := 17) rfl ?_); refine goesL_ (some 47) rfl rfl Tryd.func17 (by kernel_rfl) rfl #[.slice Ao59 t205.length co59, .slice Ao61 t211.length co61] rfl (by (try simp only [List.map_toArray, List.map_cons, List.map_nil]); first | done | rfl | (simp only [List.length_drop, List.length_take]; rfl)) ?_; (with_reducible refine (mailbaglaw18_same.calls kj4 _ _ t205 _ _ t211 true _ ?side1 ?side2 ?side3 ?side4 A13.out).mono ?_); (case side1 => repeat (first | exact (Kd.R_reads' HO207.out).2.2 | (with_reducible refine Kd.C_alloc ?_ _) | (with_reducible refine Kd.C_drewN ?_ _) | (with_reducible refine Kd.C_drew ?_))); (case side2 => exact (Kd.R_reads' HO207.out).2.1); (case side3 => repeat (first | exact (Kd.R_reads' HO214.out).2.2 | (with_reducible refine Kd.C_alloc ?_ _) | (with_reducible refine Kd.C_drewN ?_ _) | (with_reducible refine Kd.C_drew ?_))); (case side4 => exact (Kd.R_reads' HO214.out).2.1); rintro e w' ⟨rfl, ⟨nd, rfl⟩⟩; refine ⟨_, rfl, ?_⟩; (try (rw [drewN_self w62]; generalize hq_ : World.drewN w62 _ = w62; have n0_ : Aside0 (Kd.R k34 34 w62 w.heap.size (fun _ => True) (.slice Ao59 t205.length co59) t205) := ⟨by rw [← hq_]; exact (by (with_reducible repeat (first | apply Kd.R_alloc | apply Kd.R_drewN | apply Kd.R_drew)); exact HO207.out)⟩; have n1_ : Aside0 (Kd.V (Kd.int .u8) 5 w62 w.heap.size (fun k_ => some k_ ≠ (.slice Ao59 t205.length co59 : Value).ownBlock ∧ some k_ ≠ (.slice Ao61 t211.length co61 : Value).ownBlock ∧ some k_ ≠ (v215 : Value).ownBlock) v209 t208) := ⟨by rw [← hq_]; exact (by (with_reducible repeat (first | apply Kd.V_alloc | apply Kd.V_drewN | apply Kd.V_drew)); exact Kd.V_mono HO210.out (fun _ hk => ⟨hk.1.1, ⟨hk.1.2, hk.2⟩⟩))⟩; have n2_ : Aside0 (Kd.R k68 68 w62 w.heap.size (fun _ => True) (.slice Ao61 t211.length co61) t211) := ⟨by rw [← hq_]; exact (by (with_reducible repeat (first | apply Kd.R_alloc | apply Kd.R_drewN | apply Kd.R_drew)); exact HO214.out)⟩; have n3_ : Aside0 (Kd.Q (Kd.int .u8) 5 w62 w.heap.size (fun _ => True) v215 t212) := ⟨by rw [← hq_]; exact (by (with_reducible repeat (first | apply Kd.Q_alloc | apply Kd.Q_drewN | apply Kd.Q_drew)); exact HO216.out)⟩; have n4_ : Aside0 (Below w.heap.size w w62) := ⟨by rw [← hq_]; exact (by repeat (first | (with_reducible first | exact HB.out | apply below_alloc | apply pw_below_drewN | apply below_drew1) | exact HB.out))⟩; clear HO207 HO210 HO214 HO216 HB hq_; have HO207 := n0_; have HO210 := n1_; have HO214 := n2_; have HO216 := n3_; have HB := n4_; clear n0_ n1_ n2_ n3_ n4_)); obtain ⟨Ao63, co63, eo63⟩ := Kd.V_slice HO210.out; subst eo63; have hcv64 := Kd.C_string (P := Tryd.prog) (A := Ao63) (c := co63) Tryd.underlying26 Tryd.underlying5 Tryd.underlying9 (Kd.V_reads' HO210.out).2.2; obtain ⟨Ao65, co65, eo65, _⟩ := Kd.Q_slice HO216.out; subst eo65; have hcv66 := Kd.C_string (P := Tryd.prog) (A := Ao65) (c := co65) Tryd.underlying26 Tryd.underlying5 Tryd.underlying9 (Kd.Q_reads' HO216.out).2.2))
                go_ret
                exact ⟨by first | rfl | (simp [errW_none, errW_some] <;> rfl) | (simp [*, errW_none, errW_some] <;> rfl), by repeat (first | (with_reducible first | exact HB.out | apply below_alloc | apply pw_below_drewN | apply below_drew1) | exact HB.out)⟩
            · rw [if_neg c15] at H
              have c15b0 : ((strOfNums t208).toList == (strOfNums t212).toList) = false := beq_eq_false_iff_ne.mpr c15
              have c15b1 : ((strOfNums t208).toList != (strOfNums t212).toList) = true := bne_iff_ne.mpr c15
              obtain rfl := Option.some.inj H
              go_wp2_with (first | ((with_reducible refine gate_callee (f := 13) rfl ?_); refine goesL_ (some 25) rfl rfl Tryd.func13 (by kernel_rfl) rfl #[.slice A0 l0.length c0] rfl (by (try simp only [List.map_toArray, List.map_cons, List.map_nil]); first | done | rfl | (simp only [List.length_drop, List.length_take]; rfl)) ?_; (with_reducible refine (head_Split.calls _ _ l0 t205 t208 _ ?side1 ?side2 ?side3 A9.out).mono ?_); (case side1 => repeat (first | exact (Kd.C_below HR0.out HB.out) | (with_reducible refine Kd.C_alloc ?_ _) | (with_reducible refine Kd.C_drewN ?_ _) | (with_reducible refine Kd.C_drew ?_))); (case side2 => exact HC0.out); (case side3 => exact shaped_below HSH.out (by repeat (first | (with_reducible first | exact HB.out | apply below_alloc | apply pw_below_drewN | apply below_drew1) | exact HB.out)) (Nat.le_refl _)); rintro e w67 ⟨v206, v209, rfl, ho0, ho1, hb⟩; refine ⟨_, rfl, ?_⟩; have n0_ := Aside0.mk (Kd.R_lower (Kd.R_mono (ok' := fun k_ => True) ho0 (fun _ hk_ => trivial)) (below_size (by repeat (first | (with_reducible first | exact HB.out | apply below_alloc | apply pw_below_drewN | apply below_drew1) | exact HB.out)))); have n1_ := Aside0.mk (Kd.V_lower (Kd.V_mono (ok' := fun k_ => some k_ ≠ (v206 : Value).ownBlock) ho1 (fun k_ hk_ => hk_.2)) (below_size (by repeat (first | (with_reducible first | exact HB.out | apply below_alloc | apply pw_below_drewN | apply below_drew1) | exact HB.out)))); have n2_ := Aside0.mk (below_step (by repeat (first | (with_reducible first | exact HB.out | apply below_alloc | apply pw_below_drewN | apply below_drew1) | exact HB.out)) hb); clear HB; have HO207 := n0_; have HO210 := n1_; have HB := n2_; clear n0_ n1_ n2_; (try clear hb); (try clear hb2); (try clear hk); (try clear hi); (try clear ho0); (try clear ho1)) | ((with_reducible refine gate_callee (f := 15) rfl ?_); refine goesL_ (some 30) rfl rfl Tryd.func15 (by kernel_rfl) rfl #[.slice A0 l0.length c0] rfl (by (try simp only [List.map_toArray, List.map_cons, List.map_nil]); first | done | rfl | (simp only [List.length_drop, List.length_take]; rfl)) ?_; (with_reducible refine (mailbagref18_Split.calls kj4 _ _ l0 t211 t212 _ ?side1 ?side2 A10.out).mono ?_); (case side1 => repeat (first | exact (Kd.C_below HR0.out HB.out) | (with_reducible refine Kd.C_alloc ?_ _) | (with_reducible refine Kd.C_drewN ?_ _) | (with_reducible refine Kd.C_drew ?_))); (case side2 => exact HC0.out); rintro e w68 ⟨v213, v215, rfl, ho0, ho1, hb⟩; refine ⟨_, rfl, ?_⟩; have n0_ := Aside0.mk (Kd.R_below (by (with_reducible repeat (first | apply Kd.R_alloc | apply Kd.R_drewN | apply Kd.R_drew)); exact HO207.out) hb); have n1_ := Aside0.mk (Kd.V_mono (Kd.V_told (Kd.V_told (Kd.V_old (by (with_reducible repeat (first | apply Kd.V_alloc | apply Kd.V_drewN | apply Kd.V_drew)); exact HO210.out) hb) (Kd.R_base ho0)) (Kd.Q_base ho1)) (fun _ h_ => h_.1)); have n2_ := Aside0.mk (Kd.R_lower ho0 (below_size (by repeat (first | (with_reducible first | exact HB.out | apply below_alloc | apply pw_below_drewN | apply below_drew1) | exact HB.out)))); have n3_ := Aside0.mk (Kd.Q_lower ho1 (below_size (by repeat (first | (with_reducible first | exact HB.out | apply below_alloc | apply pw_below_drewN | apply below_drew1) | exact HB.out)))); have n4_ := Aside0.mk (below_step (by repeat (first | (with_reducible first | exact HB.out | apply below_alloc | apply pw_below_drewN | apply below_drew1) | exact HB.out)) hb); clear HO207; clear HO210; clear HB; have HO207 := n0_; have HO210 := n1_; have HO214 := n2_; have HO216 := n3_; have HB := n4_; clear n0_ n1_ n2_ n3_ n4_; (try clear hb); (try clear hb2); (try clear hk); (try clear hi); (try clear ho0); (try clear ho1); obtain ⟨Ao69, co69, eo69⟩ := Kd.R_slice HO207.out; subst eo69) | ((with_reducible refine gate_callee (f := 14) rfl ?_); refine goesL_ (some 36) rfl rfl Tryd.func14 (by kernel_rfl) rfl #[.slice Ao69 t205.length co69, .string a1] rfl (by (try simp only [List.map_toArray, List.map_cons, List.map_nil]); first | done | rfl | (simp only [List.length_drop, List.length_take]; rfl)) ?_; (with_reducible refine (head_Get.calls kj4 _ _ t205 a1 t217 t218 _ ?side1 ?side2 A11.out).mono ?_); (case side1 => repeat (first | exact (Kd.R_reads' HO207.out).2.2 | (with_reducible refine Kd.C_alloc ?_ _) | (with_reducible refine Kd.C_drewN ?_ _) | (with_reducible refine Kd.C_drew ?_))); (case side2 => exact (Kd.R_reads' HO207.out).2.1); rintro e w70 ⟨rfl, hb⟩; refine ⟨_, rfl, ?_⟩; have n0_ := Aside0.mk (Kd.R_below (by (with_reducible repeat (first | apply Kd.R_alloc | apply Kd.R_drewN | apply Kd.R_drew)); exact HO207.out) hb); have n1_ := Aside0.mk (Kd.V_below (by (with_reducible repeat (first | apply Kd.V_alloc | apply Kd.V_drewN | apply Kd.V_drew)); exact HO210.out) hb); have n2_ := Aside0.mk (Kd.R_below (by (with_reducible repeat (first | apply Kd.R_alloc | apply Kd.R_drewN | apply Kd.R_drew)); exact HO214.out) hb); have n3_ := Aside0.mk (Kd.Q_below (by (with_reducible repeat (first | apply Kd.Q_alloc | apply Kd.Q_drewN | apply Kd.Q_drew)); exact HO216.out) hb); have n4_ := Aside0.mk (below_step (by repeat (first | (with_reducible first | exact HB.out | apply below_alloc | apply pw_below_drewN | apply below_drew1) | exact HB.out)) hb); clear HO207; clear HO210; clear HO214; clear HO216; clear HB; have HO207 := n0_; have HO210 := n1_; have HO214 := n2_; have HO216 := n3_; have HB := n4_; clear n0_ n1_ n2_ n3_ n4_; (try clear hb); (try clear hb2); (try clear hk); (try clear hi); obtain ⟨Ao71, co71, eo71⟩ := Kd.R_slice HO214.out; subst eo71) | ((with_reducible refine gate_callee (f := 16) rfl ?_); refine goesL_ (some 42) rfl rfl Tryd.func16 (by kernel_rfl) rfl #[.slice Ao71 t211.length co71, .string a1] rfl (by (try simp only [List.map_toArray, List.map_cons, List.map_nil]); first | done | rfl | (simp only [List.length_drop, List.length_take]; rfl)) ?_; (with_reducible refine (mailbagref18_Get.calls kj4 _ _ t211 a1 t219 t220 _ ?side1 ?side2 A12.out).mono ?_); (case side1 => repeat (first | exact (Kd.R_reads' HO214.out).2.2 | (with_reducible refine Kd.C_alloc ?_ _) | (with_reducible refine Kd.C_drewN ?_ _) | (with_reducible refine Kd.C_drew ?_))); (case side2 => exact (Kd.R_reads' HO214.out).2.1); rintro e w72 ⟨rfl, hb⟩; refine ⟨_, rfl, ?_⟩; have n0_ := Aside0.mk (Kd.R_below (by (with_reducible repeat (first | apply Kd.R_alloc | apply Kd.R_drewN | apply Kd.R_drew)); exact HO207.out) hb); have n1_ := Aside0.mk (Kd.V_below (by (with_reducible repeat (first | apply Kd.V_alloc | apply Kd.V_drewN | apply Kd.V_drew)); exact HO210.out) hb); have n2_ := Aside0.mk (Kd.R_below (by (with_reducible repeat (first | apply Kd.R_alloc | apply Kd.R_drewN | apply Kd.R_drew)); exact HO214.out) hb); have n3_ := Aside0.mk (Kd.Q_below (by (with_reducible repeat (first | apply Kd.Q_alloc | apply Kd.Q_drewN | apply Kd.Q_drew)); exact HO216.out) hb); have n4_ := Aside0.mk (below_step (by repeat (first | (with_reducible first | exact HB.out | apply below_alloc | apply pw_below_drewN | apply below_drew1) | exact HB.out)) hb); clear HO207; clear HO210; clear HO214; clear HO216; clear HB; have HO207 := n0_; have HO210 := n1_; have HO214 := n2_; have HO216 := n3_; have HB := n4_; clear n0_ n1_ n2_ n3_ n4_; (try clear hb); (try clear hb2); (try clear hk); (try clear hi)) | ((with_reducible refine gate_callee (f := 17) rfl ?_); refine goesL_ (some 47) rfl rfl Tryd.func17 (by kernel_rfl) rfl #[.slice Ao69 t205.length co69, .slice Ao71 t211.length co71] rfl (by (try simp only [List.map_toArray, List.map_cons, List.map_nil]); first | done | rfl | (simp only [List.length_drop, List.length_take]; rfl)) ?_; (with_reducible refine (mailbaglaw18_same.calls kj4 _ _ t205 _ _ t211 true _ ?side1 ?side2 ?side3 ?side4 A13.out).mono ?_); (case side1 => repeat (first | exact (Kd.R_reads' HO207.out).2.2 | (with_reducible refine Kd.C_alloc ?_ _) | (with_reducible refine Kd.C_drewN ?_ _) | (with_reducible refine Kd.C_drew ?_))); (case side2 => exact (Kd.R_reads' HO207.out).2.1); (case side3 => repeat (first | exact (Kd.R_reads' HO214.out).2.2 | (with_reducible refine Kd.C_alloc ?_ _) | (with_reducible refine Kd.C_drewN ?_ _) | (with_reducible refine Kd.C_drew ?_))); (case side4 => exact (Kd.R_reads' HO214.out).2.1); rintro e w' ⟨rfl, ⟨nd, rfl⟩⟩; refine ⟨_, rfl, ?_⟩; (try (rw [drewN_self w72]; generalize hq_ : World.drewN w72 _ = w72; have n0_ : Aside0 (Kd.R k34 34 w72 w.heap.size (fun _ => True) (.slice Ao69 t205.length co69) t205) := ⟨by rw [← hq_]; exact (by (with_reducible repeat (first | apply Kd.R_alloc | apply Kd.R_drewN | apply Kd.R_drew)); exact HO207.out)⟩; have n1_ : Aside0 (Kd.V (Kd.int .u8) 5 w72 w.heap.size (fun k_ => some k_ ≠ (.slice Ao69 t205.length co69 : Value).ownBlock ∧ some k_ ≠ (.slice Ao71 t211.length co71 : Value).ownBlock ∧ some k_ ≠ (v215 : Value).ownBlock) v209 t208) := ⟨by rw [← hq_]; exact (by (with_reducible repeat (first | apply Kd.V_alloc | apply Kd.V_drewN | apply Kd.V_drew)); exact Kd.V_mono HO210.out (fun _ hk => ⟨hk.1.1, ⟨hk.1.2, hk.2⟩⟩))⟩; have n2_ : Aside0 (Kd.R k68 68 w72 w.heap.size (fun _ => True) (.slice Ao71 t211.length co71) t211) := ⟨by rw [← hq_]; exact (by (with_reducible repeat (first | apply Kd.R_alloc | apply Kd.R_drewN | apply Kd.R_drew)); exact HO214.out)⟩; have n3_ : Aside0 (Kd.Q (Kd.int .u8) 5 w72 w.heap.size (fun _ => True) v215 t212) := ⟨by rw [← hq_]; exact (by (with_reducible repeat (first | apply Kd.Q_alloc | apply Kd.Q_drewN | apply Kd.Q_drew)); exact HO216.out)⟩; have n4_ : Aside0 (Below w.heap.size w w72) := ⟨by rw [← hq_]; exact (by repeat (first | (with_reducible first | exact HB.out | apply below_alloc | apply pw_below_drewN | apply below_drew1) | exact HB.out))⟩; clear HO207 HO210 HO214 HO216 HB hq_; have HO207 := n0_; have HO210 := n1_; have HO214 := n2_; have HO216 := n3_; have HB := n4_; clear n0_ n1_ n2_ n3_ n4_)); obtain ⟨Ao73, co73, eo73⟩ := Kd.V_slice HO210.out; subst eo73; have hcv74 := Kd.C_string (P := Tryd.prog) (A := Ao73) (c := co73) Tryd.underlying26 Tryd.underlying5 Tryd.underlying9 (Kd.V_reads' HO210.out).2.2; obtain ⟨Ao75, co75, eo75, _⟩ := Kd.Q_slice HO216.out; subst eo75; have hcv76 := Kd.C_string (P := Tryd.prog) (A := Ao75) (c := co75) Tryd.underlying26 Tryd.underlying5 Tryd.underlying9 (Kd.Q_reads' HO216.out).2.2))
              go_ret
              exact ⟨by first | rfl | (simp [errW_none, errW_some] <;> rfl) | (simp [*, errW_none, errW_some] <;> rfl), by repeat (first | (with_reducible first | exact HB.out | apply below_alloc | apply pw_below_drewN | apply below_drew1) | exact HB.out)⟩
          · replace c14 := Bool.eq_false_iff.mpr c14
            subst c14
            have H1 : (some false) = some r := by rw [if_neg (show ¬ (false = true) by decide)] at H; exact H
            clear H
            have H := H1
            clear H1
            obtain rfl := Option.some.inj H
            go_wp2_with (first | ((with_reducible refine gate_callee (f := 13) rfl ?_); refine goesL_ (some 25) rfl rfl Tryd.func13 (by kernel_rfl) rfl #[.slice A0 l0.length c0] rfl (by (try simp only [List.map_toArray, List.map_cons, List.map_nil]); first | done | rfl | (simp only [List.length_drop, List.length_take]; rfl)) ?_; (with_reducible refine (head_Split.calls _ _ l0 t205 t208 _ ?side1 ?side2 ?side3 A9.out).mono ?_); (case side1 => repeat (first | exact (Kd.C_below HR0.out HB.out) | (with_reducible refine Kd.C_alloc ?_ _) | (with_reducible refine Kd.C_drewN ?_ _) | (with_reducible refine Kd.C_drew ?_))); (case side2 => exact HC0.out); (case side3 => exact shaped_below HSH.out (by repeat (first | (with_reducible first | exact HB.out | apply below_alloc | apply pw_below_drewN | apply below_drew1) | exact HB.out)) (Nat.le_refl _)); rintro e w77 ⟨v206, v209, rfl, ho0, ho1, hb⟩; refine ⟨_, rfl, ?_⟩; have n0_ := Aside0.mk (Kd.R_lower (Kd.R_mono (ok' := fun k_ => True) ho0 (fun _ hk_ => trivial)) (below_size (by repeat (first | (with_reducible first | exact HB.out | apply below_alloc | apply pw_below_drewN | apply below_drew1) | exact HB.out)))); have n1_ := Aside0.mk (Kd.V_lower (Kd.V_mono (ok' := fun k_ => some k_ ≠ (v206 : Value).ownBlock) ho1 (fun k_ hk_ => hk_.2)) (below_size (by repeat (first | (with_reducible first | exact HB.out | apply below_alloc | apply pw_below_drewN | apply below_drew1) | exact HB.out)))); have n2_ := Aside0.mk (below_step (by repeat (first | (with_reducible first | exact HB.out | apply below_alloc | apply pw_below_drewN | apply below_drew1) | exact HB.out)) hb); clear HB; have HO207 := n0_; have HO210 := n1_; have HB := n2_; clear n0_ n1_ n2_; (try clear hb); (try clear hb2); (try clear hk); (try clear hi); (try clear ho0); (try clear ho1)) | ((with_reducible refine gate_callee (f := 15) rfl ?_); refine goesL_ (some 30) rfl rfl Tryd.func15 (by kernel_rfl) rfl #[.slice A0 l0.length c0] rfl (by (try simp only [List.map_toArray, List.map_cons, List.map_nil]); first | done | rfl | (simp only [List.length_drop, List.length_take]; rfl)) ?_; (with_reducible refine (mailbagref18_Split.calls kj4 _ _ l0 t211 t212 _ ?side1 ?side2 A10.out).mono ?_); (case side1 => repeat (first | exact (Kd.C_below HR0.out HB.out) | (with_reducible refine Kd.C_alloc ?_ _) | (with_reducible refine Kd.C_drewN ?_ _) | (with_reducible refine Kd.C_drew ?_))); (case side2 => exact HC0.out); rintro e w78 ⟨v213, v215, rfl, ho0, ho1, hb⟩; refine ⟨_, rfl, ?_⟩; have n0_ := Aside0.mk (Kd.R_below (by (with_reducible repeat (first | apply Kd.R_alloc | apply Kd.R_drewN | apply Kd.R_drew)); exact HO207.out) hb); have n1_ := Aside0.mk (Kd.V_mono (Kd.V_told (Kd.V_told (Kd.V_old (by (with_reducible repeat (first | apply Kd.V_alloc | apply Kd.V_drewN | apply Kd.V_drew)); exact HO210.out) hb) (Kd.R_base ho0)) (Kd.Q_base ho1)) (fun _ h_ => h_.1)); have n2_ := Aside0.mk (Kd.R_lower ho0 (below_size (by repeat (first | (with_reducible first | exact HB.out | apply below_alloc | apply pw_below_drewN | apply below_drew1) | exact HB.out)))); have n3_ := Aside0.mk (Kd.Q_lower ho1 (below_size (by repeat (first | (with_reducible first | exact HB.out | apply below_alloc | apply pw_below_drewN | apply below_drew1) | exact HB.out)))); have n4_ := Aside0.mk (below_step (by repeat (first | (with_reducible first | exact HB.out | apply below_alloc | apply pw_below_drewN | apply below_drew1) | exact HB.out)) hb); clear HO207; clear HO210; clear HB; have HO207 := n0_; have HO210 := n1_; have HO214 := n2_; have HO216 := n3_; have HB := n4_; clear n0_ n1_ n2_ n3_ n4_; (try clear hb); (try clear hb2); (try clear hk); (try clear hi); (try clear ho0); (try clear ho1); obtain ⟨Ao79, co79, eo79⟩ := Kd.R_slice HO207.out; subst eo79) | ((with_reducible refine gate_callee (f := 14) rfl ?_); refine goesL_ (some 36) rfl rfl Tryd.func14 (by kernel_rfl) rfl #[.slice Ao79 t205.length co79, .string a1] rfl (by (try simp only [List.map_toArray, List.map_cons, List.map_nil]); first | done | rfl | (simp only [List.length_drop, List.length_take]; rfl)) ?_; (with_reducible refine (head_Get.calls kj4 _ _ t205 a1 t217 t218 _ ?side1 ?side2 A11.out).mono ?_); (case side1 => repeat (first | exact (Kd.R_reads' HO207.out).2.2 | (with_reducible refine Kd.C_alloc ?_ _) | (with_reducible refine Kd.C_drewN ?_ _) | (with_reducible refine Kd.C_drew ?_))); (case side2 => exact (Kd.R_reads' HO207.out).2.1); rintro e w80 ⟨rfl, hb⟩; refine ⟨_, rfl, ?_⟩; have n0_ := Aside0.mk (Kd.R_below (by (with_reducible repeat (first | apply Kd.R_alloc | apply Kd.R_drewN | apply Kd.R_drew)); exact HO207.out) hb); have n1_ := Aside0.mk (Kd.V_below (by (with_reducible repeat (first | apply Kd.V_alloc | apply Kd.V_drewN | apply Kd.V_drew)); exact HO210.out) hb); have n2_ := Aside0.mk (Kd.R_below (by (with_reducible repeat (first | apply Kd.R_alloc | apply Kd.R_drewN | apply Kd.R_drew)); exact HO214.out) hb); have n3_ := Aside0.mk (Kd.Q_below (by (with_reducible repeat (first | apply Kd.Q_alloc | apply Kd.Q_drewN | apply Kd.Q_drew)); exact HO216.out) hb); have n4_ := Aside0.mk (below_step (by repeat (first | (with_reducible first | exact HB.out | apply below_alloc | apply pw_below_drewN | apply below_drew1) | exact HB.out)) hb); clear HO207; clear HO210; clear HO214; clear HO216; clear HB; have HO207 := n0_; have HO210 := n1_; have HO214 := n2_; have HO216 := n3_; have HB := n4_; clear n0_ n1_ n2_ n3_ n4_; (try clear hb); (try clear hb2); (try clear hk); (try clear hi); obtain ⟨Ao81, co81, eo81⟩ := Kd.R_slice HO214.out; subst eo81) | ((with_reducible refine gate_callee (f := 16) rfl ?_); refine goesL_ (some 42) rfl rfl Tryd.func16 (by kernel_rfl) rfl #[.slice Ao81 t211.length co81, .string a1] rfl (by (try simp only [List.map_toArray, List.map_cons, List.map_nil]); first | done | rfl | (simp only [List.length_drop, List.length_take]; rfl)) ?_; (with_reducible refine (mailbagref18_Get.calls kj4 _ _ t211 a1 t219 t220 _ ?side1 ?side2 A12.out).mono ?_); (case side1 => repeat (first | exact (Kd.R_reads' HO214.out).2.2 | (with_reducible refine Kd.C_alloc ?_ _) | (with_reducible refine Kd.C_drewN ?_ _) | (with_reducible refine Kd.C_drew ?_))); (case side2 => exact (Kd.R_reads' HO214.out).2.1); rintro e w82 ⟨rfl, hb⟩; refine ⟨_, rfl, ?_⟩; have n0_ := Aside0.mk (Kd.R_below (by (with_reducible repeat (first | apply Kd.R_alloc | apply Kd.R_drewN | apply Kd.R_drew)); exact HO207.out) hb); have n1_ := Aside0.mk (Kd.V_below (by (with_reducible repeat (first | apply Kd.V_alloc | apply Kd.V_drewN | apply Kd.V_drew)); exact HO210.out) hb); have n2_ := Aside0.mk (Kd.R_below (by (with_reducible repeat (first | apply Kd.R_alloc | apply Kd.R_drewN | apply Kd.R_drew)); exact HO214.out) hb); have n3_ := Aside0.mk (Kd.Q_below (by (with_reducible repeat (first | apply Kd.Q_alloc | apply Kd.Q_drewN | apply Kd.Q_drew)); exact HO216.out) hb); have n4_ := Aside0.mk (below_step (by repeat (first | (with_reducible first | exact HB.out | apply below_alloc | apply pw_below_drewN | apply below_drew1) | exact HB.out)) hb); clear HO207; clear HO210; clear HO214; clear HO216; clear HB; have HO207 := n0_; have HO210 := n1_; have HO214 := n2_; have HO216 := n3_; have HB := n4_; clear n0_ n1_ n2_ n3_ n4_; (try clear hb); (try clear hb2); (try clear hk); (try clear hi)) | ((with_reducible refine gate_callee (f := 17) rfl ?_); refine goesL_ (some 47) rfl rfl Tryd.func17 (by kernel_rfl) rfl #[.slice Ao79 t205.length co79, .slice Ao81 t211.length co81] rfl (by (try simp only [List.map_toArray, List.map_cons, List.map_nil]); first | done | rfl | (simp only [List.length_drop, List.length_take]; rfl)) ?_; (with_reducible refine (mailbaglaw18_same.calls kj4 _ _ t205 _ _ t211 false _ ?side1 ?side2 ?side3 ?side4 A13.out).mono ?_); (case side1 => repeat (first | exact (Kd.R_reads' HO207.out).2.2 | (with_reducible refine Kd.C_alloc ?_ _) | (with_reducible refine Kd.C_drewN ?_ _) | (with_reducible refine Kd.C_drew ?_))); (case side2 => exact (Kd.R_reads' HO207.out).2.1); (case side3 => repeat (first | exact (Kd.R_reads' HO214.out).2.2 | (with_reducible refine Kd.C_alloc ?_ _) | (with_reducible refine Kd.C_drewN ?_ _) | (with_reducible refine Kd.C_drew ?_))); (case side4 => exact (Kd.R_reads' HO214.out).2.1); rintro e w' ⟨rfl, ⟨nd, rfl⟩⟩; refine ⟨_, rfl, ?_⟩))
            go_ret
            exact ⟨by first | rfl | (simp [errW_none, errW_some] <;> rfl) | (simp [*, errW_none, errW_some] <;> rfl), by repeat (first | (with_reducible first | exact HB.out | apply below_alloc | apply pw_below_drewN | apply below_drew1) | exact HB.out)⟩
  · replace c4 := Bool.eq_false_iff.mpr c4
    subst c4
    have H1 : (some false) = some r := by rw [if_neg (show ¬ (false = true) by decide)] at H; exact H
    clear H
    have H := H1
    clear H1
    obtain rfl := Option.some.inj H
    go_enter Tryd.func5, Tryd.ntmps5
    go_wp2_with (first | ((with_reducible refine gate_callee (f := 9) rfl ?_); refine goesL_ (some 13) rfl rfl Tryd.func9 (by kernel_rfl) rfl #[] rfl (by (try simp only [List.map_toArray, List.map_cons, List.map_nil]); first | done | rfl | (simp only [List.length_drop, List.length_take]; rfl)) ?_; (with_reducible refine (mailbaglaw18_known.calls  false _ ?side1 A3.out).mono ?_); (case side1 => exact shaped_below HSH.out (by repeat (first | (with_reducible first | exact HB.out | apply below_alloc | apply pw_below_drewN | apply below_drew1) | exact HB.out)) (Nat.le_refl _)); rintro e w83 ⟨rfl, hb⟩; refine ⟨_, rfl, ?_⟩; have n0_ := Aside0.mk (below_step (by repeat (first | (with_reducible first | exact HB.out | apply below_alloc | apply pw_below_drewN | apply below_drew1) | exact HB.out)) hb); clear HB; have HB := n0_; clear n0_; (try clear hb); (try clear hb2); (try clear hk); (try clear hi)))
    go_ret
    exact ⟨by first | rfl | (simp [errW_none, errW_some] <;> rfl) | (simp [*, errW_none, errW_some] <;> rfl), by repeat (first | (with_reducible first | exact HB.out | apply below_alloc | apply pw_below_drewN | apply below_drew1) | exact HB.out)⟩

/-! ### mailbaglaw18_few: function 22 -/
def mailbaglaw18_few.l0 : Nat → List (S34) → Int → Int → Option (Bool)
  | 0, _, _, _ => none
  | k + 1, x0, x3, x4 => if x4 < (x0.length : Int) then (if 0 ≤ x4 then (if (((rd_T34 x0 x4).f0).size : Int) > 200 then (some false) else (if (((rd_T34 x0 x4).f1).size : Int) > 4096 then (some false) else (mailbaglaw18_few.l0 k x0 (wrap64 (x3 + (((rd_T34 x0 x4).f1).size : Int))) (wrap64 (x4 + 1))))) else (none)) else (some (decide (x3 ≤ 4096)))
def mailbaglaw18_few.f (k : Nat) (l0 : List (S34)) : Option (Bool) := if (l0.length : Int) > 60 then (some false) else (mailbaglaw18_few.l0 k l0 0 0)
theorem mailbaglaw18_few.mono_l : ∀ k, (∀ y0 y1 y2, LeO (mailbaglaw18_few.l0 k y0 y1 y2) (mailbaglaw18_few.l0 (k + 1) y0 y1 y2))
  | 0 => fun _ _ _ r h => by simp [mailbaglaw18_few.l0] at h
  | k + 1 => by
    have ih0 := mailbaglaw18_few.mono_l k
    · intro y0 y1 y2
      unfold mailbaglaw18_few.l0
      repeat' first
      | (with_reducible exact ih0 _ _ _)
      | (with_reducible exact LeO.refl _)
      | (with_reducible exact LeO.none _)
      | (with_reducible refine LeO.ite ?_ ?_)
      | (with_reducible refine LeO.bind ?_ (fun _ => ?_))
      | exact ih0 _ _ _
      | exact LeO.none _
      | refine LeO.ite ?_ ?_
      | refine LeO.bind ?_ (fun _ => ?_)
theorem mailbaglaw18_few.mono : ∀ a0 k, LeO (mailbaglaw18_few.f k a0) (mailbaglaw18_few.f (k + 1) a0) := by
  intro a0 k
  have ih0 := mailbaglaw18_few.mono_l k
  unfold mailbaglaw18_few.f
  repeat' first
      | (with_reducible exact ih0 _ _ _)
      | (with_reducible exact LeO.refl _)
      | (with_reducible exact LeO.none _)
      | (with_reducible refine LeO.ite ?_ ?_)
      | (with_reducible refine LeO.bind ?_ (fun _ => ?_))
      | exact ih0 _ _ _
      | exact LeO.none _
      | refine LeO.ite ?_ ?_
      | refine LeO.bind ?_ (fun _ => ?_)
set_option maxHeartbeats 8000000 in
set_option maxRecDepth 100000 in
theorem mailbaglaw18_few.calls (k : Nat) (A0 : Option Addr) (c0 : Nat) (l0 : List (S34)) (r : Bool) (w : World) (hr0 : Kd.C k34 w A0 l0.length l0) (hc0 : l0.length ≤ c0) (h : mailbaglaw18_few.f k l0 = some r) :
    Calls Tryd.prog 22 #[.slice A0 l0.length c0] w fun e w' => e = .returned (.bool r) ∧ Drawn0 w w' := by
  have HR0 := Aside0.mk hr0
  have HC0 := Aside0.mk hc0
  clear hr0 hc0
  have H : (if (l0.length : Int) > 60 then (some false) else (mailbaglaw18_few.l0 k l0 0 0)) = some r := h
  clear h
  by_cases c2 : (l0.length : Int) > 60
  · rw [if_pos c2] at H
    have c2b0 : decide (60 < (l0.length : Int)) = true := decide_eq_true c2
    have c2b1 : decide (60 < l0.length) = true := decide_eq_true (by omega)
    clear c2
    obtain rfl := Option.some.inj H
    go_enter Tryd.func22, Tryd.ntmps22
    go_wp2
    go_ret
    exact ⟨by first | rfl | (simp; done) | (simp [*]; done), by repeat (first | exact Drawn0.refl _ | apply Drawn0.step)⟩
  · rw [if_neg c2] at H
    have c2b0 : decide (60 < (l0.length : Int)) = false := decide_eq_false c2
    have c2b1 : decide (60 < l0.length) = false := decide_eq_false (by omega)
    clear c2
    have H' := Aside0.mk H
    clear H
    go_enter Tryd.func22, Tryd.ntmps22
    go_wp2
    go_loopg [3, 4] k (fun kq v3 v4 w' => ∃ (x3_1 : Int) (x4_1 : Int), v3 = .int .i64 x3_1 ∧ v4 = .int .i64 x4_1 ∧ Aside0 (mailbaglaw18_few.l0 kq l0 x3_1 x4_1 = some r) ∧ Aside0 (kq ≤ k) ∧ Drawn0 w w')
    case atStart => exact ⟨(0), (0), (by first | rfl | (simp; done) | (simp [*]; done)), (by first | rfl | (simp; done) | (simp [*]; done)), H', ⟨Nat.le_refl _⟩, by repeat (first | exact Drawn0.refl _ | apply Drawn0.step)⟩
    case round =>
      clear H'
      try clear c2
      try clear c2b0
      try clear c2b1
      try clear p2
      obtain ⟨x3_1, x4_1, rfl, rfl, HA, HK1, ⟨m1, rfl⟩⟩ := hrel
      cases gk with
      | zero => exact absurd HA.out (by simp [mailbaglaw18_few.l0])
      | succ k1 =>
        have H := HA.out
        clear HA
        simp only [mailbaglaw18_few.l0] at H
        by_cases c3 : x4_1 < (l0.length : Int)
        · rw [if_pos c3] at H
          have c3b0 : decide (x4_1 < (l0.length : Int)) = true := decide_eq_true c3
          clear c3
          by_cases c4 : 0 ≤ x4_1
          · rw [if_pos c4] at H
            have c4b0 : decide (0 ≤ x4_1) = true := decide_eq_true c4
            clear c4
            by_cases c5 : (((rd_T34 l0 x4_1).f0).size : Int) > 200
            · rw [if_pos c5] at H
              have c5b0 : decide (200 < (((rd_T34 l0 x4_1).f0).size : Int)) = true := decide_eq_true c5
              have c5b1 : decide (200 < ((rd_T34 l0 x4_1).f0).size) = true := decide_eq_true (by omega)
              clear c5
              obtain rfl := Option.some.inj H
              have p226 : 0 ≤ (x4_1 : Int) := of_decide_eq_true (by first | (with_reducible assumption) | assumption)
              have q226 : x4_1 < (l0.length : Int) := of_decide_eq_true (by first | (with_reducible assumption) | assumption)
              obtain ⟨ad226, e226, hx226_0, hx226_1⟩ := at_T34 HR0.out x4_1 p226 q226
              cases e226
              replace p226 := eq_true p226
              replace q226 := eq_true q226
              go_wp2
              go_ret
              exact ⟨by first | rfl | (simp; done) | (simp [*]; done), by repeat (first | exact Drawn0.refl _ | apply Drawn0.step)⟩
            · rw [if_neg c5] at H
              have c5b0 : decide (200 < (((rd_T34 l0 x4_1).f0).size : Int)) = false := decide_eq_false c5
              have c5b1 : decide (200 < ((rd_T34 l0 x4_1).f0).size) = false := decide_eq_false (by omega)
              clear c5
              by_cases c6 : (((rd_T34 l0 x4_1).f1).size : Int) > 4096
              · rw [if_pos c6] at H
                have c6b0 : decide (4096 < (((rd_T34 l0 x4_1).f1).size : Int)) = true := decide_eq_true c6
                have c6b1 : decide (4096 < ((rd_T34 l0 x4_1).f1).size) = true := decide_eq_true (by omega)
                clear c6
                obtain rfl := Option.some.inj H
                have p226 : 0 ≤ (x4_1 : Int) := of_decide_eq_true (by first | (with_reducible assumption) | assumption)
                have q226 : x4_1 < (l0.length : Int) := of_decide_eq_true (by first | (with_reducible assumption) | assumption)
                obtain ⟨ad226, e226, hx226_0, hx226_1⟩ := at_T34 HR0.out x4_1 p226 q226
                cases e226
                replace p226 := eq_true p226
                replace q226 := eq_true q226
                have p227 : 0 ≤ (x4_1 : Int) := of_decide_eq_true (by first | (with_reducible assumption) | assumption)
                have q227 : x4_1 < (l0.length : Int) := of_decide_eq_true (by first | (with_reducible assumption) | assumption)
                obtain ⟨ad227, e227, hx227_0, hx227_1⟩ := at_T34 HR0.out x4_1 p227 q227
                obtain rfl : ad226 = ad227 := (by injection e227)
                replace p227 := eq_true p227
                replace q227 := eq_true q227
                go_wp2
                go_ret
                exact ⟨by first | rfl | (simp; done) | (simp [*]; done), by repeat (first | exact Drawn0.refl _ | apply Drawn0.step)⟩
              · rw [if_neg c6] at H
                have c6b0 : decide (4096 < (((rd_T34 l0 x4_1).f1).size : Int)) = false := decide_eq_false c6
                have c6b1 : decide (4096 < ((rd_T34 l0 x4_1).f1).size) = false := decide_eq_false (by omega)
                clear c6
                have H' := Aside0.mk H
                clear H
                have p226 : 0 ≤ (x4_1 : Int) := of_decide_eq_true (by first | (with_reducible assumption) | assumption)
                have q226 : x4_1 < (l0.length : Int) := of_decide_eq_true (by first | (with_reducible assumption) | assumption)
                obtain ⟨ad226, e226, hx226_0, hx226_1⟩ := at_T34 HR0.out x4_1 p226 q226
                cases e226
                replace p226 := eq_true p226
                replace q226 := eq_true q226
                have p227 : 0 ≤ (x4_1 : Int) := of_decide_eq_true (by first | (with_reducible assumption) | assumption)
                have q227 : x4_1 < (l0.length : Int) := of_decide_eq_true (by first | (with_reducible assumption) | assumption)
                obtain ⟨ad227, e227, hx227_0, hx227_1⟩ := at_T34 HR0.out x4_1 p227 q227
                obtain rfl : ad226 = ad227 := (by injection e227)
                replace p227 := eq_true p227
                replace q227 := eq_true q227
                have p228 : 0 ≤ (x4_1 : Int) := of_decide_eq_true (by first | (with_reducible assumption) | assumption)
                have q228 : x4_1 < (l0.length : Int) := of_decide_eq_true (by first | (with_reducible assumption) | assumption)
                obtain ⟨ad228, e228, hx228_0, hx228_1⟩ := at_T34 HR0.out x4_1 p228 q228
                obtain rfl : ad226 = ad228 := (by injection e228)
                replace p228 := eq_true p228
                replace q228 := eq_true q228
                go_wp2
                go_roundg k1
                case measure => have := HK1.out; omega
                case rel => exact ⟨(wrap64 (x3_1 + (((rd_T34 l0 x4_1).f1).size : Int))), (wrap64 (x4_1 + 1)), (by first | rfl | (simp; done) | (simp [*]; done)), (by first | rfl | (simp; done) | (simp [*]; done)), H', ⟨by have := HK1.out; omega⟩, by repeat (first | exact Drawn0.refl _ | apply Drawn0.step)⟩
          · rw [if_neg c4] at H
            exact absurd H (by simp)
        · rw [if_neg c3] at H
          have c3b0 : decide (x4_1 < (l0.length : Int)) = false := decide_eq_false c3
          clear c3
          obtain rfl := Option.some.inj H
          go_wp2
          go_ret
          exact ⟨by first | rfl | (simp; done) | (simp [*]; done), by repeat (first | exact Drawn0.refl _ | apply Drawn0.step)⟩



/-! ### mailbagref18_Join: function 24 -/
def mailbagref18_Join.f (l0 : List (S68)) (l1 : List Int) : Option (List Int) := (mailbagref18_Fields.f l0).bind fun t229 => ((some (([13, 10] : List Int) : List Int)).bind fun y232 => (if t229.length + y232.length < 140737488355328 then ((some (t229 ++ y232 : List Int)).bind fun y235 => (if y235.length + l1.length < 140737488355328 then (some (y235 ++ l1)) else (none))) else (none)))
set_option maxHeartbeats 8000000 in
set_option maxRecDepth 100000 in
theorem mailbagref18_Join.calls (A0 : Option Addr) (c0 : Nat) (l0 : List (S68)) (A1 : Option Addr) (c1 : Nat) (l1 : List Int) (r : List Int) (w : World) (hr0 : Kd.C k68 w A0 l0.length l0) (hc0 : l0.length ≤ c0) (hr1 : Kd.C (Kd.int .u8) w A1 l1.length l1) (hc1 : l1.length ≤ c1) (h : mailbagref18_Join.f l0 l1 = some r) :
    Calls Tryd.prog 24 #[.slice A0 l0.length c0, .slice A1 l1.length c1] w fun e w' => ∃ v0_ : Value, e = .returned (v0_) ∧ Kd.R (Kd.int .u8) 5 w' w.heap.size (fun _ => True) v0_ r ∧ Below w.heap.size w w' := by
  have HR0 := Aside0.mk hr0
  have HC0 := Aside0.mk hc0
  clear hr0 hc0
  have HR1 := Aside0.mk hr1
  have HC1 := Aside0.mk hc1
  clear hr1 hc1
  have HB := Aside0.mk (Below.refl w.heap.size w)
  have H : ((mailbagref18_Fields.f l0).bind fun t229 => ((some (([13, 10] : List Int) : List Int)).bind fun y232 => (if t229.length + y232.length < 140737488355328 then ((some (t229 ++ y232 : List Int)).bind fun y235 => (if y235.length + l1.length < 140737488355328 then (some (y235 ++ l1)) else (none))) else (none)))) = some r := h
  clear h
  replace H := Option.bind_eq_some_iff.mp H
  obtain ⟨t229, A30, H⟩ := H
  replace H : ((some (([13, 10] : List Int) : List Int)).bind fun y232 => (if t229.length + y232.length < 140737488355328 then ((some (t229 ++ y232 : List Int)).bind fun y235 => (if y235.length + l1.length < 140737488355328 then (some (y235 ++ l1)) else (none))) else (none))) = some r := H
  have A3 := Aside0.mk A30
  clear A30
  obtain ⟨y232, hy232⟩ : ∃ y_ : List Int, y_ = (([13, 10] : List Int)) := ⟨_, rfl⟩
  replace H : (if t229.length + y232.length < 140737488355328 then ((some (t229 ++ y232 : List Int)).bind fun y235 => (if y235.length + l1.length < 140737488355328 then (some (y235 ++ l1)) else (none))) else (none)) = some r := by first | (rw [hy232]; with_reducible exact H) | (have H2_ := (Option.bind_some _ _).symm.trans H; rw [hy232]; with_reducible exact H2_) | (have H2_ := (Option.bind_some _ _).symm.trans H; with_reducible exact H2_) | with_reducible exact H | (rw [hy232]; exact H) | exact H
  have Ny232 := Aside0.mk hy232
  clear hy232
  by_cases c4 : t229.length + y232.length < 140737488355328
  · rw [if_pos c4] at H
    have LMc4 := Aside0.mk c4
    clear c4
    obtain ⟨y235, hy235⟩ : ∃ y_ : List Int, y_ = (t229 ++ y232) := ⟨_, rfl⟩
    replace H : (if y235.length + l1.length < 140737488355328 then (some (y235 ++ l1)) else (none)) = some r := by first | (rw [hy235]; with_reducible exact H) | (have H2_ := (Option.bind_some _ _).symm.trans H; rw [hy235]; with_reducible exact H2_) | (have H2_ := (Option.bind_some _ _).symm.trans H; with_reducible exact H2_) | with_reducible exact H | (rw [hy235]; exact H) | exact H
    have Ny235 := Aside0.mk hy235
    clear hy235
    by_cases c5 : y235.length + l1.length < 140737488355328
    · rw [if_pos c5] at H
      have LMc5 := Aside0.mk c5
      clear c5
      obtain ⟨y238, hy238⟩ : ∃ y_ : List Int, y_ = (y235 ++ l1) := ⟨_, rfl⟩
      replace H : (some y238) = some r := by first | (rw [hy238]; with_reducible exact H) | (have H2_ := (Option.bind_some _ _).symm.trans H; rw [hy238]; with_reducible exact H2_) | (have H2_ := (Option.bind_some _ _).symm.trans H; with_reducible exact H2_) | with_reducible exact H | (rw [hy238]; exact H) | exact H
      have Ny238 := Aside0.mk hy238
      clear hy238
      obtain rfl := Option.some.inj H
      go_enter Tryd.func24, Tryd.ntmps24
      go_wp2_with (first | ((with_reducible refine gate_callee (f := 51) rfl ?_); refine goesL_ (some 6) rfl rfl Tryd.func51 (by kernel_rfl) rfl #[.slice A0 l0.length c0] rfl (by (try simp only [List.map_toArray, List.map_cons, List.map_nil]); first | done | rfl | (simp only [List.length_drop, List.length_take]; rfl)) ?_; (with_reducible refine (mailbagref18_Fields.calls _ _ l0 t229 _ ?side1 ?side2 A3.out).mono ?_); (case side1 => repeat (first | exact HR0.out | (with_reducible refine Kd.C_alloc ?_ _) | (with_reducible refine Kd.C_drewN ?_ _) | (with_reducible refine Kd.C_drew ?_))); (case side2 => exact HC0.out); rintro e w6 ⟨v230, rfl, ho0, hb⟩; refine ⟨_, rfl, ?_⟩; have n0_ := Aside0.mk (Kd.R_lower ho0 (below_size (by repeat (first | (with_reducible first | exact HB.out | apply below_alloc | apply pw_below_drewN | apply below_drew1) | exact HB.out)))); have n1_ := Aside0.mk (below_step (by repeat (first | (with_reducible first | exact HB.out | apply below_alloc | apply pw_below_drewN | apply below_drew1) | exact HB.out)) hb); clear HB; have HO231 := n0_; have HB := n1_; clear n0_ n1_; (try clear hb); (try clear hb2); (try clear hk); (try clear hi); (try clear ho0)) | ((with_reducible refine gate_dst (N := 7) rfl ?_); refine Kd.R_lit (Kd.int .u8) _ 5 ?hg (N := 7) ?hd (xs := ([13, 10] : List Int)) (inner := [.int .u8 13, .int .u8 10]) (ok := fun _ => True) (okp := fun _ => True) ?hr ?hp (fun _ hk => hk) trivial (Below.refl _ _) (Nat.le_refl _) (by simp) ?_; (case hd => rfl); (case hg => rfl); (case hr => first | (go_simp; done) | (go_simp; rfl)); (case hp => exact (Reps.one (show Kd.M (Kd.int .u8) _ _ _ 13 [.int .u8 13] from rfl) (Reps.one (show Kd.M (Kd.int .u8) _ _ _ 10 [.int .u8 10] from rfl) (Reps.none _ _)))); intro v233 w7 ho8 hb hg_ hnew_; clear hg_ hnew_; (first | rw [← Ny232.out] at ho8 | (simp only [Int.reduceToNat] at ho8; rw [← Ny232.out] at ho8)); have n0_ := Aside0.mk (Kd.R_elder' (by (with_reducible repeat (first | apply Kd.R_alloc | apply Kd.R_drewN | apply Kd.R_drew)); exact HO231.out) (Kd.R_base ho8) hb); have n1_ := Aside0.mk (Kd.R_lower (Kd.R_new' ho8 (Kd.R_lt (by (with_reducible repeat (first | apply Kd.R_alloc | apply Kd.R_drewN | apply Kd.R_drew)); exact HO231.out))) (below_size (by repeat (first | (with_reducible first | exact HB.out | apply below_alloc | apply pw_below_drewN | apply below_drew1) | exact HB.out)))); have n2_ := Aside0.mk (below_step (by repeat (first | (with_reducible first | exact HB.out | apply below_alloc | apply pw_below_drewN | apply below_drew1) | exact HB.out)) hb); clear HO231; clear HB; have HO231 := n0_; have HO234 := n1_; have HB := n2_; clear n0_ n1_ n2_; clear hb ho8; obtain ⟨Ao10, co10, eo10⟩ := Kd.R_slice HO234.out; subst eo10) | ((with_reducible refine gate_builtin (b := .append) (xs := #[.tmp 6, .tmp 7]) rfl ?_); at_builtin; refine Kd.R_append_rows (Kd.int .u8) (w0 := w) w.heap.size rfl (.tmp 6) (.tmp 7) 26 5 (.int .u8 0) 1 rfl Tryd.underlying26 info5 rfl (by decide) (by omega) v230 t229 y232 _ _ _ (fun k_ => some k_ ≠ (.slice Ao10 y232.length co10 : Value).ownBlock) (fun _ => False) rfl rfl ?aO ?aR (fun _ _ h => h) (fun _ h => h.elim) ?aF ?aB ?aS ?aL ?_; (case aR => repeat (first | exact (Kd.R_reads' HO234.out).2.2 | (with_reducible refine Kd.C_alloc ?_ _) | (with_reducible refine Kd.C_drewN ?_ _) | (with_reducible refine Kd.C_drew ?_))); (case aB => exact (by repeat (first | (with_reducible first | exact HB.out | apply below_alloc | apply pw_below_drewN | apply below_drew1) | exact HB.out))); (case aF => exact (fun k_ hk => Kd.fresh' (Kd.R_lt (by (with_reducible repeat (first | apply Kd.R_alloc | apply Kd.R_drewN | apply Kd.R_drew)); exact HO234.out)) k_ hk)); (case aO => exact (by (with_reducible repeat (first | apply Kd.R_alloc | apply Kd.R_drewN | apply Kd.R_drew)); exact Kd.R_mono HO231.out (fun _ hk => hk.2))); (case aS => exact (below_size (by repeat (first | (with_reducible first | exact HB.out | apply below_alloc | apply pw_below_drewN | apply below_drew1) | exact HB.out)))); (case aL => have := LMc4.out; omega); intro v236 w9 ho hb hg hat; rw [← Ny235.out] at ho; have n0_ := Aside0.mk (Kd.R_after (ok := (fun _ => True)) (by (with_reducible repeat (first | apply Kd.R_alloc | apply Kd.R_drewN | apply Kd.R_drew)); exact HO234.out) hg hat); have n1_ := Aside0.mk (hb); have n2_ := Aside0.mk (ho); clear HO234; clear HB; clear HO231; have HO234 := n0_; have HB := n1_; have HO237 := n2_; clear n0_ n1_ n2_; clear ho hb hg hat) | ((with_reducible refine gate_builtin (b := .append) (xs := #[.tmp 8, .tmp 9]) rfl ?_); at_builtin; refine Kd.R_append_rows (Kd.int .u8) (w0 := w) w.heap.size rfl (.tmp 8) (.tmp 9) 26 5 (.int .u8 0) 1 rfl Tryd.underlying26 info5 rfl (by decide) (by omega) v236 y235 l1 _ _ _ (fun k_ => some k_ ≠ (.slice Ao10 y232.length co10 : Value).ownBlock) (fun _ => False) rfl rfl ?aO ?aR (fun _ _ h => h) (fun _ h => h.elim) ?aF ?aB ?aS ?aL ?_; (case aR => repeat (first | exact (Kd.C_below HR1.out HB.out) | (with_reducible refine Kd.C_alloc ?_ _) | (with_reducible refine Kd.C_drewN ?_ _) | (with_reducible refine Kd.C_drew ?_))); (case aB => exact (by repeat (first | (with_reducible first | exact HB.out | apply below_alloc | apply pw_below_drewN | apply below_drew1) | exact HB.out))); (case aF => exact (fun k_ hk => Kd.fresh' (Kd.R_lt (by (with_reducible repeat (first | apply Kd.R_alloc | apply Kd.R_drewN | apply Kd.R_drew)); exact HO234.out)) k_ hk)); (case aO => exact (by (with_reducible repeat (first | apply Kd.R_alloc | apply Kd.R_drewN | apply Kd.R_drew)); exact HO237.out)); (case aS => exact (below_size (by repeat (first | (with_reducible first | exact HB.out | apply below_alloc | apply pw_below_drewN | apply below_drew1) | exact HB.out)))); (case aL => have := LMc5.out; omega); intro v239 w11 ho hb hg hat; rw [← Ny238.out] at ho; have n0_ := Aside0.mk (Kd.R_after (ok := (fun _ => True)) (by (with_reducible repeat (first | apply Kd.R_alloc | apply Kd.R_drewN | apply Kd.R_drew)); exact HO234.out) hg hat); have n1_ := Aside0.mk (hb); have n2_ := Aside0.mk (ho); clear HO234; clear HB; clear HO237; have HO234 := n0_; have HB := n1_; have HO240 := n2_; clear n0_ n1_ n2_; clear ho hb hg hat))
      go_ret
      exact ⟨_, by first | rfl | (simp [errW_none, errW_some] <;> rfl) | (simp [*, errW_none, errW_some] <;> rfl), by (with_reducible repeat (first | apply Kd.R_alloc | apply Kd.R_drewN | apply Kd.R_drew)); exact Kd.R_mono HO240.out (fun _ hk => trivial), by repeat (first | (with_reducible first | exact HB.out | apply below_alloc | apply pw_below_drewN | apply below_drew1) | exact HB.out)⟩
    · rw [if_neg c5] at H
      exact absurd H (by simp)
  · rw [if_neg c4] at H
    exact absurd H (by simp)

/-! ### mailbaglaw18_of: function 25 -/
def mailbaglaw18_of.l0 : Nat → List (S34) → List (S68) → Int → Option ((List (S68)))
  | 0, _, _, _ => none
  | k + 1, x0, x3, x4 => if x4 < (x0.length : Int) then (if 0 ≤ x4 then (if x3.length < 4398046511104 then (mailbaglaw18_of.l0 k x0 (x3 ++ [(⟨(rd_T34 x0 x4).f0, (rd_T34 x0 x4).f1⟩ : S68)]) (wrap64 (x4 + 1))) else (none)) else (none)) else (some x3)
def mailbaglaw18_of.f (k : Nat) (l0 : List (S34)) : Option ((List (S68))) := mailbaglaw18_of.l0 k l0 ([] : List (S68)) 0
theorem mailbaglaw18_of.mono_l : ∀ k, (∀ y0 y1 y2, LeO (mailbaglaw18_of.l0 k y0 y1 y2) (mailbaglaw18_of.l0 (k + 1) y0 y1 y2))
  | 0 => fun _ _ _ r h => by simp [mailbaglaw18_of.l0] at h
  | k + 1 => by
    have ih0 := mailbaglaw18_of.mono_l k
    · intro y0 y1 y2
      unfold mailbaglaw18_of.l0
      repeat' first
      | (with_reducible exact ih0 _ _ _)
      | (with_reducible exact LeO.refl _)
      | (with_reducible exact LeO.none _)
      | (with_reducible refine LeO.ite ?_ ?_)
      | (with_reducible refine LeO.bind ?_ (fun _ => ?_))
      | exact ih0 _ _ _
      | exact LeO.none _
      | refine LeO.ite ?_ ?_
      | refine LeO.bind ?_ (fun _ => ?_)
theorem mailbaglaw18_of.mono : ∀ a0 k, LeO (mailbaglaw18_of.f k a0) (mailbaglaw18_of.f (k + 1) a0) := by
  intro a0 k
  have ih0 := mailbaglaw18_of.mono_l k
  unfold mailbaglaw18_of.f
  repeat' first
      | (with_reducible exact ih0 _ _ _)
      | (with_reducible exact LeO.refl _)
      | (with_reducible exact LeO.none _)
      | (with_reducible refine LeO.ite ?_ ?_)
      | (with_reducible refine LeO.bind ?_ (fun _ => ?_))
      | exact ih0 _ _ _
      | exact LeO.none _
      | refine LeO.ite ?_ ?_
      | refine LeO.bind ?_ (fun _ => ?_)
set_option maxHeartbeats 8000000 in
set_option maxRecDepth 100000 in
theorem mailbaglaw18_of.calls (k : Nat) (A0 : Option Addr) (c0 : Nat) (l0 : List (S34)) (r : List (S68)) (w : World) (hr0 : Kd.C k34 w A0 l0.length l0) (hc0 : l0.length ≤ c0) (h : mailbaglaw18_of.f k l0 = some r) :
    Calls Tryd.prog 25 #[.slice A0 l0.length c0] w fun e w' => ∃ v0_ : Value, e = .returned (v0_) ∧ Kd.R k68 68 w' w.heap.size (fun _ => True) v0_ r ∧ Below w.heap.size w w' := by
  have hu34 := Tryd.underlying34
  have HR0 := Aside0.mk hr0
  have HC0 := Aside0.mk hc0
  clear hr0 hc0
  have HB := Aside0.mk (Below.refl w.heap.size w)
  have H : (mailbaglaw18_of.l0 k l0 ([] : List (S68)) 0) = some r := h
  clear h
  have H' := Aside0.mk H
  clear H
  go_enter Tryd.func25, Tryd.ntmps25
  go_wp2
  go_loopg [3, 4] k (fun kq v3 v4 w' => ∃ (x3_1 : List (S68)) (x4_1 : Int), v4 = .int .i64 x4_1 ∧ Aside0 (mailbaglaw18_of.l0 kq l0 x3_1 x4_1 = some r) ∧ Aside0 (kq ≤ k) ∧ Aside0 (Kd.R k68 68 w' w.heap.size (fun _ => True) v3 x3_1) ∧ Aside0 (Below w.heap.size w w'))
  case atStart => exact ⟨(([] : List (S68))), (0), (by first | rfl | (simp; done) | (simp [*]; done)), H', ⟨Nat.le_refl _⟩, ⟨by first | exact Kd.R_nil _ _ _ _ _ | exact Kd.N_nil _ _ _ _ _ | exact Kd.V_nil _ _ _ _ _ | exact Kd.Q_nil _ _ _ _ _ | exact Kd.S_nil _ _ _ _ _⟩, ⟨by repeat (first | (with_reducible first | exact HB.out | apply below_alloc | apply pw_below_drewN | apply below_drew1) | exact HB.out)⟩⟩
  case round =>
    clear H'
    obtain ⟨x3_1, x4_1, rfl, HA, HK1, HO_3, HB⟩ := hrel
    cases gk with
    | zero => exact absurd HA.out (by simp [mailbaglaw18_of.l0])
    | succ k1 =>
      have H := HA.out
      clear HA
      simp only [mailbaglaw18_of.l0] at H
      by_cases c2 : x4_1 < (l0.length : Int)
      · rw [if_pos c2] at H
        have c2b0 : decide (x4_1 < (l0.length : Int)) = true := decide_eq_true c2
        clear c2
        by_cases c3 : 0 ≤ x4_1
        · rw [if_pos c3] at H
          have c3b0 : decide (0 ≤ x4_1) = true := decide_eq_true c3
          clear c3
          by_cases c4 : x3_1.length < 4398046511104
          · rw [if_pos c4] at H
            have LMc4 := Aside0.mk c4
            clear c4
            obtain ⟨y242, hy242⟩ : ∃ y_ : List (S68), y_ = (x3_1 ++ [(⟨(rd_T34 l0 x4_1).f0, (rd_T34 l0 x4_1).f1⟩ : S68)]) := ⟨_, rfl⟩
            replace H : (mailbaglaw18_of.l0 k1 l0 y242 (wrap64 (x4_1 + 1))) = some r := by first | (rw [hy242]; with_reducible exact H) | (have H2_ := (Option.bind_some _ _).symm.trans H; rw [hy242]; with_reducible exact H2_) | (have H2_ := (Option.bind_some _ _).symm.trans H; with_reducible exact H2_) | with_reducible exact H | (rw [hy242]; exact H) | exact H
            have Ny242 := Aside0.mk hy242
            clear hy242
            have H' := Aside0.mk H
            clear H
            have p241 : 0 ≤ (x4_1 : Int) := of_decide_eq_true (by first | (with_reducible assumption) | assumption)
            have q241 : x4_1 < (l0.length : Int) := of_decide_eq_true (by first | (with_reducible assumption) | assumption)
            obtain ⟨ad241, e241, hx241_0, hx241_1⟩ := at_T34 HR0.out x4_1 p241 q241
            cases e241
            replace hx241_0 := (HB.out.cell (World.block_lt_of_cell? w _ hx241_0)).trans hx241_0
            replace hx241_1 := (HB.out.cell (World.block_lt_of_cell? w _ hx241_1)).trans hx241_1
            replace p241 := eq_true p241
            replace q241 := eq_true q241
            go_wp2_with (first | ((with_reducible refine gate_builtin (b := .append) (xs := #[.tmp 11, .tmp 16]) rfl ?_); at_builtin; refine Kd.R_append k68 (w0 := w) w.heap.size rfl (.tmp 11) (.tmp 16) 36 68 (.agg #[(.string ⟨#[]⟩), (.string ⟨#[]⟩)]) 32 rfl Tryd.underlying36 info68 rfl (by decide) (by omega) u3 x3_1 (⟨(rd_T34 l0 x4_1).f0, (rd_T34 l0 x4_1).f1⟩ : S68) [.string ((rd_T34 l0 x4_1).f0), .string ((rd_T34 l0 x4_1).f1)] (fun _ => True) (fun _ => False) rfl rfl ?aP (fun _ hk => hk.elim) ?aF ?aO ?aB ?aS ?aL ?_; (case aP => exact k68_mkM _ _ _ (⟨(rd_T34 l0 x4_1).f0, (rd_T34 l0 x4_1).f1⟩ : S68)); (case aB => exact (by repeat (first | (with_reducible first | exact HB.out | apply below_alloc | apply pw_below_drewN | apply below_drew1) | exact HB.out))); (case aF => exact (fun _ _ => trivial)); (case aO => exact (by (with_reducible repeat (first | apply Kd.R_alloc | apply Kd.R_drewN | apply Kd.R_drew)); exact HO_3.out)); (case aS => exact (below_size (by repeat (first | (with_reducible first | exact HB.out | apply below_alloc | apply pw_below_drewN | apply below_drew1) | exact HB.out)))); (case aL => have := LMc4.out; omega); intro v243 w5 ho hb hg hat; rw [← Ny242.out] at ho; have n0_ := Aside0.mk (hb); have n1_ := Aside0.mk (ho); clear HB; clear HO_3; have HB := n0_; have HO244 := n1_; clear n0_ n1_; clear ho hb hg hat))
            go_roundg k1
            case measure => have := HK1.out; omega
            case rel => exact ⟨(y242), (wrap64 (x4_1 + 1)), (by first | rfl | (simp; done) | (simp [*]; done)), H', ⟨by have := HK1.out; omega⟩, ⟨by (with_reducible repeat (first | apply Kd.R_alloc | apply Kd.R_drewN | apply Kd.R_drew)); exact HO244.out⟩, ⟨by repeat (first | (with_reducible first | exact HB.out | apply below_alloc | apply pw_below_drewN | apply below_drew1) | exact HB.out)⟩⟩
          · rw [if_neg c4] at H
            exact absurd H (by simp)
        · rw [if_neg c3] at H
          exact absurd H (by simp)
      · rw [if_neg c2] at H
        have c2b0 : decide (x4_1 < (l0.length : Int)) = false := decide_eq_false c2
        clear c2
        obtain rfl := Option.some.inj H
        go_wp2
        go_ret
        exact ⟨_, by first | rfl | (simp [errW_none, errW_some] <;> rfl) | (simp [*, errW_none, errW_some] <;> rfl), by (with_reducible repeat (first | apply Kd.R_alloc | apply Kd.R_drewN | apply Kd.R_drew)); exact HO_3.out, by repeat (first | (with_reducible first | exact HB.out | apply below_alloc | apply pw_below_drewN | apply below_drew1) | exact HB.out)⟩

end Go.Proofs.YtfpcngoonfbphaaDoor.XH

/- A row that is only read, as a string. -/
set_option linter.unusedVariables false
namespace Go.Proofs.YtfpcngoonfbphaaDoor
open Go.RowKit Go.Proofs.YtfpcngoonfbphaaDoorW.PrintWords
theorem conv_of_V {P : Program} {src e dst : TypeId} (hs : P.underlying src = some (.slice e)) (he : P.underlying e = some (.int .u8)) (hd : P.underlying dst = some .string) {W : World} {e' : TypeId} {base : Nat} {ok : Nat → Prop} {v : Value} {xs : List Int} (h : Kd.V (Kd.int .u8) e' W base ok v xs) :
    (convert src dst v).run P W = .ok (.string (strOfNums xs)) W := by
  obtain ⟨A, c, rfl, hl, hf⟩ := h
  exact Kd.C_string hs he hd (Kd.F_now hf)
end Go.Proofs.YtfpcngoonfbphaaDoor

/- Contracts of Go functions: for each function a Lean function with its answers, and the proof that the Go code comes to these. Written by wip/px.py of this session, upon the kit's printer. -/
namespace Go.Proofs.YtfpcngoonfbphaaDoor.XH
open Go.RowKit Go.Proofs.YtfpcngoonfbphaaDoorW.PrintWords Go.Proofs.YtfpcngoonfbphaaDoorW.PrintLast Go.Proofs.YtfpcngoonfbphaaDoorW.PrintMore
attribute [local go_sem] max2_int min2_int max_two min_two max_three min_three max_four min_four   -- for this text's walks alone
set_option linter.unusedVariables false
set_option linter.unusedSimpArgs false

/-! ### mailbaglaw18_HeadJoins: function 6 -/
mutual
def mailbaglaw18_HeadJoins.j0 : Nat → List (S34) → List Int → Bool → Option (Bool)
  | 0, _, _, _ => none
  | k + 1, x0, x1, x19 => if x19 = true then (some true) else ((head_Join.f x0 x1).bind fun t247 => ((mailbaglaw18_of.f k x0).bind fun t250 => ((mailbagref18_Join.f t250 x1).bind fun t253 => (if (strOfNums t247).toList = (strOfNums t253).toList then (mailbaglaw18_HeadJoins.l0 k x0 x1 t247 0) else (some false)))))
def mailbaglaw18_HeadJoins.l0 : Nat → List (S34) → List Int → List Int → Int → Option (Bool)
  | 0, _, _, _, _ => none
  | k + 1, x0, x1, x5, x6 => if x6 < (x0.length : Int) then (if 0 ≤ x6 then ((mailbagref18_Name.f k ((rd_T34 x0 x6).f0)).bind fun t257 => (if t257 = true then (mailbaglaw18_HeadJoins.l1 k x0 x1 x5 x6 0) else (some true))) else (none)) else ((head_Split.f x5).bind fun bt261 => ((mailbaglaw18_of.f k x0).bind fun t267 => ((mailbaglaw18_same.f k bt261.1 t267).bind fun t270 => (if t270 = true then ((mailbagref17_Whole.f x1).bind fun t271 => (some ((strOfNums bt261.2).toList == (strOfNums t271).toList))) else (some false)))))
def mailbaglaw18_HeadJoins.l1 : Nat → List (S34) → List Int → List Int → Int → Int → Option (Bool)
  | 0, _, _, _, _, _ => none
  | k + 1, x0, x1, x5, x6, x7 => if 0 ≤ x6 then (if x6 < (x0.length : Int) then (if x7 < (((rd_T34 x0 x6).f1).size : Int) then (if 0 ≤ x7 then (if (bt ((rd_T34 x0 x6).f1) x7) = 13 then (some true) else (if (bt ((rd_T34 x0 x6).f1) x7) = 10 then (some true) else (mailbaglaw18_HeadJoins.l1 k x0 x1 x5 x6 (wrap64 (x7 + 1))))) else (none)) else (mailbaglaw18_HeadJoins.l0 k x0 x1 x5 (wrap64 (x6 + 1)))) else (none)) else (none)
end
def mailbaglaw18_HeadJoins.f (k : Nat) (l0 : List (S34)) (l1 : List Int) : Option (Bool) := (mailbaglaw18_known.f).bind fun t245 => (if t245 = true then ((mailbaglaw18_few.f k l0).bind fun t246 => (if t246 = true then (mailbaglaw18_HeadJoins.j0 k l0 l1 (decide ((l1.length : Int) > 4096))) else (mailbaglaw18_HeadJoins.j0 k l0 l1 true))) else (some false))
theorem mailbaglaw18_HeadJoins.mono_l : ∀ k, (∀ y0 y1 y2, LeO (mailbaglaw18_HeadJoins.j0 k y0 y1 y2) (mailbaglaw18_HeadJoins.j0 (k + 1) y0 y1 y2)) ∧ (∀ y0 y1 y2 y3, LeO (mailbaglaw18_HeadJoins.l0 k y0 y1 y2 y3) (mailbaglaw18_HeadJoins.l0 (k + 1) y0 y1 y2 y3)) ∧ (∀ y0 y1 y2 y3 y4, LeO (mailbaglaw18_HeadJoins.l1 k y0 y1 y2 y3 y4) (mailbaglaw18_HeadJoins.l1 (k + 1) y0 y1 y2 y3 y4))
  | 0 => ⟨fun _ _ _ r h => by simp [mailbaglaw18_HeadJoins.j0] at h, fun _ _ _ _ r h => by simp [mailbaglaw18_HeadJoins.l0] at h, fun _ _ _ _ _ r h => by simp [mailbaglaw18_HeadJoins.l1] at h⟩
  | k + 1 => by
    obtain ⟨ih0, ih1, ih2⟩ := mailbaglaw18_HeadJoins.mono_l k
    refine ⟨?_, ?_, ?_⟩
    · intro y0 y1 y2
      unfold mailbaglaw18_HeadJoins.j0
      repeat' first
      | (with_reducible exact ih0 _ _ _)
      | (with_reducible exact ih1 _ _ _ _)
      | (with_reducible exact ih2 _ _ _ _ _)
      | (with_reducible exact mailbaglaw18_few.mono _ _)
      | (with_reducible exact mailbaglaw18_of.mono _ _)
      | (with_reducible exact mailbaglaw18_same.mono _ _ _)
      | (with_reducible exact mailbagref18_Name.mono _ _)
      | (with_reducible exact LeO.refl _)
      | (with_reducible exact LeO.none _)
      | (with_reducible refine LeO.ite ?_ ?_)
      | (with_reducible refine LeO.bind ?_ (fun _ => ?_))
      | exact ih0 _ _ _
      | exact ih1 _ _ _ _
      | exact ih2 _ _ _ _ _
      | exact mailbaglaw18_few.mono _ _
      | exact mailbaglaw18_of.mono _ _
      | exact mailbaglaw18_same.mono _ _ _
      | exact mailbagref18_Name.mono _ _
      | exact LeO.none _
      | refine LeO.ite ?_ ?_
      | refine LeO.bind ?_ (fun _ => ?_)
    · intro y0 y1 y2 y3
      unfold mailbaglaw18_HeadJoins.l0
      repeat' first
      | (with_reducible exact ih0 _ _ _)
      | (with_reducible exact ih1 _ _ _ _)
      | (with_reducible exact ih2 _ _ _ _ _)
      | (with_reducible exact mailbaglaw18_few.mono _ _)
      | (with_reducible exact mailbaglaw18_of.mono _ _)
      | (with_reducible exact mailbaglaw18_same.mono _ _ _)
      | (with_reducible exact mailbagref18_Name.mono _ _)
      | (with_reducible exact LeO.refl _)
      | (with_reducible exact LeO.none _)
      | (with_reducible refine LeO.ite ?_ ?_)
      | (with_reducible refine LeO.bind ?_ (fun _ => ?_))
      | exact ih0 _ _ _
      | exact ih1 _ _ _ _
      | exact ih2 _ _ _ _ _
      | exact mailbaglaw18_few.mono _ _
      | exact mailbaglaw18_of.mono _ _
      | exact mailbaglaw18_same.mono _ _ _
      | exact mailbagref18_Name.mono _ _
      | exact LeO.none _
      | refine LeO.ite ?_ ?_
      | refine LeO.bind ?_ (fun _ => ?_)
    · intro y0 y1 y2 y3 y4
      unfold mailbaglaw18_HeadJoins.l1
      repeat' first
      | (with_reducible exact ih0 _ _ _)
      | (with_reducible exact ih1 _ _ _ _)
      | (with_reducible exact ih2 _ _ _ _ _)
      | (with_reducible exact mailbaglaw18_few.mono _ _)
      | (with_reducible exact mailbaglaw18_of.mono _ _)
      | (with_reducible exact mailbaglaw18_same.mono _ _ _)
      | (with_reducible exact mailbagref18_Name.mono _ _)
      | (with_reducible exact LeO.refl _)
      | (with_reducible exact LeO.none _)
      | (with_reducible refine LeO.ite ?_ ?_)
      | (with_reducible refine LeO.bind ?_ (fun _ => ?_))
      | exact ih0 _ _ _
      | exact ih1 _ _ _ _
      | exact ih2 _ _ _ _ _
      | exact mailbaglaw18_few.mono _ _
      | exact mailbaglaw18_of.mono _ _
      | exact mailbaglaw18_same.mono _ _ _
      | exact mailbagref18_Name.mono _ _
      | exact LeO.none _
      | refine LeO.ite ?_ ?_
      | refine LeO.bind ?_ (fun _ => ?_)
theorem mailbaglaw18_HeadJoins.mono : ∀ a0 a1 k, LeO (mailbaglaw18_HeadJoins.f k a0 a1) (mailbaglaw18_HeadJoins.f (k + 1) a0 a1) := by
  intro a0 a1 k
  obtain ⟨ih0, ih1, ih2⟩ := mailbaglaw18_HeadJoins.mono_l k
  unfold mailbaglaw18_HeadJoins.f
  repeat' first
      | (with_reducible exact ih0 _ _ _)
      | (with_reducible exact ih1 _ _ _ _)
      | (with_reducible exact ih2 _ _ _ _ _)
      | (with_reducible exact mailbaglaw18_few.mono _ _)
      | (with_reducible exact mailbaglaw18_of.mono _ _)
      | (with_reducible exact mailbaglaw18_same.mono _ _ _)
      | (with_reducible exact mailbagref18_Name.mono _ _)
      | (with_reducible exact LeO.refl _)
      | (with_reducible exact LeO.none _)
      | (with_reducible refine LeO.ite ?_ ?_)
      | (with_reducible refine LeO.bind ?_ (fun _ => ?_))
      | exact ih0 _ _ _
      | exact ih1 _ _ _ _
      | exact ih2 _ _ _ _ _
      | exact mailbaglaw18_few.mono _ _
      | exact mailbaglaw18_of.mono _ _
      | exact mailbaglaw18_same.mono _ _ _
      | exact mailbagref18_Name.mono _ _
      | exact LeO.none _
      | refine LeO.ite ?_ ?_
      | refine LeO.bind ?_ (fun _ => ?_)
def mailbaglaw18_HeadJoins.T6 : Bool × List (List Nat × List Nat) := (true, [([], []), ([0], [0]), ([], []), ([2], [2]), ([], []), ([3, 4, 3], [3, 4]), ([5], [5]), ([1, 6], [1, 6])])
def mailbaglaw18_HeadJoins.B6 : List Nat := [0, 1, 0, 4, 0, 28, 60, 127]
theorem mailbaglaw18_HeadJoins.tab6 : rtab .any (opsOf Tryd.f6 6) = mailbaglaw18_HeadJoins.T6 := by kernel_rfl
theorem mailbaglaw18_HeadJoins.bits6 : waitsOk mailbaglaw18_HeadJoins.T6.2 mailbaglaw18_HeadJoins.B6 = true := by kernel_rfl
def mailbaglaw18_HeadJoins.T19 : Bool × List (List Nat × List Nat) := (true, [([], []), ([], []), ([1], [1]), ([0, 2, 2], [0, 2]), ([3, 3], [3]), ([4], [4]), ([5, 4], [4, 5]), ([4], [4]), ([7, 4, 4], [4, 7]), ([8, 4], [4, 8]), ([6, 9, 4], [4, 6, 9]), ([4, 10], [4, 10]), ([11, 8, 0, 1, 2, 3, 4, 5, 6, 7, 8, 9, 10, 11], [11])])
def mailbaglaw18_HeadJoins.B19 : List Nat := [0, 0, 2, 7, 15, 31, 63, 31, 159, 415, 1023, 2047, 4095]
theorem mailbaglaw18_HeadJoins.tab19 : rtab .any (opsOf Tryd.f6 19) = mailbaglaw18_HeadJoins.T19 := by kernel_rfl
theorem mailbaglaw18_HeadJoins.bits19 : waitsOk mailbaglaw18_HeadJoins.T19.2 mailbaglaw18_HeadJoins.B19 = true := by kernel_rfl
set_option maxHeartbeats 8000000 in
set_option maxRecDepth 100000 in
theorem mailbaglaw18_HeadJoins.calls (k : Nat) (A0 : Option Addr) (c0 : Nat) (l0 : List (S34)) (A1 : Option Addr) (c1 : Nat) (l1 : List Int) (r : Bool) (w : World) (hr0 : Kd.C k34 w A0 l0.length l0) (hc0 : l0.length ≤ c0) (hr1 : Kd.C (Kd.int .u8) w A1 l1.length l1) (hc1 : l1.length ≤ c1) (hsh : w.ShapedOpen Tryd.prog) (h : mailbaglaw18_HeadJoins.f k l0 l1 = some r) :
    Calls Tryd.prog 6 #[.slice A0 l0.length c0, .slice A1 l1.length c1] w fun e w' => e = .returned (.bool r) ∧ Below w.heap.size w w' := by
  have HR0 := Aside0.mk hr0
  have HC0 := Aside0.mk hc0
  clear hr0 hc0
  have HR1 := Aside0.mk hr1
  have HC1 := Aside0.mk hc1
  clear hr1 hc1
  have HB := Aside0.mk (Below.refl w.heap.size w)
  have HSH := Aside0.mk hsh
  clear hsh
  have H : ((mailbaglaw18_known.f).bind fun t245 => (if t245 = true then ((mailbaglaw18_few.f k l0).bind fun t246 => (if t246 = true then (mailbaglaw18_HeadJoins.j0 k l0 l1 (decide ((l1.length : Int) > 4096))) else (mailbaglaw18_HeadJoins.j0 k l0 l1 true))) else (some false))) = some r := h
  clear h
  replace H := Option.bind_eq_some_iff.mp H
  obtain ⟨t245, A30, H⟩ := H
  replace H : (if t245 = true then ((mailbaglaw18_few.f k l0).bind fun t246 => (if t246 = true then (mailbaglaw18_HeadJoins.j0 k l0 l1 (decide ((l1.length : Int) > 4096))) else (mailbaglaw18_HeadJoins.j0 k l0 l1 true))) else (some false)) = some r := H
  have A3 := Aside0.mk A30
  clear A30
  by_cases c4 : t245 = true
  · subst c4
    have H1 : ((mailbaglaw18_few.f k l0).bind fun t246 => (if t246 = true then (mailbaglaw18_HeadJoins.j0 k l0 l1 (decide ((l1.length : Int) > 4096))) else (mailbaglaw18_HeadJoins.j0 k l0 l1 true))) = some r := by rw [if_pos rfl] at H; exact H
    clear H
    have H := H1
    clear H1
    have HC5 := Aside0.mk H
    clear H
    go_enter Tryd.func6, Tryd.ntmps6
    go_upto_region 3 with (first | ((with_reducible refine gate_callee (f := 9) rfl ?_); refine goesL_ (some 10) rfl rfl Tryd.func9 (by kernel_rfl) rfl #[] rfl (by (try simp only [List.map_toArray, List.map_cons, List.map_nil]); first | done | rfl | (simp only [List.length_drop, List.length_take]; rfl)) ?_; (with_reducible refine (mailbaglaw18_known.calls  true _ ?side1 A3.out).mono ?_); (case side1 => exact shaped_below HSH.out (by repeat (first | (with_reducible first | exact HB.out | apply below_alloc | apply pw_below_drewN | apply below_drew1) | exact HB.out)) (Nat.le_refl _)); rintro e w6 ⟨rfl, hb⟩; refine ⟨_, rfl, ?_⟩; have n0_ := Aside0.mk (below_step (by repeat (first | (with_reducible first | exact HB.out | apply below_alloc | apply pw_below_drewN | apply below_drew1) | exact HB.out)) hb); clear HB; have HB := n0_; clear n0_; (try clear hb); (try clear hb2); (try clear hk); (try clear hi)))
    (try simp only [Act.put, List.setIfInBounds_toArray, List.set_cons_zero, List.set_cons_succ])
    go_cut [19] (fun v19 wc => ∃ (kq : Nat) (x19_4 : Bool), v19 = .bool x19_4 ∧ Aside0 (mailbaglaw18_HeadJoins.j0 kq l0 l1 x19_4 = some r) ∧ Aside0 (kq ≤ k) ∧ Aside0 (Below w.heap.size w wc))
    case first =>
      have H := HC5.out
      clear HC5
      replace H := Option.bind_eq_some_iff.mp H
      obtain ⟨t246, A70, H⟩ := H
      replace H : (if t246 = true then (mailbaglaw18_HeadJoins.j0 k l0 l1 (decide ((l1.length : Int) > 4096))) else (mailbaglaw18_HeadJoins.j0 k l0 l1 true)) = some r := H
      have A7 := Aside0.mk A70
      clear A70
      by_cases c8 : t246 = true
      · subst c8
        have H1 : (mailbaglaw18_HeadJoins.j0 k l0 l1 (decide ((l1.length : Int) > 4096))) = some r := by rw [if_pos rfl] at H; exact H
        clear H
        have H := H1
        clear H1
        have H' := Aside0.mk H
        clear H
        go_wp2_with (first | ((with_reducible refine gate_callee (f := 22) rfl ?_); refine goesL_ (some 13) rfl rfl Tryd.func22 (by kernel_rfl) rfl #[.slice A0 l0.length c0] rfl (by (try simp only [List.map_toArray, List.map_cons, List.map_nil]); first | done | rfl | (simp only [List.length_drop, List.length_take]; rfl)) ?_; (with_reducible refine (mailbaglaw18_few.calls k _ _ l0 true _ ?side1 ?side2 A7.out).mono ?_); (case side1 => repeat (first | exact (Kd.C_below HR0.out HB.out) | (with_reducible refine Kd.C_alloc ?_ _) | (with_reducible refine Kd.C_drewN ?_ _) | (with_reducible refine Kd.C_drew ?_))); (case side2 => exact HC0.out); rintro e w' ⟨rfl, ⟨nd, rfl⟩⟩; refine ⟨_, rfl, ?_⟩))
        go_meet
        case rel => exact ⟨_, (decide ((l1.length : Int) > 4096)), (by first | rfl | (simp; done) | (simp [*]; done)), H', ⟨by first | omega | exact Nat.le_refl _⟩, ⟨by repeat (first | (with_reducible first | exact HB.out | apply below_alloc | apply pw_below_drewN | apply below_drew1) | exact HB.out)⟩⟩
      · replace c8 := Bool.eq_false_iff.mpr c8
        subst c8
        have H1 : (mailbaglaw18_HeadJoins.j0 k l0 l1 true) = some r := by rw [if_neg (show ¬ (false = true) by decide)] at H; exact H
        clear H
        have H := H1
        clear H1
        have H' := Aside0.mk H
        clear H
        go_wp2_with (first | ((with_reducible refine gate_callee (f := 22) rfl ?_); refine goesL_ (some 13) rfl rfl Tryd.func22 (by kernel_rfl) rfl #[.slice A0 l0.length c0] rfl (by (try simp only [List.map_toArray, List.map_cons, List.map_nil]); first | done | rfl | (simp only [List.length_drop, List.length_take]; rfl)) ?_; (with_reducible refine (mailbaglaw18_few.calls k _ _ l0 false _ ?side1 ?side2 A7.out).mono ?_); (case side1 => repeat (first | exact (Kd.C_below HR0.out HB.out) | (with_reducible refine Kd.C_alloc ?_ _) | (with_reducible refine Kd.C_drewN ?_ _) | (with_reducible refine Kd.C_drew ?_))); (case side2 => exact HC0.out); rintro e w' ⟨rfl, ⟨nd, rfl⟩⟩; refine ⟨_, rfl, ?_⟩))
        go_meet
        case rel => exact ⟨_, (true), (by first | rfl | (simp; done) | (simp [*]; done)), H', ⟨by first | omega | exact Nat.le_refl _⟩, ⟨by repeat (first | (with_reducible first | exact HB.out | apply below_alloc | apply pw_below_drewN | apply below_drew1) | exact HB.out)⟩⟩
    case rest =>
      clear HC5
      try clear c1
      try clear c2
      try clear p2
      try clear c4
      try clear c6
      try clear c8
      obtain ⟨kq, x19_4, rfl, HA, HJ4, HB⟩ := hcut
      cases kq with
      | zero => exact absurd HA.out (by simp [mailbaglaw18_HeadJoins.j0])
      | succ kj4 =>
        have H := HA.out
        clear HA
        simp only [mailbaglaw18_HeadJoins.j0] at H
        by_cases c9 : x19_4 = true
        · subst c9
          have H1 : (some true) = some r := by rw [if_pos rfl] at H; exact H
          clear H
          have H := H1
          clear H1
          obtain rfl := Option.some.inj H
          go_wp2
          go_ret
          exact ⟨by first | rfl | (simp [errW_none, errW_some] <;> rfl) | (simp [*, errW_none, errW_some] <;> rfl), by repeat (first | (with_reducible first | exact HB.out | apply below_alloc | apply pw_below_drewN | apply below_drew1) | exact HB.out)⟩
        · replace c9 := Bool.eq_false_iff.mpr c9
          subst c9
          have H1 : ((head_Join.f l0 l1).bind fun t247 => ((mailbaglaw18_of.f kj4 l0).bind fun t250 => ((mailbagref18_Join.f t250 l1).bind fun t253 => (if (strOfNums t247).toList = (strOfNums t253).toList then (mailbaglaw18_HeadJoins.l0 kj4 l0 l1 t247 0) else (some false))))) = some r := by rw [if_neg (show ¬ (false = true) by decide)] at H; exact H
          clear H
          have H := H1
          clear H1
          replace H := Option.bind_eq_some_iff.mp H
          obtain ⟨t247, A100, H⟩ := H
          replace H : ((mailbaglaw18_of.f kj4 l0).bind fun t250 => ((mailbagref18_Join.f t250 l1).bind fun t253 => (if (strOfNums t247).toList = (strOfNums t253).toList then (mailbaglaw18_HeadJoins.l0 kj4 l0 l1 t247 0) else (some false)))) = some r := H
          have A10 := Aside0.mk A100
          clear A100
          replace H := Option.bind_eq_some_iff.mp H
          obtain ⟨t250, A110, H⟩ := H
          replace H : ((mailbagref18_Join.f t250 l1).bind fun t253 => (if (strOfNums t247).toList = (strOfNums t253).toList then (mailbaglaw18_HeadJoins.l0 kj4 l0 l1 t247 0) else (some false))) = some r := H
          have A11 := Aside0.mk A110
          clear A110
          replace H := Option.bind_eq_some_iff.mp H
          obtain ⟨t253, A120, H⟩ := H
          replace H : (if (strOfNums t247).toList = (strOfNums t253).toList then (mailbaglaw18_HeadJoins.l0 kj4 l0 l1 t247 0) else (some false)) = some r := H
          have A12 := Aside0.mk A120
          clear A120
          by_cases c13 : (strOfNums t247).toList = (strOfNums t253).toList
          · rw [if_pos c13] at H
            have c13b0 : ((strOfNums t247).toList == (strOfNums t253).toList) = true := beq_iff_eq.mpr c13
            have c13b1 : ((strOfNums t247).toList != (strOfNums t253).toList) = false := bne_eq_false_iff_eq.mpr c13
            clear c13
            have H' := Aside0.mk H
            clear H
            try go_wp2_with (first | ((with_reducible refine gate_callee (f := 23) rfl ?_); refine goesL_ (some 22) rfl rfl Tryd.func23 (by kernel_rfl) rfl #[.slice A0 l0.length c0, .slice A1 l1.length c1] rfl (by (try simp only [List.map_toArray, List.map_cons, List.map_nil]); first | done | rfl | (simp only [List.length_drop, List.length_take]; rfl)) ?_; (with_reducible refine (head_Join.calls _ _ l0 _ _ l1 t247 _ ?side1 ?side2 ?side3 ?side4 A10.out).mono ?_); (case side1 => repeat (first | exact (Kd.C_below HR0.out HB.out) | (with_reducible refine Kd.C_alloc ?_ _) | (with_reducible refine Kd.C_drewN ?_ _) | (with_reducible refine Kd.C_drew ?_))); (case side2 => exact HC0.out); (case side3 => repeat (first | exact (Kd.C_below HR1.out HB.out) | (with_reducible refine Kd.C_alloc ?_ _) | (with_reducible refine Kd.C_drewN ?_ _) | (with_reducible refine Kd.C_drew ?_))); (case side4 => exact HC1.out); rintro e w14 ⟨v248, rfl, ho0, hb⟩; refine ⟨_, rfl, ?_⟩; have n0_ := Aside0.mk (Kd.R_lower ho0 (below_size (by repeat (first | (with_reducible first | exact HB.out | apply below_alloc | apply pw_below_drewN | apply below_drew1) | exact HB.out)))); have n1_ := Aside0.mk (below_step (by repeat (first | (with_reducible first | exact HB.out | apply below_alloc | apply pw_below_drewN | apply below_drew1) | exact HB.out)) hb); clear HB; have HO249 := n0_; have HB := n1_; clear n0_ n1_; (try clear hb); (try clear hb2); (try clear hk); (try clear hi); (try clear ho0)))
            have n0_ := Aside0.mk (Kd.R_drew HO249.out)
            have n1_ := Aside0.mk (below_drew1 HB.out)
            clear HO249
            clear HB
            have HO249 := n0_
            have HB := n1_
            clear n0_ n1_
            have hcv16 := own_string (P := Tryd.prog) Tryd.underlying26 Tryd.underlying5 Tryd.underlying9 (Kd.own_of_R HO249.out)
            refine start_ (n := 8) (S := fun w' => (convert 26 9 v248).run Tryd.prog w' = .ok (.string (strOfNums t247)) w') (ds := []) #[false, false, false, false, false, false, false, false] (by kernel_rfl) rfl rfl (own_string (P := Tryd.prog) Tryd.underlying26 Tryd.underlying5 Tryd.underlying9 (Kd.own_of_R HO249.out)) (fun hHeld => ?_); refine with_tabW mailbaglaw18_HeadJoins.tab6 mailbaglaw18_HeadJoins.bits6 (fun HT_ HW_ => ?_)
            generalize w14.drew = w15 at HO249 HB hHeld ⊢
            refine pure_ (i := 0) (N := some 23) (v := ?_) (a' := ?_) #[true, false, false, false, false, false, false, false] rfl rfl (any_of HT_.out (by kernel_rfl)) (fun _ _ _ h => h) (Or.inl ⟨by rfl, ?_⟩) ?_ ?_
            rotate_left
            · intro w'
              go_simp
              with_reducible rfl
            rotate_left
            · simp only [Act.put, List.setIfInBounds_toArray, List.set_cons_zero, List.set_cons_succ, i64_w, i32_w]
              rfl
            refine take_ (i := 1) (N := some 24) (v := ?_) (a' := ?_) #[true, true, false, false, false, false, false, false] rfl rfl (take_ofW HT_.out HW_.out (by kernel_rfl)) (fun _ _ _ h => h) (Or.inl ⟨by rfl, ?_⟩) hHeld ?_ ?_
            rotate_left
            · intro w' s0
              go_simp
              with_reducible rfl
            rotate_left
            · simp only [Act.put, List.setIfInBounds_toArray, List.set_cons_zero, List.set_cons_succ, i64_w, i32_w]
              rfl
            refine pure_ (i := 2) (N := some 25) (v := ?_) (a' := ?_) #[true, true, true, false, false, false, false, false] rfl rfl (any_of HT_.out (by kernel_rfl)) (fun _ _ _ h => h) (Or.inl ⟨by rfl, ?_⟩) ?_ ?_
            rotate_left
            · intro w'
              go_simp
              with_reducible rfl
            rotate_left
            · simp only [Act.put, List.setIfInBounds_toArray, List.set_cons_zero, List.set_cons_succ, i64_w, i32_w]
              rfl
            refine pure_ (i := 4) (N := some 27) (v := ?_) (a' := ?_) #[true, true, true, false, true, false, false, false] rfl rfl (any_of HT_.out (by kernel_rfl)) (fun _ _ _ h => h) (Or.inl ⟨by rfl, ?_⟩) ?_ ?_
            rotate_left
            · intro w'
              go_simp
              with_reducible rfl
            rotate_left
            · simp only [Act.put, List.setIfInBounds_toArray, List.set_cons_zero, List.set_cons_succ, i64_w, i32_w]
              rfl
            refine one_ (i := 3) (N := some 26) #[true, true, true, true, true, false, false, false] rfl rfl (one_of HT_.out (by kernel_rfl)) (by decide) (fun K hK => ?_)
            refine goes_ Tryd.func25 (by kernel_rfl) rfl #[.slice A0 l0.length c0] (by rfl) rfl rfl (by (try simp only [List.map_toArray, List.map_cons, List.map_nil]); first | done | rfl | (simp only [List.length_drop, List.length_take]; rfl)) ?_
            with_reducible refine (mailbaglaw18_of.calls kj4 _ _ l0 t250 _ ?side1 ?side2 A11.out).mono ?_
            (case side1 => repeat (first | exact (Kd.C_below HR0.out HB.out) | (with_reducible refine Kd.C_alloc ?_ _) | (with_reducible refine Kd.C_drewN ?_ _) | (with_reducible refine Kd.C_drew ?_)))
            (case side2 => exact HC0.out)
            rintro e w17 ⟨v251, rfl, ho0, hb⟩
            refine ⟨_, rfl, ?_⟩
            have n0_ := Aside0.mk (Kd.R_below (by (with_reducible repeat (first | apply Kd.R_alloc | apply Kd.R_drewN | apply Kd.R_drew)); exact HO249.out) hb)
            have n1_ := Aside0.mk (Kd.R_lower ho0 (below_size (by repeat (first | (with_reducible first | exact HB.out | apply below_alloc | apply pw_below_drewN | apply below_drew1) | exact HB.out))))
            have n2_ := Aside0.mk (below_step (by repeat (first | (with_reducible first | exact HB.out | apply below_alloc | apply pw_below_drewN | apply below_drew1) | exact HB.out)) hb)
            clear HO249
            clear HB
            have HO249 := n0_
            have HO252 := n1_
            have HB := n2_
            clear n0_ n1_ n2_
            (try clear hb)
            (try clear hb2)
            (try clear hk)
            (try clear hi)
            (try clear ho0)
            obtain ⟨Ao18, co18, eo18⟩ := Kd.R_slice HO252.out
            (first | subst eo18 | (injection eo18 with f1_ f2_ f3_; have f4_ := f1_.symm; have f5_ := f3_.symm; clear f1_ f2_ f3_; subst f4_; subst f5_))
            refine hK.out _ _ (own_string (P := Tryd.prog) Tryd.underlying26 Tryd.underlying5 Tryd.underlying9 (Kd.own_of_R HO249.out)) (fun hHeld => ?_)
            clear hK K
            refine norm_ (a' := ?_) ?_ ?_
            rotate_left
            · show Act.put _ (some 26) _ = _
              simp only [Act.put, List.setIfInBounds_toArray, List.set_cons_zero, List.set_cons_succ, i64_w, i32_w]
              rfl
            refine one_ (i := 5) (N := some 28) #[true, true, true, true, true, true, false, false] rfl rfl (one_of HT_.out (by kernel_rfl)) (by decide) (fun K hK => ?_)
            refine goes_ Tryd.func24 (by kernel_rfl) rfl #[.slice Ao18 t250.length co18, .slice A1 l1.length c1] (by rfl) rfl rfl (by (try simp only [List.map_toArray, List.map_cons, List.map_nil]); first | done | rfl | (simp only [List.length_drop, List.length_take]; rfl)) ?_
            with_reducible refine (mailbagref18_Join.calls _ _ t250 _ _ l1 t253 _ ?side1 ?side2 ?side3 ?side4 A12.out).mono ?_
            (case side1 => repeat (first | exact (Kd.R_reads' HO252.out).2.2 | (with_reducible refine Kd.C_alloc ?_ _) | (with_reducible refine Kd.C_drewN ?_ _) | (with_reducible refine Kd.C_drew ?_)))
            (case side2 => exact (Kd.R_reads' HO252.out).2.1)
            (case side3 => repeat (first | exact (Kd.C_below HR1.out HB.out) | (with_reducible refine Kd.C_alloc ?_ _) | (with_reducible refine Kd.C_drewN ?_ _) | (with_reducible refine Kd.C_drew ?_)))
            (case side4 => exact HC1.out)
            rintro e w19 ⟨v254, rfl, ho0, hb⟩
            refine ⟨_, rfl, ?_⟩
            have n0_ := Aside0.mk (Kd.R_elder' (by (with_reducible repeat (first | apply Kd.R_alloc | apply Kd.R_drewN | apply Kd.R_drew)); exact HO249.out) (Kd.R_base ho0) hb)
            have n1_ := Aside0.mk (Kd.R_below (by (with_reducible repeat (first | apply Kd.R_alloc | apply Kd.R_drewN | apply Kd.R_drew)); exact HO252.out) hb)
            have n2_ := Aside0.mk (Kd.R_lower (Kd.R_new' ho0 (Kd.R_lt (by (with_reducible repeat (first | apply Kd.R_alloc | apply Kd.R_drewN | apply Kd.R_drew)); exact HO249.out))) (below_size (by repeat (first | (with_reducible first | exact HB.out | apply below_alloc | apply pw_below_drewN | apply below_drew1) | exact HB.out))))
            have n3_ := Aside0.mk (below_step (by repeat (first | (with_reducible first | exact HB.out | apply below_alloc | apply pw_below_drewN | apply below_drew1) | exact HB.out)) hb)
            clear HO249
            clear HO252
            clear HB
            have HO249 := n0_
            have HO252 := n1_
            have HO255 := n2_
            have HB := n3_
            clear n0_ n1_ n2_ n3_
            (try clear hb)
            (try clear hb2)
            (try clear hk)
            (try clear hi)
            (try clear ho0)
            refine hK.out _ _ (own_string (P := Tryd.prog) Tryd.underlying26 Tryd.underlying5 Tryd.underlying9 (Kd.own_of_R HO249.out)) (fun hHeld => ?_)
            clear hK K
            refine norm_ (a' := ?_) ?_ ?_
            rotate_left
            · show Act.put _ (some 28) _ = _
              simp only [Act.put, List.setIfInBounds_toArray, List.set_cons_zero, List.set_cons_succ, i64_w, i32_w]
              rfl
            refine one_ (i := 6) (N := some 29) #[true, true, true, true, true, true, true, false] rfl rfl (one_of HT_.out (by kernel_rfl)) (by decide) (fun K hK => ?_)
            have hcv20 := own_string (P := Tryd.prog) Tryd.underlying26 Tryd.underlying5 Tryd.underlying9 (Kd.own_of_R HO255.out)
            refine value_ (w1 := ?_) (v := ?_) (by rfl) rfl ?_ ?_
            rotate_left 2
            · go_simp
              constructor
              · rfl
              · rfl
            clear hcv20
            refine hK.out _ _ (own_string (P := Tryd.prog) Tryd.underlying26 Tryd.underlying5 Tryd.underlying9 (Kd.own_of_R HO249.out)) (fun hHeld => ?_)
            clear hK K
            refine norm_ (a' := ?_) ?_ ?_
            rotate_left
            · show Act.put _ (some 29) _ = _
              simp only [Act.put, List.setIfInBounds_toArray, List.set_cons_zero, List.set_cons_succ, i64_w, i32_w]
              rfl
            refine pure_ (i := 7) (N := some 30) (v := ?_) (a' := ?_) #[true, true, true, true, true, true, true, true] rfl rfl (any_of HT_.out (by kernel_rfl)) (fun _ _ _ h => h) (Or.inl ⟨by rfl, ?_⟩) ?_ ?_
            rotate_left
            · intro w'
              go_simp
              with_reducible rfl
            rotate_left
            · simp only [Act.put, List.setIfInBounds_toArray, List.set_cons_zero, List.set_cons_succ, i64_w, i32_w]
              rfl
            refine done_ (done_of HT_.out (by kernel_rfl)) ?_
            try go_wp2
            go_loopg [6] kj4 (fun kq v6 w' => ∃ (x6_2 : Int), v6 = .int .i64 x6_2 ∧ Aside0 (mailbaglaw18_HeadJoins.l0 kq l0 l1 t247 x6_2 = some r) ∧ Aside0 (kq ≤ kj4) ∧ Aside0 (Kd.R (Kd.int .u8) 5 w' w.heap.size (fun _ => True) v248 t247) ∧ Aside0 (Below w.heap.size w w'))
            case atStart => exact ⟨(0), (by first | rfl | (simp; done) | (simp [*]; done)), H', ⟨Nat.le_refl _⟩, ⟨by (with_reducible repeat (first | apply Kd.R_alloc | apply Kd.R_drewN | apply Kd.R_drew)); exact Kd.R_mono HO249.out (fun _ hk => trivial)⟩, ⟨by repeat (first | (with_reducible first | exact HB.out | apply below_alloc | apply pw_below_drewN | apply below_drew1) | exact HB.out)⟩⟩
            case round =>
              clear H'
              try clear c1
              try clear hcv1
              try clear c2
              try clear p2
              try clear hcv2
              try clear c4
              try clear c6
              try clear c8
              try clear c9
              try clear c13
              try clear c13b0
              try clear c13b1
              try clear hcv16
              try clear hcv20
              try clear p2
              obtain ⟨x6_2, rfl, HA, HK2, HO_5, HB⟩ := hrel
              cases gk with
              | zero => exact absurd HA.out (by simp [mailbaglaw18_HeadJoins.l0])
              | succ k2 =>
                have H := HA.out
                clear HA
                simp only [mailbaglaw18_HeadJoins.l0] at H
                by_cases c22 : x6_2 < (l0.length : Int)
                · rw [if_pos c22] at H
                  have c22b0 : decide (x6_2 < (l0.length : Int)) = true := decide_eq_true c22
                  clear c22
                  by_cases c23 : 0 ≤ x6_2
                  · rw [if_pos c23] at H
                    have c23b0 : decide (0 ≤ x6_2) = true := decide_eq_true c23
                    clear c23
                    replace H := Option.bind_eq_some_iff.mp H
                    obtain ⟨t257, A240, H⟩ := H
                    replace H : (if t257 = true then (mailbaglaw18_HeadJoins.l1 k2 l0 l1 t247 x6_2 0) else (some true)) = some r := H
                    have A24 := Aside0.mk A240
                    clear A240
                    by_cases c25 : t257 = true
                    · subst c25
                      have H1 : (mailbaglaw18_HeadJoins.l1 k2 l0 l1 t247 x6_2 0) = some r := by rw [if_pos rfl] at H; exact H
                      clear H
                      have H := H1
                      clear H1
                      have H' := Aside0.mk H
                      clear H
                      have p256 : 0 ≤ (x6_2 : Int) := of_decide_eq_true (by first | (with_reducible assumption) | assumption)
                      have q256 : x6_2 < (l0.length : Int) := of_decide_eq_true (by first | (with_reducible assumption) | assumption)
                      obtain ⟨ad256, e256, hx256_0, hx256_1⟩ := at_T34 HR0.out x6_2 p256 q256
                      cases e256
                      replace hx256_0 := (HB.out.cell (World.block_lt_of_cell? w _ hx256_0)).trans hx256_0
                      replace hx256_1 := (HB.out.cell (World.block_lt_of_cell? w _ hx256_1)).trans hx256_1
                      replace p256 := eq_true p256
                      replace q256 := eq_true q256
                      go_wp2_with (first | ((with_reducible refine gate_callee (f := 21) rfl ?_); refine goesL_ (some 42) rfl rfl Tryd.func21 (by kernel_rfl) rfl #[.string ((rd_T34 l0 x6_2).f0)] rfl (by (try simp only [List.map_toArray, List.map_cons, List.map_nil]); first | done | rfl | (simp only [List.length_drop, List.length_take]; rfl)) ?_; (with_reducible refine (mailbagref18_Name.calls k2 ((rd_T34 l0 x6_2).f0) true _ A24.out).mono ?_); rintro e w' ⟨rfl, ⟨nd, rfl⟩⟩; refine ⟨_, rfl, ?_⟩))
                      go_loopg [7] k2 (fun kq v7 w' => ∃ (x7_3 : Int), v7 = .int .i64 x7_3 ∧ Aside0 (mailbaglaw18_HeadJoins.l1 kq l0 l1 t247 x6_2 x7_3 = some r) ∧ Aside0 (kq ≤ k2) ∧ Aside0 (Kd.R (Kd.int .u8) 5 w' w.heap.size (fun _ => True) v248 t247) ∧ Aside0 (Below w.heap.size w w'))
                      case atStart => exact ⟨(0), (by first | rfl | (simp; done) | (simp [*]; done)), H', ⟨Nat.le_refl _⟩, ⟨by (with_reducible repeat (first | apply Kd.R_alloc | apply Kd.R_drewN | apply Kd.R_drew)); exact HO_5.out⟩, ⟨by repeat (first | (with_reducible first | exact HB.out | apply below_alloc | apply pw_below_drewN | apply below_drew1) | exact HB.out)⟩⟩
                      case round =>
                        clear H'
                        try clear c1
                        try clear hcv1
                        try clear c2
                        try clear p2
                        try clear q2
                        try clear hx2
                        try clear hcv2
                        try clear c4
                        try clear c6
                        try clear c8
                        try clear c9
                        try clear c13
                        try clear c13b0
                        try clear c13b1
                        try clear hcv16
                        try clear hcv20
                        try clear c21
                        try clear c22
                        try clear c22b0
                        try clear c23
                        try clear c23b0
                        try clear c24
                        try clear c25
                        try clear p25
                        try clear q25
                        try clear hx25
                        try clear hx256_0
                        try clear hx256_1
                        try clear p2
                        try clear p256
                        try clear q256
                        obtain ⟨x7_3, rfl, HA, HK3, HO_5, HB⟩ := hrel
                        cases gk with
                        | zero => exact absurd HA.out (by simp [mailbaglaw18_HeadJoins.l1])
                        | succ k3 =>
                          have H := HA.out
                          clear HA
                          simp only [mailbaglaw18_HeadJoins.l1] at H
                          by_cases c26 : 0 ≤ x6_2
                          · rw [if_pos c26] at H
                            have c26b0 : decide (0 ≤ x6_2) = true := decide_eq_true c26
                            clear c26
                            by_cases c27 : x6_2 < (l0.length : Int)
                            · rw [if_pos c27] at H
                              have c27b0 : decide (x6_2 < (l0.length : Int)) = true := decide_eq_true c27
                              clear c27
                              by_cases c28 : x7_3 < (((rd_T34 l0 x6_2).f1).size : Int)
                              · rw [if_pos c28] at H
                                have c28b0 : decide (x7_3 < (((rd_T34 l0 x6_2).f1).size : Int)) = true := decide_eq_true c28
                                clear c28
                                by_cases c29 : 0 ≤ x7_3
                                · rw [if_pos c29] at H
                                  have c29b0 : decide (0 ≤ x7_3) = true := decide_eq_true c29
                                  clear c29
                                  by_cases c31 : (bt ((rd_T34 l0 x6_2).f1) x7_3) = 13
                                  · rw [if_pos c31] at H
                                    have c31b0 : ((bt ((rd_T34 l0 x6_2).f1) x7_3) == 13) = true := beq_iff_eq.mpr c31
                                    have c31b1 : ((bt ((rd_T34 l0 x6_2).f1) x7_3) != 13) = false := bne_eq_false_iff_eq.mpr c31
                                    clear c31
                                    obtain rfl := Option.some.inj H
                                    have p258 : 0 ≤ (x6_2 : Int) := of_decide_eq_true (by first | (with_reducible assumption) | assumption)
                                    have q258 : x6_2 < (l0.length : Int) := of_decide_eq_true (by first | (with_reducible assumption) | assumption)
                                    obtain ⟨ad258, e258, hx258_0, hx258_1⟩ := at_T34 HR0.out x6_2 p258 q258
                                    obtain rfl : ad256 = ad258 := (by injection e258)
                                    replace hx258_0 := (HB.out.cell (World.block_lt_of_cell? w _ hx258_0)).trans hx258_0
                                    replace hx258_1 := (HB.out.cell (World.block_lt_of_cell? w _ hx258_1)).trans hx258_1
                                    replace p258 := eq_true p258
                                    replace q258 := eq_true q258
                                    have p259 : 0 ≤ (x6_2 : Int) := of_decide_eq_true (by first | (with_reducible assumption) | assumption)
                                    have q259 : x6_2 < (l0.length : Int) := of_decide_eq_true (by first | (with_reducible assumption) | assumption)
                                    obtain ⟨ad259, e259, hx259_0, hx259_1⟩ := at_T34 HR0.out x6_2 p259 q259
                                    obtain rfl : ad256 = ad259 := (by injection e259)
                                    replace hx259_0 := (HB.out.cell (World.block_lt_of_cell? w _ hx259_0)).trans hx259_0
                                    replace hx259_1 := (HB.out.cell (World.block_lt_of_cell? w _ hx259_1)).trans hx259_1
                                    replace p259 := eq_true p259
                                    replace q259 := eq_true q259
                                    have p30 : 0 ≤ (x7_3 : Int) := of_decide_eq_true (by first | (with_reducible assumption) | assumption)
                                    have q30 : x7_3 < (((rd_T34 l0 x6_2).f1).size : Int) := of_decide_eq_true (by first | (with_reducible assumption) | assumption)
                                    have hx30 := bt_at ((rd_T34 l0 x6_2).f1) x7_3
                                    replace p30 := eq_true p30
                                    replace q30 := eq_true q30
                                    go_wp2
                                    go_ret
                                    exact ⟨by first | rfl | (simp [errW_none, errW_some] <;> rfl) | (simp [*, errW_none, errW_some] <;> rfl), by repeat (first | (with_reducible first | exact HB.out | apply below_alloc | apply pw_below_drewN | apply below_drew1) | exact HB.out)⟩
                                  · rw [if_neg c31] at H
                                    have c31b0 : ((bt ((rd_T34 l0 x6_2).f1) x7_3) == 13) = false := beq_eq_false_iff_ne.mpr c31
                                    have c31b1 : ((bt ((rd_T34 l0 x6_2).f1) x7_3) != 13) = true := bne_iff_ne.mpr c31
                                    by_cases c33 : (bt ((rd_T34 l0 x6_2).f1) x7_3) = 10
                                    · rw [if_pos c33] at H
                                      have c33b0 : ((bt ((rd_T34 l0 x6_2).f1) x7_3) == 10) = true := beq_iff_eq.mpr c33
                                      have c33b1 : ((bt ((rd_T34 l0 x6_2).f1) x7_3) != 10) = false := bne_eq_false_iff_eq.mpr c33
                                      clear c33
                                      obtain rfl := Option.some.inj H
                                      have p258 : 0 ≤ (x6_2 : Int) := of_decide_eq_true (by first | (with_reducible assumption) | assumption)
                                      have q258 : x6_2 < (l0.length : Int) := of_decide_eq_true (by first | (with_reducible assumption) | assumption)
                                      obtain ⟨ad258, e258, hx258_0, hx258_1⟩ := at_T34 HR0.out x6_2 p258 q258
                                      obtain rfl : ad256 = ad258 := (by injection e258)
                                      replace hx258_0 := (HB.out.cell (World.block_lt_of_cell? w _ hx258_0)).trans hx258_0
                                      replace hx258_1 := (HB.out.cell (World.block_lt_of_cell? w _ hx258_1)).trans hx258_1
                                      replace p258 := eq_true p258
                                      replace q258 := eq_true q258
                                      have p259 : 0 ≤ (x6_2 : Int) := of_decide_eq_true (by first | (with_reducible assumption) | assumption)
                                      have q259 : x6_2 < (l0.length : Int) := of_decide_eq_true (by first | (with_reducible assumption) | assumption)
                                      obtain ⟨ad259, e259, hx259_0, hx259_1⟩ := at_T34 HR0.out x6_2 p259 q259
                                      obtain rfl : ad256 = ad259 := (by injection e259)
                                      replace hx259_0 := (HB.out.cell (World.block_lt_of_cell? w _ hx259_0)).trans hx259_0
                                      replace hx259_1 := (HB.out.cell (World.block_lt_of_cell? w _ hx259_1)).trans hx259_1
                                      replace p259 := eq_true p259
                                      replace q259 := eq_true q259
                                      have p30 : 0 ≤ (x7_3 : Int) := of_decide_eq_true (by first | (with_reducible assumption) | assumption)
                                      have q30 : x7_3 < (((rd_T34 l0 x6_2).f1).size : Int) := of_decide_eq_true (by first | (with_reducible assumption) | assumption)
                                      have hx30 := bt_at ((rd_T34 l0 x6_2).f1) x7_3
                                      replace p30 := eq_true p30
                                      replace q30 := eq_true q30
                                      have p260 : 0 ≤ (x6_2 : Int) := of_decide_eq_true (by first | (with_reducible assumption) | assumption)
                                      have q260 : x6_2 < (l0.length : Int) := of_decide_eq_true (by first | (with_reducible assumption) | assumption)
                                      obtain ⟨ad260, e260, hx260_0, hx260_1⟩ := at_T34 HR0.out x6_2 p260 q260
                                      obtain rfl : ad256 = ad260 := (by injection e260)
                                      replace hx260_0 := (HB.out.cell (World.block_lt_of_cell? w _ hx260_0)).trans hx260_0
                                      replace hx260_1 := (HB.out.cell (World.block_lt_of_cell? w _ hx260_1)).trans hx260_1
                                      replace p260 := eq_true p260
                                      replace q260 := eq_true q260
                                      have p32 : 0 ≤ (x7_3 : Int) := of_decide_eq_true (by first | (with_reducible assumption) | assumption)
                                      have q32 : x7_3 < (((rd_T34 l0 x6_2).f1).size : Int) := of_decide_eq_true (by first | (with_reducible assumption) | assumption)
                                      have hx32 := bt_at ((rd_T34 l0 x6_2).f1) x7_3
                                      replace p32 := eq_true p32
                                      replace q32 := eq_true q32
                                      go_wp2
                                      go_ret
                                      exact ⟨by first | rfl | (simp [errW_none, errW_some] <;> rfl) | (simp [*, errW_none, errW_some] <;> rfl), by repeat (first | (with_reducible first | exact HB.out | apply below_alloc | apply pw_below_drewN | apply below_drew1) | exact HB.out)⟩
                                    · rw [if_neg c33] at H
                                      have c33b0 : ((bt ((rd_T34 l0 x6_2).f1) x7_3) == 10) = false := beq_eq_false_iff_ne.mpr c33
                                      have c33b1 : ((bt ((rd_T34 l0 x6_2).f1) x7_3) != 10) = true := bne_iff_ne.mpr c33
                                      have H' := Aside0.mk H
                                      clear H
                                      have p258 : 0 ≤ (x6_2 : Int) := of_decide_eq_true (by first | (with_reducible assumption) | assumption)
                                      have q258 : x6_2 < (l0.length : Int) := of_decide_eq_true (by first | (with_reducible assumption) | assumption)
                                      obtain ⟨ad258, e258, hx258_0, hx258_1⟩ := at_T34 HR0.out x6_2 p258 q258
                                      obtain rfl : ad256 = ad258 := (by injection e258)
                                      replace hx258_0 := (HB.out.cell (World.block_lt_of_cell? w _ hx258_0)).trans hx258_0
                                      replace hx258_1 := (HB.out.cell (World.block_lt_of_cell? w _ hx258_1)).trans hx258_1
                                      replace p258 := eq_true p258
                                      replace q258 := eq_true q258
                                      have p259 : 0 ≤ (x6_2 : Int) := of_decide_eq_true (by first | (with_reducible assumption) | assumption)
                                      have q259 : x6_2 < (l0.length : Int) := of_decide_eq_true (by first | (with_reducible assumption) | assumption)
                                      obtain ⟨ad259, e259, hx259_0, hx259_1⟩ := at_T34 HR0.out x6_2 p259 q259
                                      obtain rfl : ad256 = ad259 := (by injection e259)
                                      replace hx259_0 := (HB.out.cell (World.block_lt_of_cell? w _ hx259_0)).trans hx259_0
                                      replace hx259_1 := (HB.out.cell (World.block_lt_of_cell? w _ hx259_1)).trans hx259_1
                                      replace p259 := eq_true p259
                                      replace q259 := eq_true q259
                                      have p30 : 0 ≤ (x7_3 : Int) := of_decide_eq_true (by first | (with_reducible assumption) | assumption)
                                      have q30 : x7_3 < (((rd_T34 l0 x6_2).f1).size : Int) := of_decide_eq_true (by first | (with_reducible assumption) | assumption)
                                      have hx30 := bt_at ((rd_T34 l0 x6_2).f1) x7_3
                                      replace p30 := eq_true p30
                                      replace q30 := eq_true q30
                                      have p260 : 0 ≤ (x6_2 : Int) := of_decide_eq_true (by first | (with_reducible assumption) | assumption)
                                      have q260 : x6_2 < (l0.length : Int) := of_decide_eq_true (by first | (with_reducible assumption) | assumption)
                                      obtain ⟨ad260, e260, hx260_0, hx260_1⟩ := at_T34 HR0.out x6_2 p260 q260
                                      obtain rfl : ad256 = ad260 := (by injection e260)
                                      replace hx260_0 := (HB.out.cell (World.block_lt_of_cell? w _ hx260_0)).trans hx260_0
                                      replace hx260_1 := (HB.out.cell (World.block_lt_of_cell? w _ hx260_1)).trans hx260_1
                                      replace p260 := eq_true p260
                                      replace q260 := eq_true q260
                                      have p32 : 0 ≤ (x7_3 : Int) := of_decide_eq_true (by first | (with_reducible assumption) | assumption)
                                      have q32 : x7_3 < (((rd_T34 l0 x6_2).f1).size : Int) := of_decide_eq_true (by first | (with_reducible assumption) | assumption)
                                      have hx32 := bt_at ((rd_T34 l0 x6_2).f1) x7_3
                                      replace p32 := eq_true p32
                                      replace q32 := eq_true q32
                                      go_wp2
                                      go_roundg k3
                                      case measure => have := HJ4.out; have := HK2.out; have := HK3.out; omega
                                      case rel => exact ⟨(wrap64 (x7_3 + 1)), (by first | rfl | (simp; done) | (simp [*]; done)), H', ⟨by have := HJ4.out; have := HK2.out; have := HK3.out; omega⟩, ⟨by (with_reducible repeat (first | apply Kd.R_alloc | apply Kd.R_drewN | apply Kd.R_drew)); exact HO_5.out⟩, ⟨by repeat (first | (with_reducible first | exact HB.out | apply below_alloc | apply pw_below_drewN | apply below_drew1) | exact HB.out)⟩⟩
                                · rw [if_neg c29] at H
                                  exact absurd H (by simp)
                              · rw [if_neg c28] at H
                                have c28b0 : decide (x7_3 < (((rd_T34 l0 x6_2).f1).size : Int)) = false := decide_eq_false c28
                                clear c28
                                have H' := Aside0.mk H
                                clear H
                                have p258 : 0 ≤ (x6_2 : Int) := of_decide_eq_true (by first | (with_reducible assumption) | assumption)
                                have q258 : x6_2 < (l0.length : Int) := of_decide_eq_true (by first | (with_reducible assumption) | assumption)
                                obtain ⟨ad258, e258, hx258_0, hx258_1⟩ := at_T34 HR0.out x6_2 p258 q258
                                obtain rfl : ad256 = ad258 := (by injection e258)
                                replace hx258_0 := (HB.out.cell (World.block_lt_of_cell? w _ hx258_0)).trans hx258_0
                                replace hx258_1 := (HB.out.cell (World.block_lt_of_cell? w _ hx258_1)).trans hx258_1
                                replace p258 := eq_true p258
                                replace q258 := eq_true q258
                                go_wp2
                                go_roundg k3
                                case measure => have := HJ4.out; have := HK2.out; have := HK3.out; omega
                                case rel => exact ⟨(wrap64 (x6_2 + 1)), (by first | rfl | (simp; done) | (simp [*]; done)), H', ⟨by have := HJ4.out; have := HK2.out; have := HK3.out; omega⟩, ⟨by (with_reducible repeat (first | apply Kd.R_alloc | apply Kd.R_drewN | apply Kd.R_drew)); exact HO_5.out⟩, ⟨by repeat (first | (with_reducible first | exact HB.out | apply below_alloc | apply pw_below_drewN | apply below_drew1) | exact HB.out)⟩⟩
                            · rw [if_neg c27] at H
                              exact absurd H (by simp)
                          · rw [if_neg c26] at H
                            exact absurd H (by simp)
                    · replace c25 := Bool.eq_false_iff.mpr c25
                      subst c25
                      have H1 : (some true) = some r := by rw [if_neg (show ¬ (false = true) by decide)] at H; exact H
                      clear H
                      have H := H1
                      clear H1
                      obtain rfl := Option.some.inj H
                      have p256 : 0 ≤ (x6_2 : Int) := of_decide_eq_true (by first | (with_reducible assumption) | assumption)
                      have q256 : x6_2 < (l0.length : Int) := of_decide_eq_true (by first | (with_reducible assumption) | assumption)
                      obtain ⟨ad256, e256, hx256_0, hx256_1⟩ := at_T34 HR0.out x6_2 p256 q256
                      cases e256
                      replace hx256_0 := (HB.out.cell (World.block_lt_of_cell? w _ hx256_0)).trans hx256_0
                      replace hx256_1 := (HB.out.cell (World.block_lt_of_cell? w _ hx256_1)).trans hx256_1
                      replace p256 := eq_true p256
                      replace q256 := eq_true q256
                      go_wp2_with (first | ((with_reducible refine gate_callee (f := 21) rfl ?_); refine goesL_ (some 42) rfl rfl Tryd.func21 (by kernel_rfl) rfl #[.string ((rd_T34 l0 x6_2).f0)] rfl (by (try simp only [List.map_toArray, List.map_cons, List.map_nil]); first | done | rfl | (simp only [List.length_drop, List.length_take]; rfl)) ?_; (with_reducible refine (mailbagref18_Name.calls k2 ((rd_T34 l0 x6_2).f0) false _ A24.out).mono ?_); rintro e w' ⟨rfl, ⟨nd, rfl⟩⟩; refine ⟨_, rfl, ?_⟩))
                      go_ret
                      exact ⟨by first | rfl | (simp [errW_none, errW_some] <;> rfl) | (simp [*, errW_none, errW_some] <;> rfl), by repeat (first | (with_reducible first | exact HB.out | apply below_alloc | apply pw_below_drewN | apply below_drew1) | exact HB.out)⟩
                  · rw [if_neg c23] at H
                    exact absurd H (by simp)
                · rw [if_neg c22] at H
                  have c22b0 : decide (x6_2 < (l0.length : Int)) = false := decide_eq_false c22
                  clear c22
                  replace H := Option.bind_eq_some_iff.mp H
                  obtain ⟨⟨t261, t264⟩, A340, H⟩ := H
                  replace H : ((mailbaglaw18_of.f k2 l0).bind fun t267 => ((mailbaglaw18_same.f k2 t261 t267).bind fun t270 => (if t270 = true then ((mailbagref17_Whole.f l1).bind fun t271 => (some ((strOfNums t264).toList == (strOfNums t271).toList))) else (some false)))) = some r := H
                  have A34 := Aside0.mk A340
                  clear A340
                  replace H := Option.bind_eq_some_iff.mp H
                  obtain ⟨t267, A350, H⟩ := H
                  replace H : ((mailbaglaw18_same.f k2 t261 t267).bind fun t270 => (if t270 = true then ((mailbagref17_Whole.f l1).bind fun t271 => (some ((strOfNums t264).toList == (strOfNums t271).toList))) else (some false))) = some r := H
                  have A35 := Aside0.mk A350
                  clear A350
                  replace H := Option.bind_eq_some_iff.mp H
                  obtain ⟨t270, A360, H⟩ := H
                  replace H : (if t270 = true then ((mailbagref17_Whole.f l1).bind fun t271 => (some ((strOfNums t264).toList == (strOfNums t271).toList))) else (some false)) = some r := H
                  have A36 := Aside0.mk A360
                  clear A360
                  by_cases c37 : t270 = true
                  · subst c37
                    have H1 : ((mailbagref17_Whole.f l1).bind fun t271 => (some ((strOfNums t264).toList == (strOfNums t271).toList))) = some r := by rw [if_pos rfl] at H; exact H
                    clear H
                    have H := H1
                    clear H1
                    replace H := Option.bind_eq_some_iff.mp H
                    obtain ⟨t271, A380, H⟩ := H
                    replace H : (some ((strOfNums t264).toList == (strOfNums t271).toList)) = some r := H
                    have A38 := Aside0.mk A380
                    clear A380
                    obtain rfl := Option.some.inj H
                    obtain ⟨Ao39, co39, eo39⟩ := Kd.R_slice HO_5.out
                    subst eo39
                    try go_wp2_with (first | ((with_reducible refine gate_callee (f := 13) rfl ?_); refine goesL_ (some 74) rfl rfl Tryd.func13 (by kernel_rfl) rfl #[.slice Ao39 t247.length co39] rfl (by (try simp only [List.map_toArray, List.map_cons, List.map_nil]); first | done | rfl | (simp only [List.length_drop, List.length_take]; rfl)) ?_; (with_reducible refine (head_Split.calls _ _ t247 t261 t264 _ ?side1 ?side2 ?side3 A34.out).mono ?_); (case side1 => repeat (first | exact (Kd.R_reads' HO_5.out).2.2 | (with_reducible refine Kd.C_alloc ?_ _) | (with_reducible refine Kd.C_drewN ?_ _) | (with_reducible refine Kd.C_drew ?_))); (case side2 => exact (Kd.R_reads' HO_5.out).2.1); (case side3 => exact shaped_below HSH.out (by repeat (first | (with_reducible first | exact HB.out | apply below_alloc | apply pw_below_drewN | apply below_drew1) | exact HB.out)) (Nat.le_refl _)); rintro e w40 ⟨v262, v265, rfl, ho0, ho1, hb⟩; refine ⟨_, rfl, ?_⟩; have n0_ := Aside0.mk (Kd.R_below (by (with_reducible repeat (first | apply Kd.R_alloc | apply Kd.R_drewN | apply Kd.R_drew)); exact HO_5.out) hb); have n1_ := Aside0.mk (Kd.R_lower (Kd.R_mono (ok' := fun k_ => True) ho0 (fun _ hk_ => trivial)) (below_size (by repeat (first | (with_reducible first | exact HB.out | apply below_alloc | apply pw_below_drewN | apply below_drew1) | exact HB.out)))); have n2_ := Aside0.mk (Kd.V_lower (Kd.V_mono (ok' := fun k_ => some k_ ≠ (v262 : Value).ownBlock ∧ some k_ ≠ (.slice Ao39 t247.length co39 : Value).ownBlock) ho1 (fun k_ hk_ => ⟨hk_.2, (Kd.fresh' (Kd.R_lt (by (with_reducible repeat (first | apply Kd.R_alloc | apply Kd.R_drewN | apply Kd.R_drew)); exact HO_5.out)) k_ hk_.1)⟩)) (below_size (by repeat (first | (with_reducible first | exact HB.out | apply below_alloc | apply pw_below_drewN | apply below_drew1) | exact HB.out)))); have n3_ := Aside0.mk (below_step (by repeat (first | (with_reducible first | exact HB.out | apply below_alloc | apply pw_below_drewN | apply below_drew1) | exact HB.out)) hb); clear HO_5; clear HB; have HO_5 := n0_; have HO263 := n1_; have HO266 := n2_; have HB := n3_; clear n0_ n1_ n2_ n3_; (try clear hb); (try clear hb2); (try clear hk); (try clear hi); (try clear ho0); (try clear ho1); obtain ⟨Ao41, co41, eo41⟩ := Kd.R_slice HO263.out; subst eo41))
                    have n0_ := Aside0.mk (Kd.R_drew HO_5.out)
                    have n1_ := Aside0.mk (Kd.R_drew HO263.out)
                    have n2_ := Aside0.mk (Kd.V_drew HO266.out)
                    have n3_ := Aside0.mk (below_drew1 HB.out)
                    clear HO_5
                    clear HO263
                    clear HO266
                    clear HB
                    have HO_5 := n0_
                    have HO263 := n1_
                    have HO266 := n2_
                    have HB := n3_
                    clear n0_ n1_ n2_ n3_
                    refine start_ (n := 13) (S := fun w' => (convert 26 9 v265).run Tryd.prog w' = .ok (.string (strOfNums t264)) w') (ds := []) #[false, false, false, false, false, false, false, false, false, false, false, false, false] (by kernel_rfl) rfl rfl (conv_of_V (P := Tryd.prog) (e' := 5) (base := w.heap.size) Tryd.underlying26 Tryd.underlying5 Tryd.underlying9 (by (with_reducible repeat (first | apply Kd.V_alloc | apply Kd.V_drewN | apply Kd.V_drew)); exact HO266.out)) (fun hHeld => ?_); refine with_tabW mailbaglaw18_HeadJoins.tab19 mailbaglaw18_HeadJoins.bits19 (fun HT_ HW_ => ?_)
                    generalize w40.drew = w42 at HO_5 HO263 HO266 HB hHeld ⊢
                    refine pure_ (i := 0) (N := some 77) (v := ?_) (a' := ?_) #[true, false, false, false, false, false, false, false, false, false, false, false, false] rfl rfl (any_of HT_.out (by kernel_rfl)) (fun _ _ _ h => h) (Or.inl ⟨by rfl, ?_⟩) ?_ ?_
                    rotate_left
                    · intro w'
                      go_simp
                      with_reducible rfl
                    rotate_left
                    · simp only [Act.put, List.setIfInBounds_toArray, List.set_cons_zero, List.set_cons_succ, i64_w, i32_w]
                      rfl
                    refine pure_ (i := 1) (N := some 78) (v := ?_) (a' := ?_) #[true, true, false, false, false, false, false, false, false, false, false, false, false] rfl rfl (any_of HT_.out (by kernel_rfl)) (fun _ _ _ h => h) (Or.inl ⟨by rfl, ?_⟩) ?_ ?_
                    rotate_left
                    · intro w'
                      go_simp
                      with_reducible rfl
                    rotate_left
                    · simp only [Act.put, List.setIfInBounds_toArray, List.set_cons_zero, List.set_cons_succ, i64_w, i32_w]
                      rfl
                    refine one_ (i := 2) (N := some 79) #[true, true, true, false, false, false, false, false, false, false, false, false, false] rfl rfl (one_of HT_.out (by kernel_rfl)) (by decide) (fun K hK => ?_)
                    refine goes_ Tryd.func25 (by kernel_rfl) rfl #[.slice A0 l0.length c0] (by rfl) rfl rfl (by (try simp only [List.map_toArray, List.map_cons, List.map_nil]); first | done | rfl | (simp only [List.length_drop, List.length_take]; rfl)) ?_
                    with_reducible refine (mailbaglaw18_of.calls k2 _ _ l0 t267 _ ?side1 ?side2 A35.out).mono ?_
                    (case side1 => repeat (first | exact (Kd.C_below HR0.out HB.out) | (with_reducible refine Kd.C_alloc ?_ _) | (with_reducible refine Kd.C_drewN ?_ _) | (with_reducible refine Kd.C_drew ?_)))
                    (case side2 => exact HC0.out)
                    rintro e w43 ⟨v268, rfl, ho0, hb⟩
                    refine ⟨_, rfl, ?_⟩
                    have n0_ := Aside0.mk (Kd.R_below (by (with_reducible repeat (first | apply Kd.R_alloc | apply Kd.R_drewN | apply Kd.R_drew)); exact HO_5.out) hb)
                    have n1_ := Aside0.mk (Kd.R_below (by (with_reducible repeat (first | apply Kd.R_alloc | apply Kd.R_drewN | apply Kd.R_drew)); exact HO263.out) hb)
                    have n2_ := Aside0.mk (Kd.V_elder' (by (with_reducible repeat (first | apply Kd.V_alloc | apply Kd.V_drewN | apply Kd.V_drew)); exact HO266.out) (Kd.R_base ho0) hb)
                    have n3_ := Aside0.mk (Kd.R_lower ho0 (below_size (by repeat (first | (with_reducible first | exact HB.out | apply below_alloc | apply pw_below_drewN | apply below_drew1) | exact HB.out))))
                    have n4_ := Aside0.mk (below_step (by repeat (first | (with_reducible first | exact HB.out | apply below_alloc | apply pw_below_drewN | apply below_drew1) | exact HB.out)) hb)
                    clear HO_5
                    clear HO263
                    clear HO266
                    clear HB
                    have HO_5 := n0_
                    have HO263 := n1_
                    have HO266 := n2_
                    have HO269 := n3_
                    have HB := n4_
                    clear n0_ n1_ n2_ n3_ n4_
                    (try clear hb)
                    (try clear hb2)
                    (try clear hk)
                    (try clear hi)
                    (try clear ho0)
                    obtain ⟨Ao44, co44, eo44⟩ := Kd.R_slice HO269.out
                    (first | subst eo44 | (injection eo44 with f1_ f2_ f3_; have f4_ := f1_.symm; have f5_ := f3_.symm; clear f1_ f2_ f3_; subst f4_; subst f5_))
                    refine hK.out _ _ (conv_of_V (P := Tryd.prog) (e' := 5) (base := w.heap.size) Tryd.underlying26 Tryd.underlying5 Tryd.underlying9 (by (with_reducible repeat (first | apply Kd.V_alloc | apply Kd.V_drewN | apply Kd.V_drew)); exact HO266.out)) (fun hHeld => ?_)
                    clear hK K
                    refine norm_ (a' := ?_) ?_ ?_
                    rotate_left
                    · show Act.put _ (some 79) _ = _
                      simp only [Act.put, List.setIfInBounds_toArray, List.set_cons_zero, List.set_cons_succ, i64_w, i32_w]
                      rfl
                    refine one_ (i := 3) (N := some 80) #[true, true, true, true, false, false, false, false, false, false, false, false, false] rfl rfl (one_of HT_.out (by kernel_rfl)) (by decide) (fun K hK => ?_)
                    refine goes_ Tryd.func17 (by kernel_rfl) rfl #[.slice Ao41 t261.length co41, .slice Ao44 t267.length co44] (by rfl) rfl rfl (by (try simp only [List.map_toArray, List.map_cons, List.map_nil]); first | done | rfl | (simp only [List.length_drop, List.length_take]; rfl)) ?_
                    with_reducible refine (mailbaglaw18_same.calls k2 _ _ t261 _ _ t267 true _ ?side1 ?side2 ?side3 ?side4 A36.out).mono ?_
                    (case side1 => repeat (first | exact (Kd.R_reads' HO263.out).2.2 | (with_reducible refine Kd.C_alloc ?_ _) | (with_reducible refine Kd.C_drewN ?_ _) | (with_reducible refine Kd.C_drew ?_)))
                    (case side2 => exact (Kd.R_reads' HO263.out).2.1)
                    (case side3 => repeat (first | exact (Kd.R_reads' HO269.out).2.2 | (with_reducible refine Kd.C_alloc ?_ _) | (with_reducible refine Kd.C_drewN ?_ _) | (with_reducible refine Kd.C_drew ?_)))
                    (case side4 => exact (Kd.R_reads' HO269.out).2.1)
                    rintro e w' ⟨rfl, ⟨nd, rfl⟩⟩
                    refine ⟨_, rfl, ?_⟩
                    obtain ⟨Ao45, co45, eo45⟩ := Kd.V_slice HO266.out
                    (first | subst eo45 | (injection eo45 with f1_ f2_ f3_; have f4_ := f1_.symm; have f5_ := f3_.symm; clear f1_ f2_ f3_; subst f4_; subst f5_))
                    have hcv46 := Kd.C_string (P := Tryd.prog) (A := Ao45) (c := co45) Tryd.underlying26 Tryd.underlying5 Tryd.underlying9 (Kd.V_reads' HO266.out).2.2
                    refine hK.out _ _ (conv_of_V (P := Tryd.prog) (e' := 5) (base := w.heap.size) Tryd.underlying26 Tryd.underlying5 Tryd.underlying9 (by (with_reducible repeat (first | apply Kd.V_alloc | apply Kd.V_drewN | apply Kd.V_drew)); exact HO266.out)) (fun hHeld => ?_)
                    clear hK K
                    refine norm_ (a' := ?_) ?_ ?_
                    rotate_left
                    · show Act.put _ (some 80) _ = _
                      simp only [Act.put, List.setIfInBounds_toArray, List.set_cons_zero, List.set_cons_succ, i64_w, i32_w]
                      rfl
                    refine pure_ (i := 4) (N := some 81) (v := ?_) (a' := ?_) #[true, true, true, true, true, false, false, false, false, false, false, false, false] rfl rfl (any_of HT_.out (by kernel_rfl)) (fun _ _ _ h => h) (Or.inl ⟨by rfl, ?_⟩) ?_ ?_
                    rotate_left
                    · intro w'
                      go_simp
                      with_reducible rfl
                    rotate_left
                    · simp only [Act.put, List.setIfInBounds_toArray, List.set_cons_zero, List.set_cons_succ, i64_w, i32_w]
                      rfl
                    refine pure_ (i := 5) (N := some 82) (v := ?_) (a' := ?_) #[true, true, true, true, true, true, false, false, false, false, false, false, false] rfl rfl (any_of HT_.out (by kernel_rfl)) (fun _ _ _ h => h) (Or.inl ⟨by rfl, ?_⟩) ?_ ?_
                    rotate_left
                    · intro w'
                      go_simp
                      with_reducible rfl
                    rotate_left
                    · simp only [Act.put, List.setIfInBounds_toArray, List.set_cons_zero, List.set_cons_succ, i64_w, i32_w]
                      rfl
                    refine take_ (i := 6) (N := some 83) (v := ?_) (a' := ?_) #[true, true, true, true, true, true, true, false, false, false, false, false, false] rfl rfl (take_ofW HT_.out HW_.out (by kernel_rfl)) (fun _ _ _ h => h) (Or.inl ⟨by rfl, ?_⟩) hHeld ?_ ?_
                    rotate_left
                    · intro w' s0
                      go_simp
                      with_reducible rfl
                    rotate_left
                    · simp only [Act.put, List.setIfInBounds_toArray, List.set_cons_zero, List.set_cons_succ, i64_w, i32_w]
                      rfl
                    refine pure_ (i := 7) (N := some 84) (v := ?_) (a' := ?_) #[true, true, true, true, true, true, true, true, false, false, false, false, false] rfl rfl (any_of HT_.out (by kernel_rfl)) (fun _ _ _ h => h) (Or.inl ⟨by rfl, ?_⟩) ?_ ?_
                    rotate_left
                    · intro w'
                      go_simp
                      with_reducible rfl
                    rotate_left
                    · simp only [Act.put, List.setIfInBounds_toArray, List.set_cons_zero, List.set_cons_succ, i64_w, i32_w]
                      rfl
                    refine one_ (i := 8) (N := some 85) #[true, true, true, true, true, true, true, true, true, false, false, false, false] rfl rfl (one_of HT_.out (by kernel_rfl)) (by decide) (fun K hK => ?_)
                    refine goes_ Tryd.func26 (by kernel_rfl) rfl #[.slice A1 l1.length c1] (by rfl) rfl rfl (by (try simp only [List.map_toArray, List.map_cons, List.map_nil]); first | done | rfl | (simp only [List.length_drop, List.length_take]; rfl)) ?_
                    with_reducible refine (mailbagref17_Whole.calls _ _ l1 t271 _ ?side1 ?side2 A38.out).mono ?_
                    (case side1 => repeat (first | exact (Kd.C_below HR1.out (by repeat (first | (with_reducible first | exact HB.out | apply below_alloc | apply pw_below_drewN | apply below_drew1) | exact HB.out))) | (with_reducible refine Kd.C_alloc ?_ _) | (with_reducible refine Kd.C_drewN ?_ _) | (with_reducible refine Kd.C_drew ?_)))
                    (case side2 => exact HC1.out)
                    rintro e w47 ⟨v272, rfl, ho0, hb⟩
                    refine ⟨_, rfl, ?_⟩
                    have n0_ := Aside0.mk (Kd.R_elder' (by (with_reducible repeat (first | apply Kd.R_alloc | apply Kd.R_drewN | apply Kd.R_drew)); exact HO_5.out) (Kd.R_base ho0) hb)
                    have n1_ := Aside0.mk (Kd.R_below (by (with_reducible repeat (first | apply Kd.R_alloc | apply Kd.R_drewN | apply Kd.R_drew)); exact HO263.out) hb)
                    have n2_ := Aside0.mk (Kd.V_elder' (by (with_reducible repeat (first | apply Kd.V_alloc | apply Kd.V_drewN | apply Kd.V_drew)); exact HO266.out) (Kd.R_base ho0) hb)
                    have n3_ := Aside0.mk (Kd.R_below (by (with_reducible repeat (first | apply Kd.R_alloc | apply Kd.R_drewN | apply Kd.R_drew)); exact HO269.out) hb)
                    have n4_ := Aside0.mk (Kd.R_lower (Kd.R_new' ho0 (Kd.R_lt (by (with_reducible repeat (first | apply Kd.R_alloc | apply Kd.R_drewN | apply Kd.R_drew)); exact HO_5.out))) (below_size (by repeat (first | (with_reducible first | exact HB.out | apply below_alloc | apply pw_below_drewN | apply below_drew1) | exact HB.out))))
                    have n5_ := Aside0.mk (below_step (by repeat (first | (with_reducible first | exact HB.out | apply below_alloc | apply pw_below_drewN | apply below_drew1) | exact HB.out)) hb)
                    clear HO_5
                    clear HO263
                    clear HO266
                    clear HO269
                    clear HB
                    have HO_5 := n0_
                    have HO263 := n1_
                    have HO266 := n2_
                    have HO269 := n3_
                    have HO273 := n4_
                    have HB := n5_
                    clear n0_ n1_ n2_ n3_ n4_ n5_
                    (try clear hb)
                    (try clear hb2)
                    (try clear hk)
                    (try clear hi)
                    (try clear ho0)
                    refine hK.out _ _ (conv_of_V (P := Tryd.prog) (e' := 5) (base := w.heap.size) Tryd.underlying26 Tryd.underlying5 Tryd.underlying9 (by (with_reducible repeat (first | apply Kd.V_alloc | apply Kd.V_drewN | apply Kd.V_drew)); exact HO266.out)) (fun hHeld => ?_)
                    clear hK K
                    refine norm_ (a' := ?_) ?_ ?_
                    rotate_left
                    · show Act.put _ (some 85) _ = _
                      simp only [Act.put, List.setIfInBounds_toArray, List.set_cons_zero, List.set_cons_succ, i64_w, i32_w]
                      rfl
                    refine one_ (i := 9) (N := some 86) #[true, true, true, true, true, true, true, true, true, true, false, false, false] rfl rfl (one_of HT_.out (by kernel_rfl)) (by decide) (fun K hK => ?_)
                    have hcv48 := own_string (P := Tryd.prog) Tryd.underlying26 Tryd.underlying5 Tryd.underlying9 (Kd.own_of_R HO273.out)
                    refine value_ (w1 := ?_) (v := ?_) (by rfl) rfl ?_ ?_
                    rotate_left 2
                    · go_simp
                      constructor
                      · rfl
                      · rfl
                    clear hcv48
                    refine hK.out _ _ (conv_of_V (P := Tryd.prog) (e' := 5) (base := w.heap.size) Tryd.underlying26 Tryd.underlying5 Tryd.underlying9 (by (with_reducible repeat (first | apply Kd.V_alloc | apply Kd.V_drewN | apply Kd.V_drew)); exact HO266.out)) (fun hHeld => ?_)
                    clear hK K
                    refine norm_ (a' := ?_) ?_ ?_
                    rotate_left
                    · show Act.put _ (some 86) _ = _
                      simp only [Act.put, List.setIfInBounds_toArray, List.set_cons_zero, List.set_cons_succ, i64_w, i32_w]
                      rfl
                    refine pure_ (i := 10) (N := some 87) (v := ?_) (a' := ?_) #[true, true, true, true, true, true, true, true, true, true, true, false, false] rfl rfl (any_of HT_.out (by kernel_rfl)) (fun _ _ _ h => h) (Or.inl ⟨by rfl, ?_⟩) ?_ ?_
                    rotate_left
                    · intro w'
                      go_simp
                      with_reducible rfl
                    rotate_left
                    · simp only [Act.put, List.setIfInBounds_toArray, List.set_cons_zero, List.set_cons_succ, i64_w, i32_w]
                      rfl
                    refine pure_ (i := 11) (N := some 88) (v := ?_) (a' := ?_) #[true, true, true, true, true, true, true, true, true, true, true, true, false] rfl rfl (any_of HT_.out (by kernel_rfl)) (fun _ _ _ h => h) (Or.inl ⟨by rfl, ?_⟩) ?_ ?_
                    rotate_left
                    · intro w'
                      go_simp
                      with_reducible rfl
                    rotate_left
                    · simp only [Act.put, List.setIfInBounds_toArray, List.set_cons_zero, List.set_cons_succ, i64_w, i32_w]
                      rfl
                    refine pure_ (i := 12) (N := some 4) (v := ?_) (a' := ?_) #[true, true, true, true, true, true, true, true, true, true, true, true, true] rfl rfl (any_of HT_.out (by kernel_rfl)) (fun _ _ _ h => h) (Or.inl ⟨by rfl, ?_⟩) ?_ ?_
                    rotate_left
                    · intro w'
                      go_simp
                      with_reducible rfl
                    rotate_left
                    · simp only [Act.put, List.setIfInBounds_toArray, List.set_cons_zero, List.set_cons_succ, i64_w, i32_w]
                      rfl
                    refine done_ (done_of HT_.out (by kernel_rfl)) ?_
                    try go_wp2
                    go_ret
                    exact ⟨by first | rfl | (simp [errW_none, errW_some] <;> rfl) | (simp [*, errW_none, errW_some] <;> rfl), by repeat (first | (with_reducible first | exact HB.out | apply below_alloc | apply pw_below_drewN | apply below_drew1) | exact HB.out)⟩
                  · replace c37 := Bool.eq_false_iff.mpr c37
                    subst c37
                    have H1 : (some false) = some r := by rw [if_neg (show ¬ (false = true) by decide)] at H; exact H
                    clear H
                    have H := H1
                    clear H1
                    obtain rfl := Option.some.inj H
                    obtain ⟨Ao50, co50, eo50⟩ := Kd.R_slice HO_5.out
                    subst eo50
                    try go_wp2_with (first | ((with_reducible refine gate_callee (f := 13) rfl ?_); refine goesL_ (some 74) rfl rfl Tryd.func13 (by kernel_rfl) rfl #[.slice Ao50 t247.length co50] rfl (by (try simp only [List.map_toArray, List.map_cons, List.map_nil]); first | done | rfl | (simp only [List.length_drop, List.length_take]; rfl)) ?_; (with_reducible refine (head_Split.calls _ _ t247 t261 t264 _ ?side1 ?side2 ?side3 A34.out).mono ?_); (case side1 => repeat (first | exact (Kd.R_reads' HO_5.out).2.2 | (with_reducible refine Kd.C_alloc ?_ _) | (with_reducible refine Kd.C_drewN ?_ _) | (with_reducible refine Kd.C_drew ?_))); (case side2 => exact (Kd.R_reads' HO_5.out).2.1); (case side3 => exact shaped_below HSH.out (by repeat (first | (with_reducible first | exact HB.out | apply below_alloc | apply pw_below_drewN | apply below_drew1) | exact HB.out)) (Nat.le_refl _)); rintro e w51 ⟨v262, v265, rfl, ho0, ho1, hb⟩; refine ⟨_, rfl, ?_⟩; have n0_ := Aside0.mk (Kd.R_below (by (with_reducible repeat (first | apply Kd.R_alloc | apply Kd.R_drewN | apply Kd.R_drew)); exact HO_5.out) hb); have n1_ := Aside0.mk (Kd.R_lower (Kd.R_mono (ok' := fun k_ => True) ho0 (fun _ hk_ => trivial)) (below_size (by repeat (first | (with_reducible first | exact HB.out | apply below_alloc | apply pw_below_drewN | apply below_drew1) | exact HB.out)))); have n2_ := Aside0.mk (Kd.V_lower (Kd.V_mono (ok' := fun k_ => some k_ ≠ (v262 : Value).ownBlock ∧ some k_ ≠ (.slice Ao50 t247.length co50 : Value).ownBlock) ho1 (fun k_ hk_ => ⟨hk_.2, (Kd.fresh' (Kd.R_lt (by (with_reducible repeat (first | apply Kd.R_alloc | apply Kd.R_drewN | apply Kd.R_drew)); exact HO_5.out)) k_ hk_.1)⟩)) (below_size (by repeat (first | (with_reducible first | exact HB.out | apply below_alloc | apply pw_below_drewN | apply below_drew1) | exact HB.out)))); have n3_ := Aside0.mk (below_step (by repeat (first | (with_reducible first | exact HB.out | apply below_alloc | apply pw_below_drewN | apply below_drew1) | exact HB.out)) hb); clear HO_5; clear HB; have HO_5 := n0_; have HO263 := n1_; have HO266 := n2_; have HB := n3_; clear n0_ n1_ n2_ n3_; (try clear hb); (try clear hb2); (try clear hk); (try clear hi); (try clear ho0); (try clear ho1)))
                    have n0_ := Aside0.mk (Kd.R_drew HO_5.out)
                    have n1_ := Aside0.mk (Kd.R_drew HO263.out)
                    have n2_ := Aside0.mk (Kd.V_drew HO266.out)
                    have n3_ := Aside0.mk (below_drew1 HB.out)
                    clear HO_5
                    clear HO263
                    clear HO266
                    clear HB
                    have HO_5 := n0_
                    have HO263 := n1_
                    have HO266 := n2_
                    have HB := n3_
                    clear n0_ n1_ n2_ n3_
                    refine start_ (n := 13) (S := fun w' => (convert 26 9 v265).run Tryd.prog w' = .ok (.string (strOfNums t264)) w') (ds := []) #[false, false, false, false, false, false, false, false, false, false, false, false, false] (by kernel_rfl) rfl rfl (conv_of_V (P := Tryd.prog) (e' := 5) (base := w.heap.size) Tryd.underlying26 Tryd.underlying5 Tryd.underlying9 (by (with_reducible repeat (first | apply Kd.V_alloc | apply Kd.V_drewN | apply Kd.V_drew)); exact HO266.out)) (fun hHeld => ?_); refine with_tabW mailbaglaw18_HeadJoins.tab19 mailbaglaw18_HeadJoins.bits19 (fun HT_ HW_ => ?_)
                    generalize w51.drew = w52 at HO_5 HO263 HO266 HB hHeld ⊢
                    refine pure_ (i := 0) (N := some 77) (v := ?_) (a' := ?_) #[true, false, false, false, false, false, false, false, false, false, false, false, false] rfl rfl (any_of HT_.out (by kernel_rfl)) (fun _ _ _ h => h) (Or.inl ⟨by rfl, ?_⟩) ?_ ?_
                    rotate_left
                    · intro w'
                      go_simp
                      with_reducible rfl
                    rotate_left
                    · simp only [Act.put, List.setIfInBounds_toArray, List.set_cons_zero, List.set_cons_succ, i64_w, i32_w]
                      rfl
                    refine pure_ (i := 1) (N := some 78) (v := ?_) (a' := ?_) #[true, true, false, false, false, false, false, false, false, false, false, false, false] rfl rfl (any_of HT_.out (by kernel_rfl)) (fun _ _ _ h => h) (Or.inl ⟨by rfl, ?_⟩) ?_ ?_
                    rotate_left
                    · intro w'
                      go_simp
                      with_reducible rfl
                    rotate_left
                    · simp only [Act.put, List.setIfInBounds_toArray, List.set_cons_zero, List.set_cons_succ, i64_w, i32_w]
                      rfl
                    refine one_ (i := 2) (N := some 79) #[true, true, true, false, false, false, false, false, false, false, false, false, false] rfl rfl (one_of HT_.out (by kernel_rfl)) (by decide) (fun K hK => ?_)
                    refine goes_ Tryd.func25 (by kernel_rfl) rfl #[.slice A0 l0.length c0] (by rfl) rfl rfl (by (try simp only [List.map_toArray, List.map_cons, List.map_nil]); first | done | rfl | (simp only [List.length_drop, List.length_take]; rfl)) ?_
                    with_reducible refine (mailbaglaw18_of.calls k2 _ _ l0 t267 _ ?side1 ?side2 A35.out).mono ?_
                    (case side1 => repeat (first | exact (Kd.C_below HR0.out HB.out) | (with_reducible refine Kd.C_alloc ?_ _) | (with_reducible refine Kd.C_drewN ?_ _) | (with_reducible refine Kd.C_drew ?_)))
                    (case side2 => exact HC0.out)
                    rintro e w53 ⟨v268, rfl, ho0, hb⟩
                    refine ⟨_, rfl, ?_⟩
                    have n0_ := Aside0.mk (Kd.R_below (by (with_reducible repeat (first | apply Kd.R_alloc | apply Kd.R_drewN | apply Kd.R_drew)); exact HO_5.out) hb)
                    have n1_ := Aside0.mk (Kd.R_below (by (with_reducible repeat (first | apply Kd.R_alloc | apply Kd.R_drewN | apply Kd.R_drew)); exact HO263.out) hb)
                    have n2_ := Aside0.mk (Kd.V_elder' (by (with_reducible repeat (first | apply Kd.V_alloc | apply Kd.V_drewN | apply Kd.V_drew)); exact HO266.out) (Kd.R_base ho0) hb)
                    have n3_ := Aside0.mk (Kd.R_lower ho0 (below_size (by repeat (first | (with_reducible first | exact HB.out | apply below_alloc | apply pw_below_drewN | apply below_drew1) | exact HB.out))))
                    have n4_ := Aside0.mk (below_step (by repeat (first | (with_reducible first | exact HB.out | apply below_alloc | apply pw_below_drewN | apply below_drew1) | exact HB.out)) hb)
                    clear HO_5
                    clear HO263
                    clear HO266
                    clear HB
                    have HO_5 := n0_
                    have HO263 := n1_
                    have HO266 := n2_
                    have HO269 := n3_
                    have HB := n4_
                    clear n0_ n1_ n2_ n3_ n4_
                    (try clear hb)
                    (try clear hb2)
                    (try clear hk)
                    (try clear hi)
                    (try clear ho0)
                    obtain ⟨Ao54, co54, eo54⟩ := Kd.R_slice HO263.out
                    (first | subst eo54 | (injection eo54 with f1_ f2_ f3_; have f4_ := f1_.symm; have f5_ := f3_.symm; clear f1_ f2_ f3_; subst f4_; subst f5_))
                    obtain ⟨Ao55, co55, eo55⟩ := Kd.R_slice HO269.out
                    (first | subst eo55 | (injection eo55 with f1_ f2_ f3_; have f4_ := f1_.symm; have f5_ := f3_.symm; clear f1_ f2_ f3_; subst f4_; subst f5_))
                    refine hK.out _ _ (conv_of_V (P := Tryd.prog) (e' := 5) (base := w.heap.size) Tryd.underlying26 Tryd.underlying5 Tryd.underlying9 (by (with_reducible repeat (first | apply Kd.V_alloc | apply Kd.V_drewN | apply Kd.V_drew)); exact HO266.out)) (fun hHeld => ?_)
                    clear hK K
                    refine norm_ (a' := ?_) ?_ ?_
                    rotate_left
                    · show Act.put _ (some 79) _ = _
                      simp only [Act.put, List.setIfInBounds_toArray, List.set_cons_zero, List.set_cons_succ, i64_w, i32_w]
                      rfl
                    refine one_ (i := 3) (N := some 80) #[true, true, true, true, false, false, false, false, false, false, false, false, false] rfl rfl (one_of HT_.out (by kernel_rfl)) (by decide) (fun K hK => ?_)
                    refine goes_ Tryd.func17 (by kernel_rfl) rfl #[.slice Ao54 t261.length co54, .slice Ao55 t267.length co55] (by rfl) rfl rfl (by (try simp only [List.map_toArray, List.map_cons, List.map_nil]); first | done | rfl | (simp only [List.length_drop, List.length_take]; rfl)) ?_
                    with_reducible refine (mailbaglaw18_same.calls k2 _ _ t261 _ _ t267 false _ ?side1 ?side2 ?side3 ?side4 A36.out).mono ?_
                    (case side1 => repeat (first | exact (Kd.R_reads' HO263.out).2.2 | (with_reducible refine Kd.C_alloc ?_ _) | (with_reducible refine Kd.C_drewN ?_ _) | (with_reducible refine Kd.C_drew ?_)))
                    (case side2 => exact (Kd.R_reads' HO263.out).2.1)
                    (case side3 => repeat (first | exact (Kd.R_reads' HO269.out).2.2 | (with_reducible refine Kd.C_alloc ?_ _) | (with_reducible refine Kd.C_drewN ?_ _) | (with_reducible refine Kd.C_drew ?_)))
                    (case side4 => exact (Kd.R_reads' HO269.out).2.1)
                    rintro e w' ⟨rfl, ⟨nd, rfl⟩⟩
                    refine ⟨_, rfl, ?_⟩
                    refine hK.out _ _ (conv_of_V (P := Tryd.prog) (e' := 5) (base := w.heap.size) Tryd.underlying26 Tryd.underlying5 Tryd.underlying9 (by (with_reducible repeat (first | apply Kd.V_alloc | apply Kd.V_drewN | apply Kd.V_drew)); exact HO266.out)) (fun hHeld => ?_)
                    clear hK K
                    refine norm_ (a' := ?_) ?_ ?_
                    rotate_left
                    · show Act.put _ (some 80) _ = _
                      simp only [Act.put, List.setIfInBounds_toArray, List.set_cons_zero, List.set_cons_succ, i64_w, i32_w]
                      rfl
                    refine pure_ (i := 4) (N := some 81) (v := ?_) (a' := ?_) #[true, true, true, true, true, false, false, false, false, false, false, false, false] rfl rfl (any_of HT_.out (by kernel_rfl)) (fun _ _ _ h => h) (Or.inl ⟨by rfl, ?_⟩) ?_ ?_
                    rotate_left
                    · intro w'
                      go_simp
                      with_reducible rfl
                    rotate_left
                    · simp only [Act.put, List.setIfInBounds_toArray, List.set_cons_zero, List.set_cons_succ, i64_w, i32_w]
                      rfl
                    refine pure_ (i := 5) (N := some 82) (v := undef) (a' := ?_) #[true, true, true, true, true, true, false, false, false, false, false, false, false] rfl rfl (any_of HT_.out (by kernel_rfl)) (fun _ _ _ h => h) (Or.inr ⟨by rfl, rfl⟩) ?_ ?_
                    rotate_left
                    · simp only [Act.put, List.setIfInBounds_toArray, List.set_cons_zero, List.set_cons_succ, i64_w, i32_w]
                      rfl
                    refine pure_ (i := 6) (N := some 83) (v := undef) (a' := ?_) #[true, true, true, true, true, true, true, false, false, false, false, false, false] rfl rfl (any_of HT_.out (by kernel_rfl)) (fun _ _ _ h => h) (Or.inr ⟨by rfl, rfl⟩) ?_ ?_
                    rotate_left
                    · simp only [Act.put, List.setIfInBounds_toArray, List.set_cons_zero, List.set_cons_succ, i64_w, i32_w]
                      rfl
                    refine pure_ (i := 7) (N := some 84) (v := undef) (a' := ?_) #[true, true, true, true, true, true, true, true, false, false, false, false, false] rfl rfl (any_of HT_.out (by kernel_rfl)) (fun _ _ _ h => h) (Or.inr ⟨by rfl, rfl⟩) ?_ ?_
                    rotate_left
                    · simp only [Act.put, List.setIfInBounds_toArray, List.set_cons_zero, List.set_cons_succ, i64_w, i32_w]
                      rfl
                    refine pure_ (i := 8) (N := some 85) (v := undef) (a' := ?_) #[true, true, true, true, true, true, true, true, true, false, false, false, false] rfl rfl (any_of HT_.out (by kernel_rfl)) (fun _ _ _ h => h) (Or.inr ⟨by rfl, rfl⟩) ?_ ?_
                    rotate_left
                    · simp only [Act.put, List.setIfInBounds_toArray, List.set_cons_zero, List.set_cons_succ, i64_w, i32_w]
                      rfl
                    refine pure_ (i := 9) (N := some 86) (v := undef) (a' := ?_) #[true, true, true, true, true, true, true, true, true, true, false, false, false] rfl rfl (any_of HT_.out (by kernel_rfl)) (fun _ _ _ h => h) (Or.inr ⟨by rfl, rfl⟩) ?_ ?_
                    rotate_left
                    · simp only [Act.put, List.setIfInBounds_toArray, List.set_cons_zero, List.set_cons_succ, i64_w, i32_w]
                      rfl
                    refine pure_ (i := 10) (N := some 87) (v := undef) (a' := ?_) #[true, true, true, true, true, true, true, true, true, true, true, false, false] rfl rfl (any_of HT_.out (by kernel_rfl)) (fun _ _ _ h => h) (Or.inr ⟨by rfl, rfl⟩) ?_ ?_
                    rotate_left
                    · simp only [Act.put, List.setIfInBounds_toArray, List.set_cons_zero, List.set_cons_succ, i64_w, i32_w]
                      rfl
                    refine pure_ (i := 11) (N := some 88) (v := ?_) (a' := ?_) #[true, true, true, true, true, true, true, true, true, true, true, true, false] rfl rfl (any_of HT_.out (by kernel_rfl)) (fun _ _ _ h => h) (Or.inl ⟨by rfl, ?_⟩) ?_ ?_
                    rotate_left
                    · intro w'
                      go_simp
                      with_reducible rfl
                    rotate_left
                    · simp only [Act.put, List.setIfInBounds_toArray, List.set_cons_zero, List.set_cons_succ, i64_w, i32_w]
                      rfl
                    refine pure_ (i := 12) (N := some 4) (v := ?_) (a' := ?_) #[true, true, true, true, true, true, true, true, true, true, true, true, true] rfl rfl (any_of HT_.out (by kernel_rfl)) (fun _ _ _ h => h) (Or.inl ⟨by rfl, ?_⟩) ?_ ?_
                    rotate_left
                    · intro w'
                      go_simp
                      with_reducible rfl
                    rotate_left
                    · simp only [Act.put, List.setIfInBounds_toArray, List.set_cons_zero, List.set_cons_succ, i64_w, i32_w]
                      rfl
                    refine done_ (done_of HT_.out (by kernel_rfl)) ?_
                    try go_wp2
                    go_ret
                    exact ⟨by first | rfl | (simp [errW_none, errW_some] <;> rfl) | (simp [*, errW_none, errW_some] <;> rfl), by repeat (first | (with_reducible first | exact HB.out | apply below_alloc | apply pw_below_drewN | apply below_drew1) | exact HB.out)⟩
          · rw [if_neg c13] at H
            have c13b0 : ((strOfNums t247).toList == (strOfNums t253).toList) = false := beq_eq_false_iff_ne.mpr c13
            have c13b1 : ((strOfNums t247).toList != (strOfNums t253).toList) = true := bne_iff_ne.mpr c13
            obtain rfl := Option.some.inj H
            try go_wp2_with (first | ((with_reducible refine gate_callee (f := 23) rfl ?_); refine goesL_ (some 22) rfl rfl Tryd.func23 (by kernel_rfl) rfl #[.slice A0 l0.length c0, .slice A1 l1.length c1] rfl (by (try simp only [List.map_toArray, List.map_cons, List.map_nil]); first | done | rfl | (simp only [List.length_drop, List.length_take]; rfl)) ?_; (with_reducible refine (head_Join.calls _ _ l0 _ _ l1 t247 _ ?side1 ?side2 ?side3 ?side4 A10.out).mono ?_); (case side1 => repeat (first | exact (Kd.C_below HR0.out HB.out) | (with_reducible refine Kd.C_alloc ?_ _) | (with_reducible refine Kd.C_drewN ?_ _) | (with_reducible refine Kd.C_drew ?_))); (case side2 => exact HC0.out); (case side3 => repeat (first | exact (Kd.C_below HR1.out HB.out) | (with_reducible refine Kd.C_alloc ?_ _) | (with_reducible refine Kd.C_drewN ?_ _) | (with_reducible refine Kd.C_drew ?_))); (case side4 => exact HC1.out); rintro e w56 ⟨v248, rfl, ho0, hb⟩; refine ⟨_, rfl, ?_⟩; have n0_ := Aside0.mk (Kd.R_lower ho0 (below_size (by repeat (first | (with_reducible first | exact HB.out | apply below_alloc | apply pw_below_drewN | apply below_drew1) | exact HB.out)))); have n1_ := Aside0.mk (below_step (by repeat (first | (with_reducible first | exact HB.out | apply below_alloc | apply pw_below_drewN | apply below_drew1) | exact HB.out)) hb); clear HB; have HO249 := n0_; have HB := n1_; clear n0_ n1_; (try clear hb); (try clear hb2); (try clear hk); (try clear hi); (try clear ho0)))
            have n0_ := Aside0.mk (Kd.R_drew HO249.out)
            have n1_ := Aside0.mk (below_drew1 HB.out)
            clear HO249
            clear HB
            have HO249 := n0_
            have HB := n1_
            clear n0_ n1_
            have hcv58 := own_string (P := Tryd.prog) Tryd.underlying26 Tryd.underlying5 Tryd.underlying9 (Kd.own_of_R HO249.out)
            refine start_ (n := 8) (S := fun w' => (convert 26 9 v248).run Tryd.prog w' = .ok (.string (strOfNums t247)) w') (ds := []) #[false, false, false, false, false, false, false, false] (by kernel_rfl) rfl rfl (own_string (P := Tryd.prog) Tryd.underlying26 Tryd.underlying5 Tryd.underlying9 (Kd.own_of_R HO249.out)) (fun hHeld => ?_); refine with_tabW mailbaglaw18_HeadJoins.tab6 mailbaglaw18_HeadJoins.bits6 (fun HT_ HW_ => ?_)
            generalize w56.drew = w57 at HO249 HB hHeld ⊢
            refine pure_ (i := 0) (N := some 23) (v := ?_) (a' := ?_) #[true, false, false, false, false, false, false, false] rfl rfl (any_of HT_.out (by kernel_rfl)) (fun _ _ _ h => h) (Or.inl ⟨by rfl, ?_⟩) ?_ ?_
            rotate_left
            · intro w'
              go_simp
              with_reducible rfl
            rotate_left
            · simp only [Act.put, List.setIfInBounds_toArray, List.set_cons_zero, List.set_cons_succ, i64_w, i32_w]
              rfl
            refine take_ (i := 1) (N := some 24) (v := ?_) (a' := ?_) #[true, true, false, false, false, false, false, false] rfl rfl (take_ofW HT_.out HW_.out (by kernel_rfl)) (fun _ _ _ h => h) (Or.inl ⟨by rfl, ?_⟩) hHeld ?_ ?_
            rotate_left
            · intro w' s0
              go_simp
              with_reducible rfl
            rotate_left
            · simp only [Act.put, List.setIfInBounds_toArray, List.set_cons_zero, List.set_cons_succ, i64_w, i32_w]
              rfl
            refine pure_ (i := 2) (N := some 25) (v := ?_) (a' := ?_) #[true, true, true, false, false, false, false, false] rfl rfl (any_of HT_.out (by kernel_rfl)) (fun _ _ _ h => h) (Or.inl ⟨by rfl, ?_⟩) ?_ ?_
            rotate_left
            · intro w'
              go_simp
              with_reducible rfl
            rotate_left
            · simp only [Act.put, List.setIfInBounds_toArray, List.set_cons_zero, List.set_cons_succ, i64_w, i32_w]
              rfl
            refine pure_ (i := 4) (N := some 27) (v := ?_) (a' := ?_) #[true, true, true, false, true, false, false, false] rfl rfl (any_of HT_.out (by kernel_rfl)) (fun _ _ _ h => h) (Or.inl ⟨by rfl, ?_⟩) ?_ ?_
            rotate_left
            · intro w'
              go_simp
              with_reducible rfl
            rotate_left
            · simp only [Act.put, List.setIfInBounds_toArray, List.set_cons_zero, List.set_cons_succ, i64_w, i32_w]
              rfl
            refine one_ (i := 3) (N := some 26) #[true, true, true, true, true, false, false, false] rfl rfl (one_of HT_.out (by kernel_rfl)) (by decide) (fun K hK => ?_)
            refine goes_ Tryd.func25 (by kernel_rfl) rfl #[.slice A0 l0.length c0] (by rfl) rfl rfl (by (try simp only [List.map_toArray, List.map_cons, List.map_nil]); first | done | rfl | (simp only [List.length_drop, List.length_take]; rfl)) ?_
            with_reducible refine (mailbaglaw18_of.calls kj4 _ _ l0 t250 _ ?side1 ?side2 A11.out).mono ?_
            (case side1 => repeat (first | exact (Kd.C_below HR0.out HB.out) | (with_reducible refine Kd.C_alloc ?_ _) | (with_reducible refine Kd.C_drewN ?_ _) | (with_reducible refine Kd.C_drew ?_)))
            (case side2 => exact HC0.out)
            rintro e w59 ⟨v251, rfl, ho0, hb⟩
            refine ⟨_, rfl, ?_⟩
            have n0_ := Aside0.mk (Kd.R_below (by (with_reducible repeat (first | apply Kd.R_alloc | apply Kd.R_drewN | apply Kd.R_drew)); exact HO249.out) hb)
            have n1_ := Aside0.mk (Kd.R_lower ho0 (below_size (by repeat (first | (with_reducible first | exact HB.out | apply below_alloc | apply pw_below_drewN | apply below_drew1) | exact HB.out))))
            have n2_ := Aside0.mk (below_step (by repeat (first | (with_reducible first | exact HB.out | apply below_alloc | apply pw_below_drewN | apply below_drew1) | exact HB.out)) hb)
            clear HO249
            clear HB
            have HO249 := n0_
            have HO252 := n1_
            have HB := n2_
            clear n0_ n1_ n2_
            (try clear hb)
            (try clear hb2)
            (try clear hk)
            (try clear hi)
            (try clear ho0)
            obtain ⟨Ao60, co60, eo60⟩ := Kd.R_slice HO252.out
            (first | subst eo60 | (injection eo60 with f1_ f2_ f3_; have f4_ := f1_.symm; have f5_ := f3_.symm; clear f1_ f2_ f3_; subst f4_; subst f5_))
            refine hK.out _ _ (own_string (P := Tryd.prog) Tryd.underlying26 Tryd.underlying5 Tryd.underlying9 (Kd.own_of_R HO249.out)) (fun hHeld => ?_)
            clear hK K
            refine norm_ (a' := ?_) ?_ ?_
            rotate_left
            · show Act.put _ (some 26) _ = _
              simp only [Act.put, List.setIfInBounds_toArray, List.set_cons_zero, List.set_cons_succ, i64_w, i32_w]
              rfl
            refine one_ (i := 5) (N := some 28) #[true, true, true, true, true, true, false, false] rfl rfl (one_of HT_.out (by kernel_rfl)) (by decide) (fun K hK => ?_)
            refine goes_ Tryd.func24 (by kernel_rfl) rfl #[.slice Ao60 t250.length co60, .slice A1 l1.length c1] (by rfl) rfl rfl (by (try simp only [List.map_toArray, List.map_cons, List.map_nil]); first | done | rfl | (simp only [List.length_drop, List.length_take]; rfl)) ?_
            with_reducible refine (mailbagref18_Join.calls _ _ t250 _ _ l1 t253 _ ?side1 ?side2 ?side3 ?side4 A12.out).mono ?_
            (case side1 => repeat (first | exact (Kd.R_reads' HO252.out).2.2 | (with_reducible refine Kd.C_alloc ?_ _) | (with_reducible refine Kd.C_drewN ?_ _) | (with_reducible refine Kd.C_drew ?_)))
            (case side2 => exact (Kd.R_reads' HO252.out).2.1)
            (case side3 => repeat (first | exact (Kd.C_below HR1.out HB.out) | (with_reducible refine Kd.C_alloc ?_ _) | (with_reducible refine Kd.C_drewN ?_ _) | (with_reducible refine Kd.C_drew ?_)))
            (case side4 => exact HC1.out)
            rintro e w61 ⟨v254, rfl, ho0, hb⟩
            refine ⟨_, rfl, ?_⟩
            have n0_ := Aside0.mk (Kd.R_elder' (by (with_reducible repeat (first | apply Kd.R_alloc | apply Kd.R_drewN | apply Kd.R_drew)); exact HO249.out) (Kd.R_base ho0) hb)
            have n1_ := Aside0.mk (Kd.R_below (by (with_reducible repeat (first | apply Kd.R_alloc | apply Kd.R_drewN | apply Kd.R_drew)); exact HO252.out) hb)
            have n2_ := Aside0.mk (Kd.R_lower (Kd.R_new' ho0 (Kd.R_lt (by (with_reducible repeat (first | apply Kd.R_alloc | apply Kd.R_drewN | apply Kd.R_drew)); exact HO249.out))) (below_size (by repeat (first | (with_reducible first | exact HB.out | apply below_alloc | apply pw_below_drewN | apply below_drew1) | exact HB.out))))
            have n3_ := Aside0.mk (below_step (by repeat (first | (with_reducible first | exact HB.out | apply below_alloc | apply pw_below_drewN | apply below_drew1) | exact HB.out)) hb)
            clear HO249
            clear HO252
            clear HB
            have HO249 := n0_
            have HO252 := n1_
            have HO255 := n2_
            have HB := n3_
            clear n0_ n1_ n2_ n3_
            (try clear hb)
            (try clear hb2)
            (try clear hk)
            (try clear hi)
            (try clear ho0)
            refine hK.out _ _ (own_string (P := Tryd.prog) Tryd.underlying26 Tryd.underlying5 Tryd.underlying9 (Kd.own_of_R HO249.out)) (fun hHeld => ?_)
            clear hK K
            refine norm_ (a' := ?_) ?_ ?_
            rotate_left
            · show Act.put _ (some 28) _ = _
              simp only [Act.put, List.setIfInBounds_toArray, List.set_cons_zero, List.set_cons_succ, i64_w, i32_w]
              rfl
            refine one_ (i := 6) (N := some 29) #[true, true, true, true, true, true, true, false] rfl rfl (one_of HT_.out (by kernel_rfl)) (by decide) (fun K hK => ?_)
            have hcv62 := own_string (P := Tryd.prog) Tryd.underlying26 Tryd.underlying5 Tryd.underlying9 (Kd.own_of_R HO255.out)
            refine value_ (w1 := ?_) (v := ?_) (by rfl) rfl ?_ ?_
            rotate_left 2
            · go_simp
              constructor
              · rfl
              · rfl
            clear hcv62
            refine hK.out _ _ (own_string (P := Tryd.prog) Tryd.underlying26 Tryd.underlying5 Tryd.underlying9 (Kd.own_of_R HO249.out)) (fun hHeld => ?_)
            clear hK K
            refine norm_ (a' := ?_) ?_ ?_
            rotate_left
            · show Act.put _ (some 29) _ = _
              simp only [Act.put, List.setIfInBounds_toArray, List.set_cons_zero, List.set_cons_succ, i64_w, i32_w]
              rfl
            refine pure_ (i := 7) (N := some 30) (v := ?_) (a' := ?_) #[true, true, true, true, true, true, true, true] rfl rfl (any_of HT_.out (by kernel_rfl)) (fun _ _ _ h => h) (Or.inl ⟨by rfl, ?_⟩) ?_ ?_
            rotate_left
            · intro w'
              go_simp
              with_reducible rfl
            rotate_left
            · simp only [Act.put, List.setIfInBounds_toArray, List.set_cons_zero, List.set_cons_succ, i64_w, i32_w]
              rfl
            refine done_ (done_of HT_.out (by kernel_rfl)) ?_
            try go_wp2
            go_ret
            exact ⟨by first | rfl | (simp [errW_none, errW_some] <;> rfl) | (simp [*, errW_none, errW_some] <;> rfl), by repeat (first | (with_reducible first | exact HB.out | apply below_alloc | apply pw_below_drewN | apply below_drew1) | exact HB.out)⟩
  · replace c4 := Bool.eq_false_iff.mpr c4
    subst c4
    have H1 : (some false) = some r := by rw [if_neg (show ¬ (false = true) by decide)] at H; exact H
    clear H
    have H := H1
    clear H1
    obtain rfl := Option.some.inj H
    go_enter Tryd.func6, Tryd.ntmps6
    go_wp2_with (first | ((with_reducible refine gate_callee (f := 9) rfl ?_); refine goesL_ (some 10) rfl rfl Tryd.func9 (by kernel_rfl) rfl #[] rfl (by (try simp only [List.map_toArray, List.map_cons, List.map_nil]); first | done | rfl | (simp only [List.length_drop, List.length_take]; rfl)) ?_; (with_reducible refine (mailbaglaw18_known.calls  false _ ?side1 A3.out).mono ?_); (case side1 => exact shaped_below HSH.out (by repeat (first | (with_reducible first | exact HB.out | apply below_alloc | apply pw_below_drewN | apply below_drew1) | exact HB.out)) (Nat.le_refl _)); rintro e w64 ⟨rfl, hb⟩; refine ⟨_, rfl, ?_⟩; have n0_ := Aside0.mk (below_step (by repeat (first | (with_reducible first | exact HB.out | apply below_alloc | apply pw_below_drewN | apply below_drew1) | exact HB.out)) hb); clear HB; have HB := n0_; clear n0_; (try clear hb); (try clear hb2); (try clear hk); (try clear hi)))
    go_ret
    exact ⟨by first | rfl | (simp [errW_none, errW_some] <;> rfl) | (simp [*, errW_none, errW_some] <;> rfl), by repeat (first | (with_reducible first | exact HB.out | apply below_alloc | apply pw_below_drewN | apply below_drew1) | exact HB.out)⟩

end Go.Proofs.YtfpcngoonfbphaaDoor.XH

/- The law HeadJoins: its plain statement and its walk. -/
set_option linter.unusedVariables false
set_option linter.unusedSimpArgs false
namespace Go.Proofs.YtfpcngoonfbphaaDoor.XH
open Go.RowKit Go.Proofs.YtfpcngoonfbphaaDoorW.PrintWords Go.Proofs.YtfpcngoonfbphaaDoor Go.Proofs.YtfpcngoonfbphaaDoor.Pl

/-! ### Bytes -/
theorem ne_n {c d : UInt8} (h : c.toNat ≠ d.toNat) : c ≠ d := fun e => h (by rw [e])
theorem noNL_no13 : ∀ (l : Bs), (∀ c ∈ l, c ≠ 13) → noNL l = true := by
  intro l
  induction l with
  | nil => intro _; rfl
  | cons c t ih =>
    intro h
    unfold noNL
    rw [ih (fun x hx => h x (List.mem_cons_of_mem _ hx)), show (c == 13) = false from beq_eq_false_iff_ne.2 (h c List.mem_cons_self)]
    rfl
theorem whole_app (X body : Bs) : wholeB (X ++ 13 :: 10 :: body) = X ++ 13 :: 10 :: wholeB body := by
  have hX : X ++ 13 :: 10 :: body ≠ [] := by simp
  by_cases h0 : body = []
  · subst h0
    unfold wholeB
    rw [if_pos (.inr (List.suffix_append _ _)), if_pos (.inl rfl)]
  · have key : [13, 10] <:+ X ++ 13 :: 10 :: body ↔ [13, 10] <:+ body := by
      constructor
      · intro h
        rcases Nat.lt_or_ge body.length 2 with h2 | h2
        · exfalso
          obtain ⟨c, rfl⟩ : ∃ c, body = [c] := by
            cases body with
            | nil => exact absurd rfl h0
            | cons c t => cases t with
              | nil => exact ⟨c, rfl⟩
              | cons d t => simp at h2; omega
          obtain ⟨t, ht⟩ := h
          have e1 : t ++ [13] ++ [10] = X ++ [13] ++ [10] ++ [c] := by simpa using ht
          obtain ⟨e2, _⟩ := List.append_inj' e1 rfl
          obtain ⟨_, e3⟩ := List.append_inj' e2 rfl
          exact absurd e3 (by decide)
        · have hb : body <:+ X ++ 13 :: 10 :: body := ⟨X ++ [13, 10], by simp⟩
          exact List.suffix_of_suffix_length_le h hb (by simpa using h2)
      · intro h
        exact h.trans ⟨X ++ [13, 10], by simp⟩
    unfold wholeB
    by_cases hs : [13, 10] <:+ body
    · rw [if_pos (.inr (key.2 hs)), if_pos (.inr hs)]
    · rw [if_neg (by rintro (q | q); · exact hX q
                     · exact hs (key.1 q)), if_neg (by rintro (q | q); · exact h0 q
                                                       · exact hs q)]
      simp

/-! ### What Split says of fields that were joined -/
def good (p : Fld) : Prop := nameOk p.1 = true ∧ (∀ c ∈ p.2, c ≠ 13) ∧ ∀ c ∈ p.2, c ≠ 10
def lineF (p : Fld) : Bs := p.1 ++ 58 :: p.2
theorem name_parts {n : Bs} (h : nameOk n = true) : n ≠ [] ∧ n.length ≤ 76 ∧ ∀ c ∈ n, 33 ≤ c.toNat ∧ c.toNat ≤ 126 ∧ c.toNat ≠ 58 := by
  unfold nameOk at h
  simp only [Bool.and_eq_true, decide_eq_true_eq, Bool.not_eq_true'] at h
  refine ⟨by rintro rfl; simp at h, h.2, fun c hc => ?_⟩
  exact (okC_iff c).1 (List.all_eq_true.1 h.1.1 c hc)
theorem fieldsB_join : ∀ (L : List Fld), (∀ p ∈ L, good p) → fieldsB L = joinL (L.map lineF) := by
  intro L
  induction L with
  | nil => intro _; rfl
  | cons p L ih =>
    intro h
    have hp := h p List.mem_cons_self
    have e : fieldB p = lineF p ++ [13, 10] := by unfold fieldB lineF; rw [if_pos hp.1]; simp
    show fieldB p ++ fieldsB L = _
    rw [ih (fun q hq => h q (List.mem_cons_of_mem _ hq)), List.map_cons, joinL_cons, e]
    simp
theorem split_fields : ∀ (L : List Fld) (o : List Fld) (rest : List Bs), (∀ p ∈ L, good p) → splitL o (L.map lineF ++ [] :: rest) = (o ++ L, joinL rest) := by
  intro L
  induction L with
  | nil =>
    intro o rest _
    rw [List.map_nil, List.nil_append, splitL, if_neg (by simp [foldB]), cut_nil _ (by simp), if_neg (by simp), if_pos rfl, List.append_nil]
  | cons p L ih =>
    intro o rest h
    have hp := h p List.mem_cons_self
    obtain ⟨h0, _, hc⟩ := name_parts hp.1
    have hf : foldB (lineF p) = false := by
      obtain ⟨c, t, e⟩ : ∃ c t, p.1 = c :: t := by
        cases hq : p.1 with
        | nil => exact absurd hq h0
        | cons c t => exact ⟨c, t, rfl⟩
      have h1 := hc c (by rw [e]; exact List.mem_cons_self)
      have e1 : c ≠ 32 := ne_n (by rw [show (32 : UInt8).toNat = 32 from rfl]; omega)
      have e2 : c ≠ 9 := ne_n (by rw [show (9 : UInt8).toNat = 9 from rfl]; omega)
      unfold lineF
      rw [e]
      simp [foldB, e1, e2]
    have hcut : Lib.cut (lineF p) [58] = (p.1, p.2, true) := cut58_at p.1 p.2 (fun c h2 => ne_n (by rw [show (58 : UInt8).toNat = 58 from rfl]; have := hc c h2; omega))
    rw [List.map_cons, List.cons_append, splitL, if_neg (by rw [hf]; simp), hcut, if_pos (by simp [hp.1]), ih _ _ (fun q hq => h q (List.mem_cons_of_mem _ hq))]
    simp
theorem lineF_noNL {p : Fld} (h : good p) : noNL (lineF p) = true := by
  refine noNL_no13 _ fun c hc => ?_
  unfold lineF at hc
  rcases List.mem_append.1 hc with hc | hc
  · have := (name_parts h.1).2.2 c hc
    exact ne_n (by rw [show (13 : UInt8).toNat = 13 from rfl]; omega)
  · rcases List.mem_cons.1 hc with rfl | hc
    · decide
    · exact h.2.1 c hc
theorem hsplit_join (L : List Fld) (body : Bs) (hL : ∀ p ∈ L, good p) (hl : (fieldsB L ++ 13 :: 10 :: body).length ≤ 99000) : head_Split.f (i8 (fieldsB L ++ 13 :: 10 :: body)) = some (L.map toS, i8 (wholeB body)) := by
  obtain ⟨ls, hw, hn⟩ := whole_lines body
  have e : wholeB (fieldsB L ++ 13 :: 10 :: body) = joinL (L.map lineF ++ [] :: ls) := by
    rw [whole_app, hw, fieldsB_join L hL, joinL_append, joinL_cons]
    rfl
  have h := hsplit _ (L.map lineF ++ [] :: ls) hl e (by
    intro l h2
    rcases List.mem_append.1 h2 with h2 | h2
    · obtain ⟨p, hp, rfl⟩ := List.mem_map.1 h2
      exact lineF_noNL (hL p hp)
    · rcases List.mem_cons.1 h2 with rfl | h2
      · rfl
      · exact hn l h2)
  rw [split_fields L [] ls hL, List.nil_append, ← hw] at h
  exact h

/-! ### few, of, Join -/
def vsum (L : List Fld) : Nat := (L.map fun p => p.2.length).sum
def fewB (L : List Fld) : Bool := decide (L.length ≤ 60) && (L.all fun p => decide (p.1.length ≤ 200 ∧ p.2.length ≤ 4096)) && decide (vsum L ≤ 4096)
theorem vsum_take_succ {L : List Fld} {i : Nat} (h : i < L.length) : vsum (L.take (i + 1)) = vsum (L.take i) + L[i].2.length := by
  unfold vsum
  rw [List.take_succ_eq_append_getElem h, List.map_append, List.sum_append]
  rfl
theorem vsum_take_le (L : List Fld) (i : Nat) (h : ∀ p ∈ L.take i, p.2.length ≤ 4096) : vsum (L.take i) ≤ 4096 * L.length := by
  have : ∀ (M : List Fld), (∀ p ∈ M, p.2.length ≤ 4096) → vsum M ≤ 4096 * M.length := by
    intro M
    induction M with
    | nil => intro _; simp [vsum]
    | cons p M ih =>
      intro hm
      have h1 := ih (fun q hq => hm q (List.mem_cons_of_mem _ hq))
      have h2 := hm p List.mem_cons_self
      unfold vsum at h1 ⊢
      simp only [List.map_cons, List.sum_cons, List.length_cons]
      omega
  have := this _ h
  have h3 : (L.take i).length ≤ L.length := by simp; omega
  exact Nat.le_trans this (Nat.mul_le_mul_left _ h3)
theorem few_l0 (L : List Fld) (hl : L.length ≤ 60) : ∀ (d i : Nat), i + d = L.length → (∀ p ∈ L.take i, p.2.length ≤ 4096) →
    Ev (fun k => mailbaglaw18_few.l0 k (L.map toS) (vsum (L.take i) : Int) (i : Int)) (((L.drop i).all fun p => decide (p.1.length ≤ 200 ∧ p.2.length ≤ 4096)) && decide (vsum L ≤ 4096)) := by
  intro d
  induction d with
  | zero =>
    intro i hi hp
    rw [List.take_of_length_le (by omega), List.drop_of_length_le (by omega), List.all_nil, Bool.true_and]
    refine Ev.step (f := fun _ => some (decide (vsum L ≤ 4096))) (fun k => ?_) (Ev.now _)
    simp only [mailbaglaw18_few.l0]
    rw [if_neg (by rw [List.length_map]; omega)]
    congr 1
    rw [Bool.eq_iff_iff]
    simp only [decide_eq_true_eq]
    omega
  | succ d ih =>
    intro i hi hp
    have hlt : i < L.length := by omega
    rw [List.drop_eq_getElem_cons hlt, List.all_cons]
    by_cases h1 : L[i].1.length > 200
    · rw [decide_eq_false (show ¬ (L[i].1.length ≤ 200 ∧ L[i].2.length ≤ 4096) by omega), Bool.false_and, Bool.false_and]
      refine Ev.step (f := fun _ => some false) (fun k => ?_) (Ev.now _)
      simp only [mailbaglaw18_few.l0]
      rw [if_pos (by rw [List.length_map]; omega), if_pos (by omega), rdS L i hlt, if_pos (by show ((mk L[i].1).size : Int) > 200; rw [size_mk]; omega)]
    · by_cases h2 : L[i].2.length > 4096
      · rw [decide_eq_false (show ¬ (L[i].1.length ≤ 200 ∧ L[i].2.length ≤ 4096) by omega), Bool.false_and, Bool.false_and]
        refine Ev.step (f := fun _ => some false) (fun k => ?_) (Ev.now _)
        simp only [mailbaglaw18_few.l0]
        rw [if_pos (by rw [List.length_map]; omega), if_pos (by omega), rdS L i hlt, if_neg (by show ¬ ((mk L[i].1).size : Int) > 200; rw [size_mk]; omega), if_pos (by show ((mk L[i].2).size : Int) > 4096; rw [size_mk]; omega)]
      · rw [decide_eq_true (show L[i].1.length ≤ 200 ∧ L[i].2.length ≤ 4096 by omega), Bool.true_and]
        have hp2 : ∀ p ∈ L.take (i + 1), p.2.length ≤ 4096 := by
          intro p hq
          rw [List.take_succ_eq_append_getElem hlt] at hq
          rcases List.mem_append.1 hq with hq | hq
          · exact hp p hq
          · rw [List.mem_singleton.1 hq]; omega
        have hs := vsum_take_le L i hp
        refine Ev.step (fun k => ?_) (ih (i + 1) (by omega) hp2)
        simp only [mailbaglaw18_few.l0]
        rw [if_pos (by rw [List.length_map]; omega), if_pos (by omega), rdS L i hlt, if_neg (by show ¬ ((mk L[i].1).size : Int) > 200; rw [size_mk]; omega), if_neg (by show ¬ ((mk L[i].2).size : Int) > 4096; rw [size_mk]; omega), w64s _ (by omega), vsum_take_succ hlt]
        rw [show ((toS L[i]).f1.size : Int) = (L[i].2.length : Int) from by show ((mk L[i].2).size : Int) = _; rw [size_mk], w64 (by omega) (by omega)]
        rfl
theorem few_f (L : List Fld) (hm : L.length ≤ 9000000000000000000) : Ev (fun k => mailbaglaw18_few.f k (L.map toS)) (fewB L) := by
  unfold mailbaglaw18_few.f fewB
  rw [List.length_map]
  by_cases h : (L.length : Int) > 60
  · rw [decide_eq_false (show ¬ L.length ≤ 60 by omega), Bool.false_and, Bool.false_and]
    exact Ev.congr (fun k => if_pos h) (Ev.now false)
  · rw [decide_eq_true (show L.length ≤ 60 by omega), Bool.true_and]
    refine Ev.congr (fun k => if_neg h) ?_
    have h2 := few_l0 L (by omega) L.length 0 (by omega) (by simp)
    exact h2
theorem of_l0 (L : List Fld) (hl : L.length ≤ 60) : ∀ (d i : Nat), i + d = L.length → Ev (fun k => mailbaglaw18_of.l0 k (L.map toS) ((L.take i).map toR) (i : Int)) (L.map toR) := by
  intro d
  induction d with
  | zero =>
    intro i hi
    rw [List.take_of_length_le (by omega)]
    refine Ev.step (f := fun _ => some (L.map toR)) (fun k => ?_) (Ev.now _)
    simp only [mailbaglaw18_of.l0]
    rw [if_neg (by rw [List.length_map]; omega)]
  | succ d ih =>
    intro i hi
    have hlt : i < L.length := by omega
    have h := ih (i + 1) (by omega)
    rw [List.take_succ_eq_append_getElem hlt, List.map_append] at h
    refine Ev.step (fun k => ?_) h
    simp only [mailbaglaw18_of.l0]
    rw [if_pos (by rw [List.length_map]; omega), if_pos (by omega), if_pos (by rw [List.length_map]; simp; omega), rdS L i hlt, w64s _ (by omega)]
    rfl
theorem of_f (L : List Fld) (hl : L.length ≤ 60) : Ev (fun k => mailbaglaw18_of.f k (L.map toS)) (L.map toR) := by
  unfold mailbaglaw18_of.f
  exact of_l0 L hl L.length 0 (by omega)
structure Few (L : List Fld) : Prop where
  len : L.length ≤ 60
  each : ∀ p ∈ L, p.1.length ≤ 200 ∧ p.2.length ≤ 4096
  sum : vsum L ≤ 4096
theorem Few.of {L : List Fld} (h : fewB L = true) : Few L := by
  unfold fewB at h
  simp only [Bool.and_eq_true, decide_eq_true_eq, List.all_eq_true] at h
  exact ⟨h.1.1, h.1.2, h.2⟩
theorem Few.fields {L : List Fld} (h : Few L) : (fieldsB L).length ≤ 20000 := by
  have : ∀ (M : List Fld), (∀ p ∈ M, p.1.length ≤ 200 ∧ p.2.length ≤ 4096) → (fieldsB M).length ≤ vsum M + 203 * M.length := by
    intro M
    induction M with
    | nil => intro _; simp [fieldsB, vsum]
    | cons p M ih =>
      intro hm
      have h1 := ih (fun q hq => hm q (List.mem_cons_of_mem _ hq))
      have h2 := hm p List.mem_cons_self
      have h3 : (fieldB p).length ≤ 203 + p.2.length := by
        unfold fieldB
        split
        · simp only [List.length_append, List.length_cons, List.length_nil]; omega
        · simp
      show (fieldB p ++ fieldsB M).length ≤ _
      unfold vsum at h1 ⊢
      simp only [List.length_append, List.map_cons, List.sum_cons, List.length_cons]
      omega
  have h1 := this L h.each
  have h2 := h.sum
  have h3 := h.len
  omega
theorem map_ofS (L : List Fld) : (L.map toS).map ofS = L := by
  rw [List.map_map]
  conv => rhs; rw [← List.map_id L]
  apply List.map_congr_left
  intro p _
  rfl
theorem map_ofR (L : List Fld) : (L.map toR).map ofR = L := by
  rw [List.map_map]
  conv => rhs; rw [← List.map_id L]
  apply List.map_congr_left
  intro p _
  rfl
theorem hjoin {L : List Fld} (h : Few L) (body : Bs) (hb : body.length ≤ 4096) : head_Join.f (L.map toS) (i8 body) = some (i8 (fieldsB L ++ 13 :: 10 :: body)) := by
  have hf := h.fields
  unfold head_Join.f
  rw [map_ofS, if_pos]
  · congr 1
    unfold i8
    simp
  · refine ⟨by rw [List.length_map]; have := h.len; omega, ?_, by omega, by rw [i8_len]; omega⟩
    unfold big
    rw [List.all_eq_true]
    intro x hx
    obtain ⟨p, hp, rfl⟩ := List.mem_map.1 hx
    have := h.each p hp
    simp only [decide_eq_true_eq]
    show (mk p.1).size ≤ 10000000 ∧ (mk p.2).size ≤ 100000000
    rw [size_mk, size_mk]
    omega
theorem rjoin {L : List Fld} (h : Few L) (body : Bs) (hb : body.length ≤ 4096) : mailbagref18_Join.f (L.map toR) (i8 body) = some (i8 (fieldsB L ++ 13 :: 10 :: body)) := by
  have hf := h.fields
  have h1 : mailbagref18_Fields.f (L.map toR) = some (i8 (fieldsB L)) := by
    unfold mailbagref18_Fields.f
    rw [map_ofR, if_pos]
    refine ⟨by rw [List.length_map]; have := h.len; omega, ?_, by omega⟩
    unfold bigR
    rw [List.all_eq_true]
    intro x hx
    obtain ⟨p, hp, rfl⟩ := List.mem_map.1 hx
    have := h.each p hp
    simp only [decide_eq_true_eq]
    show (mk p.1).size ≤ 10000000 ∧ (mk p.2).size ≤ 100000000
    rw [size_mk, size_mk]
    omega
  unfold mailbagref18_Join.f
  rw [h1, Option.bind_some, Option.bind_some, i8_len, if_pos (by simp; omega), Option.bind_some, if_pos (by simp [i8_len]; omega)]
  congr 1
  unfold i8
  simp

/-! ### The law's loops -/
theorem joins_end {L : List Fld} (h : Few L) (body : Bs) (hb : body.length ≤ 4096) (hg : ∀ p ∈ L, good p) (i : Nat) (hi : i = L.length) : Ev (fun k => mailbaglaw18_HeadJoins.l0 k (L.map toS) (i8 body) (i8 (fieldsB L ++ 13 :: 10 :: body)) (i : Int)) true := by
  have hf := h.fields
  have h1 := hsplit_join L body hg (by simp only [List.length_append, List.length_cons]; omega)
  have h2 := of_f L h.len
  have h3 := same_f L (by have := h.len; omega)
  have h4 := rwhole body (by omega)
  refine Ev.step (f := fun k => (mailbaglaw18_of.f k (L.map toS)).bind fun t267 => ((mailbaglaw18_same.f k (L.map toS) t267).bind fun t270 => (if t270 = true then (some ((strOfNums (i8 (wholeB body))).toList == (strOfNums (i8 (wholeB body))).toList)) else (some false)))) (fun k => ?_) ?_
  · simp only [mailbaglaw18_HeadJoins.l0]
    rw [if_neg (by rw [List.length_map]; omega), h1, Option.bind_some, h4]
    rfl
  · refine Ev.bind h2 ?_
    refine Ev.bind h3 ?_
    exact Ev.congr (fun k => (if_pos rfl).trans (by rw [beq_self_eq_true])) (Ev.now true)
theorem joins_l1 (L : List Fld) (l1 b5 : List Int) (i : Nat) (hlt : i < L.length) (hv : L[i].2.length ≤ 4096) (hi : i ≤ 1000)
    (hr : (∀ c ∈ L[i].2, c ≠ 13) → (∀ c ∈ L[i].2, c ≠ 10) → Ev (fun k => mailbaglaw18_HeadJoins.l0 k (L.map toS) l1 b5 ((i + 1 : Nat) : Int)) true) :
    ∀ (d j : Nat), j + d = L[i].2.length → (∀ c ∈ L[i].2.take j, c ≠ 13) → (∀ c ∈ L[i].2.take j, c ≠ 10) → Ev (fun k => mailbaglaw18_HeadJoins.l1 k (L.map toS) l1 b5 (i : Int) (j : Int)) true := by
  have hsz : (toS L[i]).f1 = mk L[i].2 := rfl
  intro d
  induction d with
  | zero =>
    intro j hj h13 h10
    rw [List.take_of_length_le (by omega)] at h13 h10
    refine Ev.step (fun k => ?_) (hr h13 h10)
    simp only [mailbaglaw18_HeadJoins.l1]
    rw [if_pos (by omega), if_pos (by rw [List.length_map]; omega), rdS L i hlt, hsz, if_neg (by rw [size_mk]; omega), w64s _ (by omega)]
  | succ d ih =>
    intro j hj h13 h10
    have hjl : j < L[i].2.length := by omega
    by_cases c13 : L[i].2[j] = 13
    · refine Ev.step (f := fun _ => some true) (fun k => ?_) (Ev.now _)
      simp only [mailbaglaw18_HeadJoins.l1]
      rw [if_pos (by omega), if_pos (by rw [List.length_map]; omega), rdS L i hlt, hsz, if_pos (by rw [size_mk]; omega), if_pos (by omega), bt_mk _ j hjl, c13, if_pos (by rfl)]
    · have n13 : ¬ (L[i].2[j].toNat : Int) = 13 := fun e => c13 (UInt8.toNat_inj.1 (show L[i].2[j].toNat = 13 by omega))
      by_cases c10 : L[i].2[j] = 10
      · refine Ev.step (f := fun _ => some true) (fun k => ?_) (Ev.now _)
        simp only [mailbaglaw18_HeadJoins.l1]
        rw [if_pos (by omega), if_pos (by rw [List.length_map]; omega), rdS L i hlt, hsz, if_pos (by rw [size_mk]; omega), if_pos (by omega), bt_mk _ j hjl, if_neg n13, c10, if_pos (by rfl)]
      · have n10 : ¬ (L[i].2[j].toNat : Int) = 10 := fun e => c10 (UInt8.toNat_inj.1 (show L[i].2[j].toNat = 10 by omega))
        have t13 : ∀ c ∈ L[i].2.take (j + 1), c ≠ 13 := by
          intro c hc
          rw [List.take_succ_eq_append_getElem hjl] at hc
          rcases List.mem_append.1 hc with hc | hc
          · exact h13 c hc
          · rw [List.mem_singleton.1 hc]; exact c13
        have t10 : ∀ c ∈ L[i].2.take (j + 1), c ≠ 10 := by
          intro c hc
          rw [List.take_succ_eq_append_getElem hjl] at hc
          rcases List.mem_append.1 hc with hc | hc
          · exact h10 c hc
          · rw [List.mem_singleton.1 hc]; exact c10
        refine Ev.step (fun k => ?_) (ih (j + 1) (by omega) t13 t10)
        simp only [mailbaglaw18_HeadJoins.l1]
        rw [if_pos (by omega), if_pos (by rw [List.length_map]; omega), rdS L i hlt, hsz, if_pos (by rw [size_mk]; omega), if_pos (by omega), bt_mk _ j hjl, if_neg n13, if_neg n10, w64s _ (by omega)]
theorem joins_l0 {L : List Fld} (h : Few L) (body : Bs) (hb : body.length ≤ 4096) : ∀ (d i : Nat), i + d = L.length → (∀ p ∈ L.take i, good p) → Ev (fun k => mailbaglaw18_HeadJoins.l0 k (L.map toS) (i8 body) (i8 (fieldsB L ++ 13 :: 10 :: body)) (i : Int)) true := by
  intro d
  induction d with
  | zero =>
    intro i hi hg
    rw [List.take_of_length_le (by omega)] at hg
    exact joins_end h body hb hg i (by omega)
  | succ d ih =>
    intro i hi hg
    have hlt : i < L.length := by omega
    have he := h.each L[i] (List.getElem_mem hlt)
    have hlen := h.len
    have hn := rname L[i].1 (by omega)
    cases hnm : nameOk L[i].1 with
    | false =>
      rw [hnm] at hn
      refine Ev.step (f := fun k => (mailbagref18_Name.f k (mk L[i].1)).bind fun t257 => (if t257 = true then (mailbaglaw18_HeadJoins.l1 k (L.map toS) (i8 body) (i8 (fieldsB L ++ 13 :: 10 :: body)) (i : Int) 0) else (some true))) (fun k => ?_) ?_
      · simp only [mailbaglaw18_HeadJoins.l0]
        rw [if_pos (by rw [List.length_map]; omega), if_pos (by omega), rdS L i hlt]
        rfl
      · refine Ev.bind hn ?_
        exact Ev.congr (fun k => if_neg (by simp)) (Ev.now true)
    | true =>
      rw [hnm] at hn
      refine Ev.step (f := fun k => (mailbagref18_Name.f k (mk L[i].1)).bind fun t257 => (if t257 = true then (mailbaglaw18_HeadJoins.l1 k (L.map toS) (i8 body) (i8 (fieldsB L ++ 13 :: 10 :: body)) (i : Int) ((0 : Nat) : Int)) else (some true))) (fun k => ?_) ?_
      · simp only [mailbaglaw18_HeadJoins.l0]
        rw [if_pos (by rw [List.length_map]; omega), if_pos (by omega), rdS L i hlt]
        rfl
      · refine Ev.bind hn ?_
        refine Ev.congr (fun k => if_pos rfl) ?_
        refine joins_l1 L (i8 body) _ i hlt he.2 (by omega) (fun h13 h10 => ?_) L[i].2.length 0 (by omega) (by simp) (by simp)
        refine ih (i + 1) (by omega) ?_
        intro p hp
        rw [List.take_succ_eq_append_getElem hlt] at hp
        rcases List.mem_append.1 hp with hp | hp
        · exact hg p hp
        · rw [List.mem_singleton.1 hp]; exact ⟨hnm, h13, h10⟩
theorem joins_j0t (l0 : List S34) (l1 : List Int) : Ev (fun k => mailbaglaw18_HeadJoins.j0 k l0 l1 true) true := by
  refine Ev.step (f := fun _ => some true) (fun k => ?_) (Ev.now _)
  simp only [mailbaglaw18_HeadJoins.j0]
  rfl
theorem HeadJoins_f (L : List Fld) (body : Bs) (hm : L.length ≤ 9000000000000000000) : Ev (fun k => mailbaglaw18_HeadJoins.f k (L.map toS) (i8 body)) true := by
  unfold mailbaglaw18_HeadJoins.f mailbaglaw18_known.f
  refine Ev.bind (Ev.now true) ?_
  refine Ev.congr (fun k => if_pos rfl) ?_
  refine Ev.bind (few_f L hm) (f := fun k t246 => if t246 = true then mailbaglaw18_HeadJoins.j0 k (L.map toS) (i8 body) (decide (((i8 body).length : Int) > 4096)) else mailbaglaw18_HeadJoins.j0 k (L.map toS) (i8 body) true) ?_
  cases hfew : fewB L with
  | false => exact Ev.congr (fun k => if_neg (by simp)) (joins_j0t _ _)
  | true =>
    refine Ev.congr (fun k => if_pos rfl) ?_
    rw [i8_len]
    by_cases hb : (body.length : Int) > 4096
    · rw [decide_eq_true hb]; exact joins_j0t _ _
    · rw [decide_eq_false hb]
      have h := Few.of hfew
      have hj := hjoin h body (by omega)
      have hrj := rjoin h body (by omega)
      refine Ev.step (f := fun k => (mailbaglaw18_of.f k (L.map toS)).bind fun t250 => ((mailbagref18_Join.f t250 (i8 body)).bind fun t253 => (if (strOfNums (i8 (fieldsB L ++ 13 :: 10 :: body))).toList = (strOfNums t253).toList then (mailbaglaw18_HeadJoins.l0 k (L.map toS) (i8 body) (i8 (fieldsB L ++ 13 :: 10 :: body)) ((0 : Nat) : Int)) else (some false)))) (fun k => ?_) ?_
      · simp only [mailbaglaw18_HeadJoins.j0]
        rw [if_neg (by simp), hj, Option.bind_some]
        rfl
      · refine Ev.bind (of_f L h.len) ?_
        rw [hrj]
        refine Ev.congr (fun k => (Option.bind_some _ _).trans (if_pos rfl)) ?_
        exact joins_l0 h body (by omega) L.length 0 (by omega) (by simp)
end Go.Proofs.YtfpcngoonfbphaaDoor.XH
namespace Go.Proofs.YtfpcngoonfbphaaDoor
open Go.RowKit Go.Proofs.YtfpcngoonfbphaaDoorW.PrintWords Go.Proofs.YtfpcngoonfbphaaDoor.XH
theorem headJoins_walk (A0 : Option Addr) (c0 : Nat) (l0 : List S34) (A1 : Option Addr) (c1 : Nat) (l1 : List Int) (W : World) (hr0 : Kd.C k34 W A0 l0.length l0) (hc0 : l0.length ≤ c0) (hw0 : l0.length ≤ maxLen ∧ ∀ a ∈ l0, a.f0.size ≤ maxLen ∧ a.f1.size ≤ maxLen) (hr : ReadsInt W .u8 A1 l1.length l1) (hc : l1.length ≤ c1) (hw : ∀ x ∈ l1, (Lit.int .u8 x).wf = true) (hsh : W.ShapedOpen Tryd.prog) :
    Calls Tryd.prog 6 #[.slice A0 l0.length c0, .slice A1 l1.length c1] W fun e W' => e = .returned (.bool true) ∧ Below W.heap.size W W' := by
  have e0 : (l0.map ofS).map toS = l0 := by
    rw [List.map_map]
    conv => rhs; rw [← List.map_id l0]
    apply List.map_congr_left
    intro a ha
    exact toS_ofS a
  have hm : l0.length ≤ 9223372036854775807 := hw0.1
  by_cases hb : l0.length ≤ 9000000000000000000
  · obtain ⟨k, hk⟩ := (HeadJoins_f (l0.map ofS) (bsOf l1) (by rw [List.length_map]; exact hb)).rounds
    rw [i8_bsOf (wf_isB hw), e0] at hk
    exact mailbaglaw18_HeadJoins.calls k A0 c0 l0 A1 c1 l1 true W hr0 hc0 (Kd.C_of_reads (d := (0 : Int)) (h1 := fun _ => rfl) hr) hc hsh hk
  · have hk : ∃ k, mailbaglaw18_HeadJoins.f k l0 l1 = some true := by
      have h : Ev (fun k => mailbaglaw18_HeadJoins.f k l0 l1) true := by
        unfold mailbaglaw18_HeadJoins.f mailbaglaw18_known.f
        refine Ev.bind (Ev.now true) ?_
        refine Ev.congr (fun k => if_pos rfl) ?_
        have h1 : Ev (fun k => mailbaglaw18_few.f k l0) false := by
          unfold mailbaglaw18_few.f
          exact Ev.congr (fun k => if_pos (by omega)) (Ev.now false)
        refine Ev.bind h1 (f := fun k t246 => if t246 = true then mailbaglaw18_HeadJoins.j0 k l0 l1 (decide ((l1.length : Int) > 4096)) else mailbaglaw18_HeadJoins.j0 k l0 l1 true) ?_
        exact Ev.congr (fun k => if_neg (by simp)) (joins_j0t _ _)
      exact h.rounds
    obtain ⟨k, hk⟩ := hk
    exact mailbaglaw18_HeadJoins.calls k A0 c0 l0 A1 c1 l1 true W hr0 hc0 (Kd.C_of_reads (d := (0 : Int)) (h1 := fun _ => rfl) hr) hc hsh hk
end Go.Proofs.YtfpcngoonfbphaaDoor

/- What is read as data of a type has cells of that type's kind. -/
set_option linter.unusedVariables false
namespace Go.Proofs.YtfpcngoonfbphaaDoor
open Go.RowKit Go.Proofs.YtfpcngoonfbphaaDoorW.PrintWords

def Opn {α : Type} (P : Program) (t : TypeId) (d : Kd α) (wf : α → Prop) : Prop :=
  ∀ (H : Type) (enc : TypeId × Value → H) (w : World) (held : Bool) (fuel : Nat) (cs : List Value) (x : DataW H × List MemPlace), DataW.trod enc P w 0 (fun _ => true) held fuel t cs = some x → ∃ a : α, d.K w a cs ∧ wf a
theorem Opn.int {P : Program} {t : TypeId} {k : IntKind} (ht : P.underlying t = some (.int k)) : Opn P t (Kd.int k) (fun n => (Lit.int k n).wf = true) := by
  intro H enc w held fuel cs x h
  obtain ⟨n, rfl, _, hw⟩ := DataW.trod_int ht h
  exact ⟨n, rfl, hw⟩
theorem Opn.string {P : Program} {t : TypeId} (ht : P.underlying t = some .string) : Opn P t Kd.string (fun s => s.size ≤ maxLen) := by
  intro H enc w held fuel cs x h
  obtain ⟨s, rfl, _, hw⟩ := DataW.trod_string ht h
  exact ⟨s, rfl, hw⟩
theorem Opn.bool {P : Program} {t : TypeId} (ht : P.underlying t = some .bool) : Opn P t Kd.bool (fun _ => True) := by
  intro H enc w held fuel cs x h
  obtain ⟨b, rfl, _⟩ := DataW.trod_bool ht h
  exact ⟨b, rfl, trivial⟩
theorem Opn.iso {α β : Type} {P : Program} {t : TypeId} {d : Kd α} {wf : α → Prop} (h : Opn P t d wf) (f : β → α) (g : α → β) (hg : ∀ a, f (g a) = a) : Opn P t (Kd.iso d f) (fun b => wf (f b)) := by
  intro H enc w held fuel cs x hx
  obtain ⟨a, hk, hw⟩ := h H enc w held fuel cs x hx
  refine ⟨g a, ?_, ?_⟩
  · show d.K w (f (g a)) cs
    rw [hg]; exact hk
  · show wf (f (g a))
    rw [hg]; exact hw
theorem choose_list {α : Type} (p : Nat → α → Prop) : ∀ (n : Nat), (∀ i, i < n → ∃ a, p i a) → ∃ l : List α, l.length = n ∧ ∀ i (hi : i < l.length), p i l[i] := by
  intro n
  induction n with
  | zero => intro _; exact ⟨[], rfl, fun i hi => by cases hi⟩
  | succ n ih =>
    intro h
    obtain ⟨l, hl, hp⟩ := ih (fun i hi => h i (by omega))
    obtain ⟨a, ha⟩ := h n (by omega)
    refine ⟨l ++ [a], by simp [hl], fun i hi => ?_⟩
    by_cases c : i < l.length
    · rw [List.getElem_append_left c]; exact hp i c
    · have e : i = l.length := by simp at hi; omega
      subst e
      rw [List.getElem_append_right (Nat.le_refl _)]
      simp only [Nat.sub_self, List.getElem_cons_zero]
      rw [hl]; exact ha
theorem Opn.slice {α : Type} {P : Program} {t e : TypeId} {d : Kd α} {wf : α → Prop} (ht : P.underlying t = some (.slice e)) (hs : P.cellsOf e = d.sz) (ho : Opn P e d wf) : Opn P t (Kd.slice e d) (fun l => l.length ≤ maxLen ∧ ∀ a ∈ l, wf a) := by
  intro H enc w held fuel cs x h
  rcases Deep.open_slice ht h with ⟨rfl, _⟩ | ⟨a, len, cap, m, n, D, Pl, rfl, hb, hl, hm, hmm, _, hx⟩
  · exact ⟨[], ⟨none, 0, rfl, Nat.le_refl _, rfl, Nat.zero_le _, fun h => by cases h⟩, Nat.zero_le _, fun a ha => by cases ha⟩
  · simp only [if_true] at hmm
    obtain ⟨l, hll, hp⟩ := choose_list (fun i (b : α) => (∃ c : List Value, c.length = d.sz ∧ d.K w b c ∧ ∀ j u, c[j]? = some u → w.cell? (a.add (i * d.sz + j)) = some u) ∧ wf b) len (fun i hi => by
      obtain ⟨cs', h1, h2⟩ := hx i (by omega)
      obtain ⟨b, hk, hw⟩ := ho H enc w held n cs' _ h2
      refine ⟨b, ⟨cs', d.K_len hk, hk, fun j u hu => ?_⟩, hw⟩
      obtain ⟨_, _, hc⟩ := World.cells?_some h1
      have hj : j < cs'.length := (List.getElem?_eq_some_iff.1 hu).1
      rw [d.K_len hk, ← hs] at hj
      have := hc j hj
      rw [hu, hs] at this
      rw [← this, Addr.add_add])
    refine ⟨l, ⟨some a, cap, by rw [hll], by omega, rfl, ?_, fun _ => ⟨a, rfl, fun j p hj => ?_⟩⟩, by omega, fun b hb => ?_⟩
    · have : maxLen = 9223372036854775807 := rfl
      omega
    · obtain ⟨hjl, hjp⟩ := List.getElem?_eq_some_iff.1 hj
      have := (hp j hjl).1
      rw [hjp] at this
      exact this
    · obtain ⟨i, hi, rfl⟩ := List.mem_iff_getElem.1 hb
      exact (hp i hi).2
/-- Fields, one behind the other. -/
def OpnF {α : Type} (P : Program) (fs : List Field) (off : Nat) (d : Kd α) (wf : α → Prop) : Prop :=
  ∀ (H : Type) (enc : TypeId × Value → H) (w : World) (held : Bool) (fuel : Nat) (cs : List Value), (∀ f ∈ fs, ∃ y, DataW.trod enc P w 0 (fun _ => true) held fuel f.type ((cs.drop f.offset).take (P.cellsOf f.type)) = some y) → ∃ a : α, d.K w a ((cs.drop off).take d.sz) ∧ wf a
theorem OpnF.one {α : Type} {P : Program} {f : Field} {off : Nat} {d : Kd α} {wf : α → Prop} (ho : f.offset = off) (hs : P.cellsOf f.type = d.sz) (h : Opn P f.type d wf) : OpnF P [f] off d wf := by
  intro H enc w held fuel cs hx
  obtain ⟨y, hy⟩ := hx f List.mem_cons_self
  rw [ho, hs] at hy
  exact h H enc w held fuel _ y hy
theorem OpnF.cons {α β : Type} {P : Program} {f : Field} {fs : List Field} {off : Nat} {d : Kd α} {d' : Kd β} {wf : α → Prop} {wf' : β → Prop} (ho : f.offset = off) (hs : P.cellsOf f.type = d.sz) (h : Opn P f.type d wf) (hr : OpnF P fs (off + d.sz) d' wf') :
    OpnF P (f :: fs) off (Kd.pair d d') (fun x => wf x.1 ∧ wf' x.2) := by
  intro H enc w held fuel cs hx
  obtain ⟨y, hy⟩ := hx f List.mem_cons_self
  rw [ho, hs] at hy
  obtain ⟨a, ha, hwa⟩ := h H enc w held fuel _ y hy
  obtain ⟨b, hb, hwb⟩ := hr H enc w held fuel cs (fun g hg => hx g (List.mem_cons_of_mem _ hg))
  refine ⟨(a, b), ⟨_, _, ?_, ha, hb⟩, hwa, hwb⟩
  show (cs.drop off).take (d.sz + d'.sz) = _
  rw [List.take_add, List.drop_drop]
theorem Opn.struct {α : Type} {P : Program} {t : TypeId} {fs : Array Field} {d : Kd α} {wf : α → Prop} (ht : P.underlying t = some (.struct fs)) (hs : P.cellsOf t = d.sz) (h : OpnF P fs.toList 0 d wf) : Opn P t d wf := by
  intro H enc w held fuel cs x hx
  obtain ⟨xs, n, _, _, hl, hxl, hm⟩ := DataW.trod_struct ht hx
  obtain ⟨a, ha, hw⟩ := h H enc w held n cs (fun f hf => by
    obtain ⟨i, hi, rfl⟩ := List.mem_iff_getElem.1 hf
    have hi' : i < fs.size := by simpa using hi
    have h1 := hm i fs[i] (by rw [Array.getElem?_eq_getElem hi'])
    refine ⟨xs[i]'(by omega), ?_⟩
    rw [Array.getElem_toList, h1, List.getElem?_eq_getElem (by omega)])
  rw [List.drop_zero, ← hs, ← hl, List.take_length] at ha
  exact ⟨a, ha, hw⟩
end Go.Proofs.YtfpcngoonfbphaaDoor

/- For every input the call of mailbaglaw18.HeadJoins returns true: the row, and the tied card. -/
set_option linter.unusedVariables false
set_option linter.unusedSimpArgs false
namespace Go.Proofs.YtfpcngoonfbphaaDoor.headJoins
open Go.ChangeShapes Go.WideShapes Go.ChangeAt Go.RowKit Go.Proofs.YtfpcngoonfbphaaDoor Go.Proofs.YtfpcngoonfbphaaDoorW.PrintWords
open Go.ChangeMaps (open_string shut_string)
open Go.Proofs.YtfpcngoonfbphaaDoor.XH

theorem own : ownKnob Tryd.prog.godebug = none := by kernel_rfl
theorem laidOut : laidOutB Tryd.prog = true := by kernel_rfl
def IsRow (k : IntKind) (w : World) (a : Option Addr) (len cap : Nat) (zs : List Int) : Prop :=
  (a = none ∧ len = 0 ∧ cap = 0 ∧ zs = []) ∨
  ∃ x, a = some x ∧ len ≤ cap ∧ cap ≤ maxLen ∧ zs.length = cap ∧ (∀ i, i < zs.length → w.cell? (x.add i) = some (.int k (zs.getD i 0))) ∧ ∀ n ∈ zs, (Lit.int k n).wf = true
set_option maxRecDepth 100000 in
theorem lifted (os : Os) (started : os.Started) (H : Type) (enc : TypeId × Value → H) :
    ReturnsInHanded {} Tryd.checked os 6 .any (fun w args => (Rows.headJoinsSpec.pre enc Tryd.prog Tryd.f6 [] false w args ∧ laidMetH Tryd.prog Rows.headJoinsRow.laid w) ∧ sizedMet enc Tryd.prog Tryd.f6 (OpenSpec.ofChange Rows.headJoinsSpec) false w args)
      (Rows.headJoinsSpec.post enc Tryd.prog Tryd.f6 false true false false) := by
  refine wrapLaidShaped (C := Tryd.checked) (X := fun w _ => laidMetH Tryd.prog Rows.headJoinsRow.laid w) (fun _ _ _ hh h => h.of_heap hh) own started (by kernel_rfl) Tryd.func6
    (ChangeSpec.witness_at (enc := enc) (C := Tryd.checked) (os := os) (X := fun w _ => laidMetH Tryd.prog Rows.headJoinsRow.laid w) false (World.laidAll Tryd.prog os Rows.headJoinsRow.laid) #[.slice none 0 0, .slice none 0 0] 8 (World.laidAll_os _ _ _) (by kernel_rfl) (by kernel_rfl) (by kernel_rfl) (by kernel_rfl) (by kernel_rfl)
      (by rw [MakeChecks.laidMetH_plain _ _ _ (by kernel_rfl)]; exact laidMet_laidAll _ (by kernel_rfl) (by kernel_rfl))) ?_
  intro W base args ds gs before hval0 hW hsh
  have hval : ∀ (j : Nat) t v, Tryd.f6.params[j]? = some t → args[j]? = some v → Value.okWide Tryd.prog W .any base t v := hval0
  have hW' := hW
  obtain ⟨p, q, hA0, hV, rfl, hfz, hnd⟩ := hW
  have hA : DataW.TrodAll enc Tryd.prog W 0 (fun _ => true) true Tryd.f6.params.toList args.toList ds p := hA0
  rw [Tryd.params6] at hA hval
  obtain ⟨v0, vs0, d0, ds0, p0, q0, hargs, rfl, rfl, h0, r0⟩ := trodAll_cons hA
  obtain ⟨v1, vs1, d1, ds1, p1, q1, rfl, rfl, rfl, h1, r1⟩ := trodAll_cons r0
  obtain ⟨rfl, rfl, rfl⟩ := trodAll_nil r1
  obtain rfl : args = #[v0, v1] := by cases args; simp_all
  obtain ⟨rfl, rfl⟩ := trodVars_none hV
  obtain ⟨a0, len0, cap0, rfl⟩ := okWide_slice Tryd.underlying28 (hval 0 28 v0 rfl rfl)
  have kk0 := h0
  have lt0 : ∀ x ∈ p0, x.block < W.heap.size := by obtain ⟨m, hm⟩ := kk0; exact DataW.trod_lt m _ _ _ hm
  obtain ⟨fuel0, hf0⟩ := h0
  obtain ⟨l0, ⟨A0, c0, e0, hc0, hr0⟩, hw0⟩ := (Opn.slice Tryd.underlying28 (by kernel_rfl) (Opn.iso (β := S34) (Opn.struct Tryd.underlying34 (by kernel_rfl) (OpnF.cons rfl (by kernel_rfl) (Opn.string Tryd.underlying9) (OpnF.one rfl (by kernel_rfl) (Opn.string Tryd.underlying9)))) (fun x : S34 => (x.f0, x.f1)) (fun p => ⟨p.1, p.2⟩) (fun _ => rfl))) _ _ _ _ _ _ _ hf0
  obtain ⟨rfl, rfl, rfl⟩ : a0 = A0 ∧ len0 = l0.length ∧ cap0 = c0 := by simpa [Value.cells] using e0
  obtain ⟨a1, len1, cap1, rfl⟩ := okWide_slice Tryd.underlying26 (hval 1 26 v1 rfl rfl)
  have k1 := h1
  have lt1 : ∀ x ∈ p1, x.block < W.heap.size := by obtain ⟨m, hm⟩ := k1; exact DataW.trod_lt m _ _ _ hm
  obtain ⟨z1, w1⟩ : ∃ zs, IsRow .u8 W a1 len1 cap1 zs := by
    obtain ⟨fuel, hf⟩ := h1
    rcases open_ints Tryd.underlying26 Tryd.underlying5 (by kernel_rfl) hf with ⟨hcs, _⟩ | ⟨x, l, c, zs, hcs, _, hl, hm, hz, _, hcell, hwz⟩
    · simp [Value.cells] at hcs
      obtain ⟨rfl, rfl, rfl⟩ := hcs
      exact ⟨[], .inl ⟨rfl, rfl, rfl, rfl⟩⟩
    · simp [Value.cells] at hcs
      obtain ⟨rfl, rfl, rfl⟩ := hcs
      exact ⟨zs, .inr ⟨_, rfl, hl, hm, by simpa using hz, hcell, hwz⟩⟩
  obtain ⟨l1, rfl, hr1, hm1, hw1, hc1⟩ := ReadsInt.ofRowC w1
  clear hA0 hval0
  simp only [List.append_nil] at hW'
  refine (headJoins_walk a0 cap0 l0 a1 cap1 l1 W hr0 hc0 hw0 hr1 hc1 hw1 hsh).mono fun e W' ⟨he, bel⟩ => ?_
  subst he
  exact ⟨_, rfl, _, _, _, [], _, [], hW', trodAll_mk1 (shut_bool Tryd.underlying4 _), (trodAll_cons_mk (Below.trod laidOut (by kernel_rfl) (of_decide_eq_true (by kernel_rfl)) kk0 bel lt0) (trodAll_cons_mk (Below.trod laidOut (by kernel_rfl) (of_decide_eq_true (by kernel_rfl)) k1 bel lt1) trodAll_mk0)), rfl, bel.frame _, fun h => by cases h⟩

theorem over : Rows.HeadJoinsSaid :=
  OpenClaim.holds_of_wide 6 Tryd.f6 rfl rfl rfl rfl rfl rfl rfl ⟨rfl, rfl, rfl, rfl, rfl⟩ rfl rfl rfl rfl rfl (by kernel_rfl) Tryd.func6 (by kernel_rfl)
    (of_decide_eq_true (by kernel_rfl)) (by unfold Func.isWrapper; first | (rw [if_pos (by decide +kernel)]; kernel_rfl) | (rw [if_neg (by decide +kernel)]; exact ⟨rfl, rfl⟩))
    (fun os started H enc _ => lifted os started H enc)
theorem card_holds : Rows.HeadJoinsCardSaid :=
  Claim7.holds_tied_plain_at .later [] [.data, .data, .data] true (true, "53321d94958a09d6170073ef5c025a8fb87484b0e5c84b1449e03d45018f4388") true
    over (fun _ h => by cases h) (by kernel_rfl) (fun _ h => by cases h) headJoins_row_tie rfl ⟨rfl, rfl⟩ (by kernel_rfl) rfl
    (fun f fn hf hfn => by
      obtain rfl : f = 6 := Option.some.inj ((show Tryd.prog.funcNamed "mailbag/mailbaglaw18.HeadJoins" = some 6 by kernel_rfl).symm.trans hf) |>.symm
      obtain rfl : fn = Tryd.f6 := (Option.some.inj (Tryd.func6.symm.trans hfn)).symm
      exact ⟨by kernel_rfl, fun j t ht => by
        rw [Tryd.params6] at ht
        have hm : t ∈ [28, 26] := by simpa using Array.mem_of_getElem? ht
        have hall : ([28, 26].all fun u => !Tryd.prog.wantsStandIn u) = true := by kernel_rfl
        exact (show Tryd.prog.wantsStandIn t = false by simpa using List.all_eq_true.1 hall t hm)⟩)
    (by kernel_rfl)
end Go.Proofs.YtfpcngoonfbphaaDoor.headJoins
namespace Go.Proofs.YtfpcngoonfbphaaDoor
/-- THE STATEMENT. -/
theorem headJoins_holds : Rows.HeadJoinsCardSaid := headJoins.card_holds
end Go.Proofs.YtfpcngoonfbphaaDoor
#print axioms Go.Proofs.YtfpcngoonfbphaaDoor.headJoins_holds
