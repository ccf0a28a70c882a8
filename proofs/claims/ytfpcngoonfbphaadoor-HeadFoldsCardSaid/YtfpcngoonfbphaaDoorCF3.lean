/- For every input the statement of YtfpcngoonfbphaaDoorRF holds: XHx3, WF, OP, RF. -/
import Derived.Test.YtfpcngoonfbphaaDoorCF1
import Derived.Test.YtfpcngoonfbphaaDoorCF2
import Derived.Test.YtfpcngoonfbphaaDoorProg
import Derived.Test.YtfpcngoonfbphaaDoorWWords
import Derived.Deep.Slices
import Derived.ChangeArms
import Derived.DataElems
import Derived.Test.YtfpcngoonfbphaaDoorCards
import Derived.Test.YtfpcngoonfbphaaDoorTie
import Derived.SevenTiedAt
import Derived.WalkKit
import Derived.ProofKit
import Derived.OpenShut
import Derived.ShutString
import Derived.ChangeOld
import Derived.Below
/- Contracts of Go functions: for each function a Lean function with its answers, and the proof that the Go code comes to these. Written by wip/px.py of this session, upon the kit's printer. -/
namespace Go.Proofs.YtfpcngoonfbphaaDoor.XH
open Go.RowKit Go.Proofs.YtfpcngoonfbphaaDoorW.PrintWords Go.Proofs.YtfpcngoonfbphaaDoorW.PrintLast Go.Proofs.YtfpcngoonfbphaaDoorW.PrintMore
attribute [local go_sem] max2_int min2_int max_two min_two max_three min_three max_four min_four   -- for this text's walks alone
set_option linter.unusedVariables false
set_option linter.unusedSimpArgs false

/-! ### mailbaglaw18_HeadFolds: function 4 -/
mutual
def mailbaglaw18_HeadFolds.j0 : Nat → List (List Int) → List Int → Int → Bool → Option (Bool)
  | 0, _, _, _, _ => none
  | k + 1, x0, x1, x2, x41 => if x41 = true then (some true) else (mailbaglaw18_HeadFolds.l0 k x0 x1 x2 (⟨#[]⟩ : ByteArray) 0)
def mailbaglaw18_HeadFolds.l0 : Nat → List (List Int) → List Int → Int → ByteArray → Int → Option (Bool)
  | 0, _, _, _, _, _ => none
  | k + 1, x0, x1, x2, x7, x8 => if x8 < (x1.length : Int) then (if 0 ≤ x8 then ((some (([(97 + (Int.tmod (rd x1 x8) 26)) % 256] : List Int) : List Int)).bind fun y107 => (if x7.size + (strOfNums y107).size ≤ 9223372036854775807 then (mailbaglaw18_HeadFolds.l0 k x0 x1 x2 (x7 ++ (strOfNums y107)) (wrap64 (x8 + 1))) else (none))) else (none)) else (mailbaglaw18_HeadFolds.l1 k x0 x2 x7 (⟨#[32, 102, 105, 114, 115, 116]⟩ : ByteArray) 0)
def mailbaglaw18_HeadFolds.l1 : Nat → List (List Int) → Int → ByteArray → ByteArray → Int → Option (Bool)
  | 0, _, _, _, _, _ => none
  | k + 1, x0, x2, x7, x9, x10 => if x10 < (x0.length : Int) then (if 0 ≤ x10 then (if ((rd_L3 x0 x10).length : Int) > 100 then (some true) else (mailbaglaw18_HeadFolds.l2 k x0 x2 x7 x9 x10 (⟨#[9]⟩ : ByteArray) 0)) else (none)) else (if x7.size + 1 ≤ 9223372036854775807 then (if (x7 ++ (⟨#[58]⟩ : ByteArray)).size + x9.size ≤ 9223372036854775807 then (if ((x7 ++ (⟨#[58]⟩ : ByteArray)) ++ x9).size + 2 ≤ 9223372036854775807 then (mailbaglaw18_HeadFolds.l3 k x2 x7 x9 (((x7 ++ (⟨#[58]⟩ : ByteArray)) ++ x9) ++ (⟨#[13, 10]⟩ : ByteArray)) 0) else (none)) else (none)) else (none))
def mailbaglaw18_HeadFolds.l2 : Nat → List (List Int) → Int → ByteArray → ByteArray → Int → ByteArray → Int → Option (Bool)
  | 0, _, _, _, _, _, _, _ => none
  | k + 1, x0, x2, x7, x9, x10, x11, x12 => if 0 ≤ x10 then (if x10 < (x0.length : Int) then (if x12 < ((rd_L3 x0 x10).length : Int) then (if 0 ≤ x12 then ((some (([(32 + (Int.tmod (rd (rd_L3 x0 x10) x12) 95)) % 256] : List Int) : List Int)).bind fun y114 => (if x11.size + (strOfNums y114).size ≤ 9223372036854775807 then (mailbaglaw18_HeadFolds.l2 k x0 x2 x7 x9 x10 (x11 ++ (strOfNums y114)) (wrap64 (x12 + 1))) else (none))) else (none)) else (if x9.size + 2 ≤ 9223372036854775807 then (if (x9 ++ (⟨#[13, 10]⟩ : ByteArray)).size + x11.size ≤ 9223372036854775807 then (mailbaglaw18_HeadFolds.l1 k x0 x2 x7 ((x9 ++ (⟨#[13, 10]⟩ : ByteArray)) ++ x11) (wrap64 (x10 + 1))) else (none)) else (none))) else (none)) else (none)
def mailbaglaw18_HeadFolds.l3 : Nat → Int → ByteArray → ByteArray → ByteArray → Int → Option (Bool)
  | 0, _, _, _, _, _ => none
  | k + 1, x2, x7, x9, x13, x14 => if x14 < x2 then ((mailbaglaw18_upper.f x7).bind fun t117 => (if x13.size + t117.size ≤ 9223372036854775807 then (if (x13 ++ t117).size + 9 ≤ 9223372036854775807 then (mailbaglaw18_HeadFolds.l3 k x2 x7 x9 ((x13 ++ t117) ++ (⟨#[58, 32, 97, 103, 97, 105, 110, 13, 10]⟩ : ByteArray)) (wrap64 (x14 + 1))) else (none)) else (none))) else (if x13.size + 6 ≤ 9223372036854775807 then (if (x13 ++ (⟨#[13, 10, 98, 111, 100, 121]⟩ : ByteArray)).size ≤ 9223372036854775807 then ((head_Split.f (bytesOf (x13 ++ (⟨#[13, 10, 98, 111, 100, 121]⟩ : ByteArray)))).bind fun bt121 => ((mailbaglaw18_upper.f x7).bind fun t127 => ((head_Get.f k bt121.1 t127).bind fun bt128 => (if (bt121.1.length : Int) = (wrap64 (1 + x2)) then (if 0 < (bt121.1.length : Int) then (if ((rd_T34 bt121.1 0).f1).toList = x9.toList then (if bt128.1.toList = x9.toList then (if bt128.2 = (wrap64 (1 + x2)) then (some ((strOfNums bt121.2).toList == ([98, 111, 100, 121, 13, 10] : List UInt8))) else (some false)) else (some false)) else (some false)) else (none)) else (some false))))) else (none)) else (none))
end
def mailbaglaw18_HeadFolds.f (k : Nat) (l0 : List (List Int)) (l1 : List Int) (a2 : Int) : Option (Bool) := (mailbaglaw18_known.f).bind fun t105 => (if t105 = true then (if (l0.length : Int) > 20 then (mailbaglaw18_HeadFolds.j0 k l0 l1 a2 true) else (if (l1.length : Int) = 0 then (mailbaglaw18_HeadFolds.j0 k l0 l1 a2 true) else (if (l1.length : Int) > 40 then (mailbaglaw18_HeadFolds.j0 k l0 l1 a2 true) else (if a2 < 0 then (mailbaglaw18_HeadFolds.j0 k l0 l1 a2 true) else (mailbaglaw18_HeadFolds.j0 k l0 l1 a2 (decide (a2 > 20))))))) else (some false))
theorem mailbaglaw18_HeadFolds.mono_l : ∀ k, (∀ y0 y1 y2 y3, LeO (mailbaglaw18_HeadFolds.j0 k y0 y1 y2 y3) (mailbaglaw18_HeadFolds.j0 (k + 1) y0 y1 y2 y3)) ∧ (∀ y0 y1 y2 y3 y4, LeO (mailbaglaw18_HeadFolds.l0 k y0 y1 y2 y3 y4) (mailbaglaw18_HeadFolds.l0 (k + 1) y0 y1 y2 y3 y4)) ∧ (∀ y0 y1 y2 y3 y4, LeO (mailbaglaw18_HeadFolds.l1 k y0 y1 y2 y3 y4) (mailbaglaw18_HeadFolds.l1 (k + 1) y0 y1 y2 y3 y4)) ∧ (∀ y0 y1 y2 y3 y4 y5 y6, LeO (mailbaglaw18_HeadFolds.l2 k y0 y1 y2 y3 y4 y5 y6) (mailbaglaw18_HeadFolds.l2 (k + 1) y0 y1 y2 y3 y4 y5 y6)) ∧ (∀ y0 y1 y2 y3 y4, LeO (mailbaglaw18_HeadFolds.l3 k y0 y1 y2 y3 y4) (mailbaglaw18_HeadFolds.l3 (k + 1) y0 y1 y2 y3 y4))
  | 0 => ⟨fun _ _ _ _ r h => by simp [mailbaglaw18_HeadFolds.j0] at h, fun _ _ _ _ _ r h => by simp [mailbaglaw18_HeadFolds.l0] at h, fun _ _ _ _ _ r h => by simp [mailbaglaw18_HeadFolds.l1] at h, fun _ _ _ _ _ _ _ r h => by simp [mailbaglaw18_HeadFolds.l2] at h, fun _ _ _ _ _ r h => by simp [mailbaglaw18_HeadFolds.l3] at h⟩
  | k + 1 => by
    obtain ⟨ih0, ih1, ih2, ih3, ih4⟩ := mailbaglaw18_HeadFolds.mono_l k
    refine ⟨?_, ?_, ?_, ?_, ?_⟩
    · intro y0 y1 y2 y3
      unfold mailbaglaw18_HeadFolds.j0
      repeat' first
      | (with_reducible exact ih0 _ _ _ _)
      | (with_reducible exact ih1 _ _ _ _ _)
      | (with_reducible exact ih2 _ _ _ _ _)
      | (with_reducible exact ih3 _ _ _ _ _ _ _)
      | (with_reducible exact ih4 _ _ _ _ _)
      | (with_reducible exact head_Get.mono _ _ _)
      | (with_reducible exact LeO.refl _)
      | (with_reducible exact LeO.none _)
      | (with_reducible refine LeO.ite ?_ ?_)
      | (with_reducible refine LeO.bind ?_ (fun _ => ?_))
      | exact ih0 _ _ _ _
      | exact ih1 _ _ _ _ _
      | exact ih2 _ _ _ _ _
      | exact ih3 _ _ _ _ _ _ _
      | exact ih4 _ _ _ _ _
      | exact head_Get.mono _ _ _
      | exact LeO.none _
      | refine LeO.ite ?_ ?_
      | refine LeO.bind ?_ (fun _ => ?_)
    · intro y0 y1 y2 y3 y4
      unfold mailbaglaw18_HeadFolds.l0
      repeat' first
      | (with_reducible exact ih0 _ _ _ _)
      | (with_reducible exact ih1 _ _ _ _ _)
      | (with_reducible exact ih2 _ _ _ _ _)
      | (with_reducible exact ih3 _ _ _ _ _ _ _)
      | (with_reducible exact ih4 _ _ _ _ _)
      | (with_reducible exact head_Get.mono _ _ _)
      | (with_reducible exact LeO.refl _)
      | (with_reducible exact LeO.none _)
      | (with_reducible refine LeO.ite ?_ ?_)
      | (with_reducible refine LeO.bind ?_ (fun _ => ?_))
      | exact ih0 _ _ _ _
      | exact ih1 _ _ _ _ _
      | exact ih2 _ _ _ _ _
      | exact ih3 _ _ _ _ _ _ _
      | exact ih4 _ _ _ _ _
      | exact head_Get.mono _ _ _
      | exact LeO.none _
      | refine LeO.ite ?_ ?_
      | refine LeO.bind ?_ (fun _ => ?_)
    · intro y0 y1 y2 y3 y4
      unfold mailbaglaw18_HeadFolds.l1
      repeat' first
      | (with_reducible exact ih0 _ _ _ _)
      | (with_reducible exact ih1 _ _ _ _ _)
      | (with_reducible exact ih2 _ _ _ _ _)
      | (with_reducible exact ih3 _ _ _ _ _ _ _)
      | (with_reducible exact ih4 _ _ _ _ _)
      | (with_reducible exact head_Get.mono _ _ _)
      | (with_reducible exact LeO.refl _)
      | (with_reducible exact LeO.none _)
      | (with_reducible refine LeO.ite ?_ ?_)
      | (with_reducible refine LeO.bind ?_ (fun _ => ?_))
      | exact ih0 _ _ _ _
      | exact ih1 _ _ _ _ _
      | exact ih2 _ _ _ _ _
      | exact ih3 _ _ _ _ _ _ _
      | exact ih4 _ _ _ _ _
      | exact head_Get.mono _ _ _
      | exact LeO.none _
      | refine LeO.ite ?_ ?_
      | refine LeO.bind ?_ (fun _ => ?_)
    · intro y0 y1 y2 y3 y4 y5 y6
      unfold mailbaglaw18_HeadFolds.l2
      repeat' first
      | (with_reducible exact ih0 _ _ _ _)
      | (with_reducible exact ih1 _ _ _ _ _)
      | (with_reducible exact ih2 _ _ _ _ _)
      | (with_reducible exact ih3 _ _ _ _ _ _ _)
      | (with_reducible exact ih4 _ _ _ _ _)
      | (with_reducible exact head_Get.mono _ _ _)
      | (with_reducible exact LeO.refl _)
      | (with_reducible exact LeO.none _)
      | (with_reducible refine LeO.ite ?_ ?_)
      | (with_reducible refine LeO.bind ?_ (fun _ => ?_))
      | exact ih0 _ _ _ _
      | exact ih1 _ _ _ _ _
      | exact ih2 _ _ _ _ _
      | exact ih3 _ _ _ _ _ _ _
      | exact ih4 _ _ _ _ _
      | exact head_Get.mono _ _ _
      | exact LeO.none _
      | refine LeO.ite ?_ ?_
      | refine LeO.bind ?_ (fun _ => ?_)
    · intro y0 y1 y2 y3 y4
      unfold mailbaglaw18_HeadFolds.l3
      repeat' first
      | (with_reducible exact ih0 _ _ _ _)
      | (with_reducible exact ih1 _ _ _ _ _)
      | (with_reducible exact ih2 _ _ _ _ _)
      | (with_reducible exact ih3 _ _ _ _ _ _ _)
      | (with_reducible exact ih4 _ _ _ _ _)
      | (with_reducible exact head_Get.mono _ _ _)
      | (with_reducible exact LeO.refl _)
      | (with_reducible exact LeO.none _)
      | (with_reducible refine LeO.ite ?_ ?_)
      | (with_reducible refine LeO.bind ?_ (fun _ => ?_))
      | exact ih0 _ _ _ _
      | exact ih1 _ _ _ _ _
      | exact ih2 _ _ _ _ _
      | exact ih3 _ _ _ _ _ _ _
      | exact ih4 _ _ _ _ _
      | exact head_Get.mono _ _ _
      | exact LeO.none _
      | refine LeO.ite ?_ ?_
      | refine LeO.bind ?_ (fun _ => ?_)
theorem mailbaglaw18_HeadFolds.mono : ∀ a0 a1 a2 k, LeO (mailbaglaw18_HeadFolds.f k a0 a1 a2) (mailbaglaw18_HeadFolds.f (k + 1) a0 a1 a2) := by
  intro a0 a1 a2 k
  obtain ⟨ih0, ih1, ih2, ih3, ih4⟩ := mailbaglaw18_HeadFolds.mono_l k
  unfold mailbaglaw18_HeadFolds.f
  repeat' first
      | (with_reducible exact ih0 _ _ _ _)
      | (with_reducible exact ih1 _ _ _ _ _)
      | (with_reducible exact ih2 _ _ _ _ _)
      | (with_reducible exact ih3 _ _ _ _ _ _ _)
      | (with_reducible exact ih4 _ _ _ _ _)
      | (with_reducible exact head_Get.mono _ _ _)
      | (with_reducible exact LeO.refl _)
      | (with_reducible exact LeO.none _)
      | (with_reducible refine LeO.ite ?_ ?_)
      | (with_reducible refine LeO.bind ?_ (fun _ => ?_))
      | exact ih0 _ _ _ _
      | exact ih1 _ _ _ _ _
      | exact ih2 _ _ _ _ _
      | exact ih3 _ _ _ _ _ _ _
      | exact ih4 _ _ _ _ _
      | exact head_Get.mono _ _ _
      | exact LeO.none _
      | refine LeO.ite ?_ ?_
      | refine LeO.bind ?_ (fun _ => ?_)
set_option maxHeartbeats 8000000 in
set_option maxRecDepth 100000 in
theorem mailbaglaw18_HeadFolds.calls (k : Nat) (A0 : Option Addr) (c0 : Nat) (l0 : List (List Int)) (A1 : Option Addr) (c1 : Nat) (l1 : List Int) (a2 : Int) (r : Bool) (w : World) (hr0 : Kd.C (Kd.slice 5 (Kd.int .u8)) w A0 l0.length l0) (hc0 : l0.length ≤ c0) (hr1 : Kd.C (Kd.int .u8) w A1 l1.length l1) (hc1 : l1.length ≤ c1) (hsh : w.ShapedOpen Tryd.prog) (h : mailbaglaw18_HeadFolds.f k l0 l1 a2 = some r) :
    Calls Tryd.prog 4 #[.slice A0 l0.length c0, .slice A1 l1.length c1, .int .i64 a2] w fun e w' => e = .returned (.bool r) ∧ Below w.heap.size w w' := by
  have HR0 := Aside0.mk hr0
  have HC0 := Aside0.mk hc0
  clear hr0 hc0
  have HR1 := Aside0.mk hr1
  have HC1 := Aside0.mk hc1
  clear hr1 hc1
  have HB := Aside0.mk (Below.refl w.heap.size w)
  have HSH := Aside0.mk hsh
  clear hsh
  have H : ((mailbaglaw18_known.f).bind fun t105 => (if t105 = true then (if (l0.length : Int) > 20 then (mailbaglaw18_HeadFolds.j0 k l0 l1 a2 true) else (if (l1.length : Int) = 0 then (mailbaglaw18_HeadFolds.j0 k l0 l1 a2 true) else (if (l1.length : Int) > 40 then (mailbaglaw18_HeadFolds.j0 k l0 l1 a2 true) else (if a2 < 0 then (mailbaglaw18_HeadFolds.j0 k l0 l1 a2 true) else (mailbaglaw18_HeadFolds.j0 k l0 l1 a2 (decide (a2 > 20))))))) else (some false))) = some r := h
  clear h
  replace H := Option.bind_eq_some_iff.mp H
  obtain ⟨t105, A40, H⟩ := H
  replace H : (if t105 = true then (if (l0.length : Int) > 20 then (mailbaglaw18_HeadFolds.j0 k l0 l1 a2 true) else (if (l1.length : Int) = 0 then (mailbaglaw18_HeadFolds.j0 k l0 l1 a2 true) else (if (l1.length : Int) > 40 then (mailbaglaw18_HeadFolds.j0 k l0 l1 a2 true) else (if a2 < 0 then (mailbaglaw18_HeadFolds.j0 k l0 l1 a2 true) else (mailbaglaw18_HeadFolds.j0 k l0 l1 a2 (decide (a2 > 20))))))) else (some false)) = some r := H
  have A4 := Aside0.mk A40
  clear A40
  by_cases c5 : t105 = true
  · subst c5
    have H1 : (if (l0.length : Int) > 20 then (mailbaglaw18_HeadFolds.j0 k l0 l1 a2 true) else (if (l1.length : Int) = 0 then (mailbaglaw18_HeadFolds.j0 k l0 l1 a2 true) else (if (l1.length : Int) > 40 then (mailbaglaw18_HeadFolds.j0 k l0 l1 a2 true) else (if a2 < 0 then (mailbaglaw18_HeadFolds.j0 k l0 l1 a2 true) else (mailbaglaw18_HeadFolds.j0 k l0 l1 a2 (decide (a2 > 20))))))) = some r := by rw [if_pos rfl] at H; exact H
    clear H
    have H := H1
    clear H1
    have HC6 := Aside0.mk H
    clear H
    go_enter Tryd.func4, Tryd.ntmps4
    go_upto_region 3 with (first | ((with_reducible refine gate_callee (f := 9) rfl ?_); refine goesL_ (some 19) rfl rfl Tryd.func9 (by kernel_rfl) rfl #[] rfl (by (try simp only [List.map_toArray, List.map_cons, List.map_nil]); first | done | rfl | (simp only [List.length_drop, List.length_take]; rfl)) ?_; (with_reducible refine (mailbaglaw18_known.calls  true _ ?side1 A4.out).mono ?_); (case side1 => exact shaped_below HSH.out (by repeat (first | (with_reducible first | exact HB.out | apply below_alloc | apply pw_below_drewN | apply below_drew1) | exact HB.out)) (Nat.le_refl _)); rintro e w7 ⟨rfl, hb⟩; refine ⟨_, rfl, ?_⟩; have n0_ := Aside0.mk (below_step (by repeat (first | (with_reducible first | exact HB.out | apply below_alloc | apply pw_below_drewN | apply below_drew1) | exact HB.out)) hb); clear HB; have HB := n0_; clear n0_; (try clear hb); (try clear hb2); (try clear hk); (try clear hi)))
    (try simp only [Act.put, List.setIfInBounds_toArray, List.set_cons_zero, List.set_cons_succ])
    go_cut [41] (fun v41 wc => ∃ (kq : Nat) (x41_5 : Bool), v41 = .bool x41_5 ∧ Aside0 (mailbaglaw18_HeadFolds.j0 kq l0 l1 a2 x41_5 = some r) ∧ Aside0 (kq ≤ k) ∧ Aside0 (Below w.heap.size w wc))
    case first =>
      have H := HC6.out
      clear HC6
      by_cases c8 : (l0.length : Int) > 20
      · rw [if_pos c8] at H
        have c8b0 : decide (20 < (l0.length : Int)) = true := decide_eq_true c8
        have c8b1 : decide (20 < l0.length) = true := decide_eq_true (by omega)
        clear c8
        (first | rw [c8b0] | (simp only [i64_w, i32_w]; rw [c8b0]) | skip)
        have H' := Aside0.mk H
        clear H
        go_wp2
        go_meet
        case rel => exact ⟨_, (true), (by first | rfl | (simp; done) | (simp [*]; done)), H', ⟨by first | omega | exact Nat.le_refl _⟩, ⟨by repeat (first | (with_reducible first | exact HB.out | apply below_alloc | apply pw_below_drewN | apply below_drew1) | exact HB.out)⟩⟩
      · rw [if_neg c8] at H
        have c8b0 : decide (20 < (l0.length : Int)) = false := decide_eq_false c8
        have c8b1 : decide (20 < l0.length) = false := decide_eq_false (by omega)
        clear c8
        (first | rw [c8b0] | (simp only [i64_w, i32_w]; rw [c8b0]) | skip)
        by_cases c9 : (l1.length : Int) = 0
        · rw [if_pos c9] at H
          have c9b0 : ((l1.length : Int) == 0) = true := beq_iff_eq.mpr c9
          have c9b1 : ((l1.length : Int) != 0) = false := bne_eq_false_iff_eq.mpr c9
          clear c9
          have H' := Aside0.mk H
          clear H
          go_wp2
          go_meet
          case rel => exact ⟨_, (true), (by first | rfl | (simp; done) | (simp [*]; done)), H', ⟨by first | omega | exact Nat.le_refl _⟩, ⟨by repeat (first | (with_reducible first | exact HB.out | apply below_alloc | apply pw_below_drewN | apply below_drew1) | exact HB.out)⟩⟩
        · rw [if_neg c9] at H
          have c9b0 : ((l1.length : Int) == 0) = false := beq_eq_false_iff_ne.mpr c9
          have c9b1 : ((l1.length : Int) != 0) = true := bne_iff_ne.mpr c9
          have c9b2 : ¬ (l1 = []) := fun h_ => c9 (by rw [h_]; rfl)
          by_cases c10 : (l1.length : Int) > 40
          · rw [if_pos c10] at H
            have c10b0 : decide (40 < (l1.length : Int)) = true := decide_eq_true c10
            have c10b1 : decide (40 < l1.length) = true := decide_eq_true (by omega)
            clear c10
            have H' := Aside0.mk H
            clear H
            go_wp2
            go_meet
            case rel => exact ⟨_, (true), (by first | rfl | (simp; done) | (simp [*]; done)), H', ⟨by first | omega | exact Nat.le_refl _⟩, ⟨by repeat (first | (with_reducible first | exact HB.out | apply below_alloc | apply pw_below_drewN | apply below_drew1) | exact HB.out)⟩⟩
          · rw [if_neg c10] at H
            have c10b0 : decide (40 < (l1.length : Int)) = false := decide_eq_false c10
            have c10b1 : decide (40 < l1.length) = false := decide_eq_false (by omega)
            clear c10
            by_cases c11 : a2 < 0
            · rw [if_pos c11] at H
              have c11b0 : decide (a2 < 0) = true := decide_eq_true c11
              clear c11
              have H' := Aside0.mk H
              clear H
              go_wp2
              go_meet
              case rel => exact ⟨_, (true), (by first | rfl | (simp; done) | (simp [*]; done)), H', ⟨by first | omega | exact Nat.le_refl _⟩, ⟨by repeat (first | (with_reducible first | exact HB.out | apply below_alloc | apply pw_below_drewN | apply below_drew1) | exact HB.out)⟩⟩
            · rw [if_neg c11] at H
              have c11b0 : decide (a2 < 0) = false := decide_eq_false c11
              clear c11
              have H' := Aside0.mk H
              clear H
              go_wp2
              go_meet
              case rel => exact ⟨_, (decide (a2 > 20)), (by first | rfl | (simp; done) | (simp [*]; done)), H', ⟨by first | omega | exact Nat.le_refl _⟩, ⟨by repeat (first | (with_reducible first | exact HB.out | apply below_alloc | apply pw_below_drewN | apply below_drew1) | exact HB.out)⟩⟩
    case rest =>
      clear HC6
      try clear c1
      try clear p2
      try clear c4
      try clear c5
      try clear c8
      try clear c8b0
      try clear c8b1
      try clear c9
      try clear c9b0
      try clear c9b1
      try clear c9b2
      try clear c10
      try clear c10b0
      try clear c10b1
      try clear c11
      try clear c11b0
      obtain ⟨kq, x41_5, rfl, HA, HJ5, HB⟩ := hcut
      cases kq with
      | zero => exact absurd HA.out (by simp [mailbaglaw18_HeadFolds.j0])
      | succ kj5 =>
        have H := HA.out
        clear HA
        simp only [mailbaglaw18_HeadFolds.j0] at H
        by_cases c12 : x41_5 = true
        · subst c12
          have H1 : (some true) = some r := by rw [if_pos rfl] at H; exact H
          clear H
          have H := H1
          clear H1
          obtain rfl := Option.some.inj H
          go_wp2
          go_ret
          exact ⟨by first | rfl | (simp [errW_none, errW_some] <;> rfl) | (simp [*, errW_none, errW_some] <;> rfl), by repeat (first | (with_reducible first | exact HB.out | apply below_alloc | apply pw_below_drewN | apply below_drew1) | exact HB.out)⟩
        · replace c12 := Bool.eq_false_iff.mpr c12
          subst c12
          have H1 : (mailbaglaw18_HeadFolds.l0 kj5 l0 l1 a2 (⟨#[]⟩ : ByteArray) 0) = some r := by rw [if_neg (show ¬ (false = true) by decide)] at H; exact H
          clear H
          have H := H1
          clear H1
          have H' := Aside0.mk H
          clear H
          go_wp2
          go_loopg [7, 8] kj5 (fun kq v7 v8 w' => ∃ (x7_2 : ByteArray) (x8_2 : Int), v7 = .string x7_2 ∧ v8 = .int .i64 x8_2 ∧ Aside0 (mailbaglaw18_HeadFolds.l0 kq l0 l1 a2 x7_2 x8_2 = some r) ∧ Aside0 (kq ≤ kj5) ∧ Aside0 (Below w.heap.size w w'))
          case atStart => exact ⟨((⟨#[]⟩ : ByteArray)), (0), (by first | rfl | (simp; done) | (simp [*]; done)), (by first | rfl | (simp; done) | (simp [*]; done)), H', ⟨Nat.le_refl _⟩, ⟨by repeat (first | (with_reducible first | exact HB.out | apply below_alloc | apply pw_below_drewN | apply below_drew1) | exact HB.out)⟩⟩
          case round =>
            clear H'
            try clear c1
            try clear p2
            try clear c4
            try clear c5
            try clear c8
            try clear c8b0
            try clear c8b1
            try clear c9
            try clear c9b0
            try clear c9b1
            try clear c9b2
            try clear c10
            try clear c10b0
            try clear c10b1
            try clear c11
            try clear c11b0
            try clear c12
            try clear p2
            obtain ⟨x7_2, x8_2, rfl, rfl, HA, HK2, HB⟩ := hrel
            cases gk with
            | zero => exact absurd HA.out (by simp [mailbaglaw18_HeadFolds.l0])
            | succ k2 =>
              have H := HA.out
              clear HA
              simp only [mailbaglaw18_HeadFolds.l0] at H
              by_cases c13 : x8_2 < (l1.length : Int)
              · rw [if_pos c13] at H
                have c13b0 : decide (x8_2 < (l1.length : Int)) = true := decide_eq_true c13
                clear c13
                by_cases c14 : 0 ≤ x8_2
                · rw [if_pos c14] at H
                  have c14b0 : decide (0 ≤ x8_2) = true := decide_eq_true c14
                  clear c14
                  obtain ⟨y107, hy107⟩ : ∃ y_ : List Int, y_ = (([(97 + (Int.tmod (rd l1 x8_2) 26)) % 256] : List Int)) := ⟨_, rfl⟩
                  replace H : (if x7_2.size + (strOfNums y107).size ≤ 9223372036854775807 then (mailbaglaw18_HeadFolds.l0 k2 l0 l1 a2 (x7_2 ++ (strOfNums y107)) (wrap64 (x8_2 + 1))) else (none)) = some r := by first | (rw [hy107]; with_reducible exact H) | (have H2_ := (Option.bind_some _ _).symm.trans H; rw [hy107]; with_reducible exact H2_) | (have H2_ := (Option.bind_some _ _).symm.trans H; with_reducible exact H2_) | with_reducible exact H | (rw [hy107]; exact H) | exact H
                  have Ny107 := Aside0.mk hy107
                  clear hy107
                  by_cases c15 : x7_2.size + (strOfNums y107).size ≤ 9223372036854775807
                  · rw [if_pos c15] at H
                    have c15b0 := eq_true c15
                    have c15b1 : decide (x7_2.size + (strOfNums y107).size ≤ 9223372036854775807) = true := decide_eq_true c15
                    try have c15b2 : (9223372036854775807 < x7_2.size + (strOfNums y107).size) = False := eq_false (Nat.not_lt.2 c15)
                    have H' := Aside0.mk H
                    clear H
                    have p106 : 0 ≤ (x8_2 : Int) := of_decide_eq_true (by first | (with_reducible assumption) | assumption)
                    have q106 : x8_2 < (l1.length : Int) := of_decide_eq_true (by first | (with_reducible assumption) | assumption)
                    obtain ⟨ad106, e106, hx106_0⟩ := Kd.at_int HR1.out x8_2 p106 q106
                    cases e106
                    replace hx106_0 := (HB.out.cell (World.block_lt_of_cell? w _ hx106_0)).trans hx106_0
                    replace p106 := eq_true p106
                    replace q106 := eq_true q106
                    go_wp2_with (first | ((with_reducible refine gate_dst (N := 55) rfl ?_); (try (refine gate_guard (by rfl) ?_; dsimp only)); refine Kd.R_lit (Kd.int .u8) _ 5 ?hg (N := 55) ?hd (xs := ([(97 + (Int.tmod (rd l1 x8_2) 26)) % 256] : List Int)) (inner := [.int .u8 ((97 + (Int.tmod (rd l1 x8_2) 26)) % 256)]) (ok := fun _ => True) (okp := fun _ => True) ?hr ?hp (fun _ hk => hk) trivial (Below.refl _ _) (Nat.le_refl _) (by simp) ?_; (case hd => rfl); (case hg => rfl); (case hr => first | (go_simp; done) | (go_simp; rfl)); (case hp => exact (Reps.one (show Kd.M (Kd.int .u8) _ _ _ ((97 + (Int.tmod (rd l1 x8_2) 26)) % 256) [.int .u8 ((97 + (Int.tmod (rd l1 x8_2) 26)) % 256)] from rfl) (Reps.none _ _))); intro v108 w16 ho17 hb hg_ hnew_; clear hg_ hnew_; (first | rw [← Ny107.out] at ho17 | (simp only [Int.reduceToNat] at ho17; rw [← Ny107.out] at ho17)); have n0_ := Aside0.mk (Kd.R_lower ho17 (below_size (by repeat (first | (with_reducible first | exact HB.out | apply below_alloc | apply pw_below_drewN | apply below_drew1) | exact HB.out)))); have n1_ := Aside0.mk (below_step (by repeat (first | (with_reducible first | exact HB.out | apply below_alloc | apply pw_below_drewN | apply below_drew1) | exact HB.out)) hb); clear HB; have HO109 := n0_; have HB := n1_; clear n0_ n1_; clear hb ho17; have hcv18 := own_string (P := Tryd.prog) Tryd.underlying26 Tryd.underlying5 Tryd.underlying9 (Kd.own_of_R HO109.out)))
                    go_roundg k2
                    case measure => have := HJ5.out; have := HK2.out; omega
                    case rel => exact ⟨(x7_2 ++ (strOfNums y107)), (wrap64 (x8_2 + 1)), (by first | rfl | (simp; done) | (simp [*]; done)), (by first | rfl | (simp; done) | (simp [*]; done)), H', ⟨by have := HJ5.out; have := HK2.out; omega⟩, ⟨by repeat (first | (with_reducible first | exact HB.out | apply below_alloc | apply pw_below_drewN | apply below_drew1) | exact HB.out)⟩⟩
                  · rw [if_neg c15] at H
                    exact absurd H (by simp)
                · rw [if_neg c14] at H
                  exact absurd H (by simp)
              · rw [if_neg c13] at H
                have c13b0 : decide (x8_2 < (l1.length : Int)) = false := decide_eq_false c13
                clear c13
                have H' := Aside0.mk H
                clear H
                go_wp2
                go_loopg [9, 10] k2 (fun kq v9 v10 w' => ∃ (x9_3 : ByteArray) (x10_3 : Int), v9 = .string x9_3 ∧ v10 = .int .i64 x10_3 ∧ Aside0 (mailbaglaw18_HeadFolds.l1 kq l0 a2 x7_2 x9_3 x10_3 = some r) ∧ Aside0 (kq ≤ k2) ∧ Aside0 (Below w.heap.size w w'))
                case atStart => exact ⟨((⟨#[32, 102, 105, 114, 115, 116]⟩ : ByteArray)), (0), (by first | rfl | (simp; done) | (simp [*]; done)), (by first | rfl | (simp; done) | (simp [*]; done)), H', ⟨Nat.le_refl _⟩, ⟨by repeat (first | (with_reducible first | exact HB.out | apply below_alloc | apply pw_below_drewN | apply below_drew1) | exact HB.out)⟩⟩
                case round =>
                  clear H'
                  try clear c1
                  try clear p1
                  try clear q1
                  try clear hx1
                  try clear hcv1
                  try clear p2
                  try clear c4
                  try clear c5
                  try clear p6
                  try clear c8
                  try clear c8b0
                  try clear c8b1
                  try clear c9
                  try clear c9b0
                  try clear c9b1
                  try clear c9b2
                  try clear c10
                  try clear c10b0
                  try clear c10b1
                  try clear p10
                  try clear q10
                  try clear hx10
                  try clear c11
                  try clear c11b0
                  try clear c12
                  try clear c13
                  try clear c13b0
                  try clear c14
                  try clear c14b0
                  try clear c15
                  try clear c15b0
                  try clear c15b1
                  try clear c15b2
                  try clear hcv18
                  try clear hx106_0
                  try clear p106
                  try clear p2
                  try clear q106
                  obtain ⟨x9_3, x10_3, rfl, rfl, HA, HK3, HB⟩ := hrel
                  cases gk with
                  | zero => exact absurd HA.out (by simp [mailbaglaw18_HeadFolds.l1])
                  | succ k3 =>
                    have H := HA.out
                    clear HA
                    simp only [mailbaglaw18_HeadFolds.l1] at H
                    by_cases c19 : x10_3 < (l0.length : Int)
                    · rw [if_pos c19] at H
                      have c19b0 : decide (x10_3 < (l0.length : Int)) = true := decide_eq_true c19
                      clear c19
                      by_cases c20 : 0 ≤ x10_3
                      · rw [if_pos c20] at H
                        have c20b0 : decide (0 ≤ x10_3) = true := decide_eq_true c20
                        clear c20
                        by_cases c21 : ((rd_L3 l0 x10_3).length : Int) > 100
                        · rw [if_pos c21] at H
                          have c21b0 : decide (100 < ((rd_L3 l0 x10_3).length : Int)) = true := decide_eq_true c21
                          have c21b1 : decide (100 < (rd_L3 l0 x10_3).length) = true := decide_eq_true (by omega)
                          clear c21
                          obtain rfl := Option.some.inj H
                          have p110 : 0 ≤ (x10_3 : Int) := of_decide_eq_true (by first | (with_reducible assumption) | assumption)
                          have q110 : x10_3 < (l0.length : Int) := of_decide_eq_true (by first | (with_reducible assumption) | assumption)
                          obtain ⟨ad110, A110_0, c110_0, e110, hx110_0, hl110_0, hi110_0⟩ := at_L3 HR0.out x10_3 p110 q110
                          cases e110
                          replace hx110_0 := (HB.out.cell (World.block_lt_of_cell? w _ hx110_0)).trans hx110_0
                          have HR110_0 := Aside0.mk hi110_0
                          have HC110_0 := Aside0.mk hl110_0
                          clear hi110_0 hl110_0
                          replace p110 := eq_true p110
                          replace q110 := eq_true q110
                          go_wp2
                          go_ret
                          exact ⟨by first | rfl | (simp [errW_none, errW_some] <;> rfl) | (simp [*, errW_none, errW_some] <;> rfl), by repeat (first | (with_reducible first | exact HB.out | apply below_alloc | apply pw_below_drewN | apply below_drew1) | exact HB.out)⟩
                        · rw [if_neg c21] at H
                          have c21b0 : decide (100 < ((rd_L3 l0 x10_3).length : Int)) = false := decide_eq_false c21
                          have c21b1 : decide (100 < (rd_L3 l0 x10_3).length) = false := decide_eq_false (by omega)
                          clear c21
                          have H' := Aside0.mk H
                          clear H
                          have p110 : 0 ≤ (x10_3 : Int) := of_decide_eq_true (by first | (with_reducible assumption) | assumption)
                          have q110 : x10_3 < (l0.length : Int) := of_decide_eq_true (by first | (with_reducible assumption) | assumption)
                          obtain ⟨ad110, A110_0, c110_0, e110, hx110_0, hl110_0, hi110_0⟩ := at_L3 HR0.out x10_3 p110 q110
                          cases e110
                          replace hx110_0 := (HB.out.cell (World.block_lt_of_cell? w _ hx110_0)).trans hx110_0
                          have HR110_0 := Aside0.mk hi110_0
                          have HC110_0 := Aside0.mk hl110_0
                          clear hi110_0 hl110_0
                          replace p110 := eq_true p110
                          replace q110 := eq_true q110
                          go_wp2
                          go_loopg [11, 12] k3 (fun kq v11 v12 w' => ∃ (x11_4 : ByteArray) (x12_4 : Int), v11 = .string x11_4 ∧ v12 = .int .i64 x12_4 ∧ Aside0 (mailbaglaw18_HeadFolds.l2 kq l0 a2 x7_2 x9_3 x10_3 x11_4 x12_4 = some r) ∧ Aside0 (kq ≤ k3) ∧ Aside0 (Below w.heap.size w w'))
                          case atStart => exact ⟨((⟨#[9]⟩ : ByteArray)), (0), (by first | rfl | (simp; done) | (simp [*]; done)), (by first | rfl | (simp; done) | (simp [*]; done)), H', ⟨Nat.le_refl _⟩, ⟨by repeat (first | (with_reducible first | exact HB.out | apply below_alloc | apply pw_below_drewN | apply below_drew1) | exact HB.out)⟩⟩
                          case round =>
                            clear H'
                            try clear c1
                            try clear p1
                            try clear q1
                            try clear hx1
                            try clear hcv1
                            try clear c2
                            try clear p2
                            try clear c4
                            try clear c5
                            try clear p6
                            try clear c8
                            try clear c8b0
                            try clear c8b1
                            try clear c9
                            try clear c9b0
                            try clear c9b1
                            try clear c9b2
                            try clear c10
                            try clear c10b0
                            try clear c10b1
                            try clear p10
                            try clear q10
                            try clear hx10
                            try clear c11
                            try clear c11b0
                            try clear p11
                            try clear q11
                            try clear hx11
                            try clear c12
                            try clear c13
                            try clear c13b0
                            try clear c14
                            try clear c14b0
                            try clear c15
                            try clear c15b0
                            try clear c15b1
                            try clear c15b2
                            try clear hcv18
                            try clear c19
                            try clear c19b0
                            try clear c20
                            try clear c20b0
                            try clear c21
                            try clear c21b0
                            try clear c21b1
                            try clear hx106_0
                            try clear hx110_0
                            try clear p1
                            try clear p10
                            try clear p106
                            try clear p110
                            try clear p2
                            try clear p6
                            try clear q1
                            try clear q10
                            try clear q106
                            try clear q110
                            obtain ⟨x11_4, x12_4, rfl, rfl, HA, HK4, HB⟩ := hrel
                            cases gk with
                            | zero => exact absurd HA.out (by simp [mailbaglaw18_HeadFolds.l2])
                            | succ k4 =>
                              have H := HA.out
                              clear HA
                              simp only [mailbaglaw18_HeadFolds.l2] at H
                              by_cases c22 : 0 ≤ x10_3
                              · rw [if_pos c22] at H
                                have c22b0 : decide (0 ≤ x10_3) = true := decide_eq_true c22
                                clear c22
                                by_cases c23 : x10_3 < (l0.length : Int)
                                · rw [if_pos c23] at H
                                  have c23b0 : decide (x10_3 < (l0.length : Int)) = true := decide_eq_true c23
                                  clear c23
                                  by_cases c24 : x12_4 < ((rd_L3 l0 x10_3).length : Int)
                                  · rw [if_pos c24] at H
                                    have c24b0 : decide (x12_4 < ((rd_L3 l0 x10_3).length : Int)) = true := decide_eq_true c24
                                    clear c24
                                    by_cases c25 : 0 ≤ x12_4
                                    · rw [if_pos c25] at H
                                      have c25b0 : decide (0 ≤ x12_4) = true := decide_eq_true c25
                                      clear c25
                                      obtain ⟨y114, hy114⟩ : ∃ y_ : List Int, y_ = (([(32 + (Int.tmod (rd (rd_L3 l0 x10_3) x12_4) 95)) % 256] : List Int)) := ⟨_, rfl⟩
                                      replace H : (if x11_4.size + (strOfNums y114).size ≤ 9223372036854775807 then (mailbaglaw18_HeadFolds.l2 k4 l0 a2 x7_2 x9_3 x10_3 (x11_4 ++ (strOfNums y114)) (wrap64 (x12_4 + 1))) else (none)) = some r := by first | (rw [hy114]; with_reducible exact H) | (have H2_ := (Option.bind_some _ _).symm.trans H; rw [hy114]; with_reducible exact H2_) | (have H2_ := (Option.bind_some _ _).symm.trans H; with_reducible exact H2_) | with_reducible exact H | (rw [hy114]; exact H) | exact H
                                      have Ny114 := Aside0.mk hy114
                                      clear hy114
                                      by_cases c26 : x11_4.size + (strOfNums y114).size ≤ 9223372036854775807
                                      · rw [if_pos c26] at H
                                        have c26b0 := eq_true c26
                                        have c26b1 : decide (x11_4.size + (strOfNums y114).size ≤ 9223372036854775807) = true := decide_eq_true c26
                                        try have c26b2 : (9223372036854775807 < x11_4.size + (strOfNums y114).size) = False := eq_false (Nat.not_lt.2 c26)
                                        have H' := Aside0.mk H
                                        clear H
                                        have p111 : 0 ≤ (x10_3 : Int) := of_decide_eq_true (by first | (with_reducible assumption) | assumption)
                                        have q111 : x10_3 < (l0.length : Int) := of_decide_eq_true (by first | (with_reducible assumption) | assumption)
                                        obtain ⟨ad111, A111_0, c111_0, e111, hx111_0, hl111_0, hi111_0⟩ := at_L3 HR0.out x10_3 p111 q111
                                        obtain rfl : ad110 = ad111 := (by injection e111)
                                        replace hx111_0 := (HB.out.cell (World.block_lt_of_cell? w _ hx111_0)).trans hx111_0
                                        have HR111_0 := Aside0.mk hi111_0
                                        have HC111_0 := Aside0.mk hl111_0
                                        clear hi111_0 hl111_0
                                        replace p111 := eq_true p111
                                        replace q111 := eq_true q111
                                        have p112 : 0 ≤ (x10_3 : Int) := of_decide_eq_true (by first | (with_reducible assumption) | assumption)
                                        have q112 : x10_3 < (l0.length : Int) := of_decide_eq_true (by first | (with_reducible assumption) | assumption)
                                        obtain ⟨ad112, A112_0, c112_0, e112, hx112_0, hl112_0, hi112_0⟩ := at_L3 HR0.out x10_3 p112 q112
                                        obtain rfl : ad110 = ad112 := (by injection e112)
                                        replace hx112_0 := (HB.out.cell (World.block_lt_of_cell? w _ hx112_0)).trans hx112_0
                                        have HR112_0 := Aside0.mk hi112_0
                                        have HC112_0 := Aside0.mk hl112_0
                                        clear hi112_0 hl112_0
                                        replace p112 := eq_true p112
                                        replace q112 := eq_true q112
                                        have ea_ := Option.some.inj (hx111_0.symm.trans hx112_0)
                                        injection ea_ with ea_ en_ ec_
                                        subst ea_
                                        subst ec_
                                        clear en_
                                        have p113 : 0 ≤ (x12_4 : Int) := of_decide_eq_true (by first | (with_reducible assumption) | assumption)
                                        have q113 : x12_4 < ((rd_L3 l0 x10_3).length : Int) := of_decide_eq_true (by first | (with_reducible assumption) | assumption)
                                        obtain ⟨ad113, e113, hx113_0⟩ := Kd.at_int HR112_0.out x12_4 p113 q113
                                        cases e113
                                        replace hx113_0 := (HB.out.cell (World.block_lt_of_cell? w _ hx113_0)).trans hx113_0
                                        replace p113 := eq_true p113
                                        replace q113 := eq_true q113
                                        go_wp2_with (first | ((with_reducible refine gate_dst (N := 89) rfl ?_); (try (refine gate_guard (by rfl) ?_; dsimp only)); refine Kd.R_lit (Kd.int .u8) _ 5 ?hg (N := 89) ?hd (xs := ([(32 + (Int.tmod (rd (rd_L3 l0 x10_3) x12_4) 95)) % 256] : List Int)) (inner := [.int .u8 ((32 + (Int.tmod (rd (rd_L3 l0 x10_3) x12_4) 95)) % 256)]) (ok := fun _ => True) (okp := fun _ => True) ?hr ?hp (fun _ hk => hk) trivial (Below.refl _ _) (Nat.le_refl _) (by simp) ?_; (case hd => rfl); (case hg => rfl); (case hr => first | (go_simp; done) | (go_simp; rfl)); (case hp => exact (Reps.one (show Kd.M (Kd.int .u8) _ _ _ ((32 + (Int.tmod (rd (rd_L3 l0 x10_3) x12_4) 95)) % 256) [.int .u8 ((32 + (Int.tmod (rd (rd_L3 l0 x10_3) x12_4) 95)) % 256)] from rfl) (Reps.none _ _))); intro v115 w27 ho28 hb hg_ hnew_; clear hg_ hnew_; (first | rw [← Ny114.out] at ho28 | (simp only [Int.reduceToNat] at ho28; rw [← Ny114.out] at ho28)); have n0_ := Aside0.mk (Kd.R_lower ho28 (below_size (by repeat (first | (with_reducible first | exact HB.out | apply below_alloc | apply pw_below_drewN | apply below_drew1) | exact HB.out)))); have n1_ := Aside0.mk (below_step (by repeat (first | (with_reducible first | exact HB.out | apply below_alloc | apply pw_below_drewN | apply below_drew1) | exact HB.out)) hb); clear HB; have HO116 := n0_; have HB := n1_; clear n0_ n1_; clear hb ho28; have hcv29 := own_string (P := Tryd.prog) Tryd.underlying26 Tryd.underlying5 Tryd.underlying9 (Kd.own_of_R HO116.out)))
                                        go_roundg k4
                                        case measure => have := HJ5.out; have := HK2.out; have := HK3.out; have := HK4.out; omega
                                        case rel => exact ⟨(x11_4 ++ (strOfNums y114)), (wrap64 (x12_4 + 1)), (by first | rfl | (simp; done) | (simp [*]; done)), (by first | rfl | (simp; done) | (simp [*]; done)), H', ⟨by have := HJ5.out; have := HK2.out; have := HK3.out; have := HK4.out; omega⟩, ⟨by repeat (first | (with_reducible first | exact HB.out | apply below_alloc | apply pw_below_drewN | apply below_drew1) | exact HB.out)⟩⟩
                                      · rw [if_neg c26] at H
                                        exact absurd H (by simp)
                                    · rw [if_neg c25] at H
                                      exact absurd H (by simp)
                                  · rw [if_neg c24] at H
                                    have c24b0 : decide (x12_4 < ((rd_L3 l0 x10_3).length : Int)) = false := decide_eq_false c24
                                    clear c24
                                    by_cases c30 : x9_3.size + 2 ≤ 9223372036854775807
                                    · rw [if_pos c30] at H
                                      have c30b0 := eq_true c30
                                      have c30b1 : decide (x9_3.size + 2 ≤ 9223372036854775807) = true := decide_eq_true c30
                                      try have c30b2 : (9223372036854775807 < x9_3.size + 2) = False := eq_false (Nat.not_lt.2 c30)
                                      by_cases c31 : (x9_3 ++ (⟨#[13, 10]⟩ : ByteArray)).size + x11_4.size ≤ 9223372036854775807
                                      · rw [if_pos c31] at H
                                        have c31b0 := eq_true c31
                                        have c31b1 : decide ((x9_3 ++ (⟨#[13, 10]⟩ : ByteArray)).size + x11_4.size ≤ 9223372036854775807) = true := decide_eq_true c31
                                        try have c31b2 : (9223372036854775807 < (x9_3 ++ (⟨#[13, 10]⟩ : ByteArray)).size + x11_4.size) = False := eq_false (Nat.not_lt.2 c31)
                                        try (have c31b3 := c31b2; simp only [ByteArray.size_append, show (⟨#[13, 10]⟩ : ByteArray).size = 2 from rfl] at c31b3)
                                        have H' := Aside0.mk H
                                        clear H
                                        have p111 : 0 ≤ (x10_3 : Int) := of_decide_eq_true (by first | (with_reducible assumption) | assumption)
                                        have q111 : x10_3 < (l0.length : Int) := of_decide_eq_true (by first | (with_reducible assumption) | assumption)
                                        obtain ⟨ad111, A111_0, c111_0, e111, hx111_0, hl111_0, hi111_0⟩ := at_L3 HR0.out x10_3 p111 q111
                                        obtain rfl : ad110 = ad111 := (by injection e111)
                                        replace hx111_0 := (HB.out.cell (World.block_lt_of_cell? w _ hx111_0)).trans hx111_0
                                        have HR111_0 := Aside0.mk hi111_0
                                        have HC111_0 := Aside0.mk hl111_0
                                        clear hi111_0 hl111_0
                                        replace p111 := eq_true p111
                                        replace q111 := eq_true q111
                                        go_wp2
                                        go_roundg k4
                                        case measure => have := HJ5.out; have := HK2.out; have := HK3.out; have := HK4.out; omega
                                        case rel => exact ⟨((x9_3 ++ (⟨#[13, 10]⟩ : ByteArray)) ++ x11_4), (wrap64 (x10_3 + 1)), (by first | rfl | (simp; done) | (simp [*]; done)), (by first | rfl | (simp; done) | (simp [*]; done)), H', ⟨by have := HJ5.out; have := HK2.out; have := HK3.out; have := HK4.out; omega⟩, ⟨by repeat (first | (with_reducible first | exact HB.out | apply below_alloc | apply pw_below_drewN | apply below_drew1) | exact HB.out)⟩⟩
                                      · rw [if_neg c31] at H
                                        exact absurd H (by simp)
                                    · rw [if_neg c30] at H
                                      exact absurd H (by simp)
                                · rw [if_neg c23] at H
                                  exact absurd H (by simp)
                              · rw [if_neg c22] at H
                                exact absurd H (by simp)
                      · rw [if_neg c20] at H
                        exact absurd H (by simp)
                    · rw [if_neg c19] at H
                      have c19b0 : decide (x10_3 < (l0.length : Int)) = false := decide_eq_false c19
                      clear c19
                      by_cases c32 : x7_2.size + 1 ≤ 9223372036854775807
                      · rw [if_pos c32] at H
                        have c32b0 := eq_true c32
                        have c32b1 : decide (x7_2.size + 1 ≤ 9223372036854775807) = true := decide_eq_true c32
                        try have c32b2 : (9223372036854775807 < x7_2.size + 1) = False := eq_false (Nat.not_lt.2 c32)
                        by_cases c33 : (x7_2 ++ (⟨#[58]⟩ : ByteArray)).size + x9_3.size ≤ 9223372036854775807
                        · rw [if_pos c33] at H
                          have c33b0 := eq_true c33
                          have c33b1 : decide ((x7_2 ++ (⟨#[58]⟩ : ByteArray)).size + x9_3.size ≤ 9223372036854775807) = true := decide_eq_true c33
                          try have c33b2 : (9223372036854775807 < (x7_2 ++ (⟨#[58]⟩ : ByteArray)).size + x9_3.size) = False := eq_false (Nat.not_lt.2 c33)
                          try (have c33b3 := c33b2; simp only [ByteArray.size_append, show (⟨#[58]⟩ : ByteArray).size = 1 from rfl] at c33b3)
                          by_cases c34 : ((x7_2 ++ (⟨#[58]⟩ : ByteArray)) ++ x9_3).size + 2 ≤ 9223372036854775807
                          · rw [if_pos c34] at H
                            have c34b0 := eq_true c34
                            have c34b1 : decide (((x7_2 ++ (⟨#[58]⟩ : ByteArray)) ++ x9_3).size + 2 ≤ 9223372036854775807) = true := decide_eq_true c34
                            try have c34b2 : (9223372036854775807 < ((x7_2 ++ (⟨#[58]⟩ : ByteArray)) ++ x9_3).size + 2) = False := eq_false (Nat.not_lt.2 c34)
                            try (have c34b3 := c34b2; simp only [ByteArray.size_append, show (⟨#[58]⟩ : ByteArray).size = 1 from rfl] at c34b3)
                            have H' := Aside0.mk H
                            clear H
                            go_wp2
                            go_loopg [13, 14] k3 (fun kq v13 v14 w' => ∃ (x13_4 : ByteArray) (x14_4 : Int), v13 = .string x13_4 ∧ v14 = .int .i64 x14_4 ∧ Aside0 (mailbaglaw18_HeadFolds.l3 kq a2 x7_2 x9_3 x13_4 x14_4 = some r) ∧ Aside0 (kq ≤ k3) ∧ Aside0 (Below w.heap.size w w'))
                            case atStart => exact ⟨(((x7_2 ++ (⟨#[58]⟩ : ByteArray)) ++ x9_3) ++ (⟨#[13, 10]⟩ : ByteArray)), (0), (by first | rfl | (simp; done) | (simp [*]; done)), (by first | rfl | (simp; done) | (simp [*]; done)), H', ⟨Nat.le_refl _⟩, ⟨by repeat (first | (with_reducible first | exact HB.out | apply below_alloc | apply pw_below_drewN | apply below_drew1) | exact HB.out)⟩⟩
                            case round =>
                              clear H'
                              try clear c1
                              try clear p1
                              try clear q1
                              try clear hx1
                              try clear hcv1
                              try clear c2
                              try clear p2
                              try clear hcv2
                              try clear c3
                              try clear c4
                              try clear c5
                              try clear p6
                              try clear c8
                              try clear c8b0
                              try clear c8b1
                              try clear c9
                              try clear c9b0
                              try clear c9b1
                              try clear c9b2
                              try clear c10
                              try clear c10b0
                              try clear c10b1
                              try clear p10
                              try clear q10
                              try clear hx10
                              try clear c11
                              try clear c11b0
                              try clear p11
                              try clear q11
                              try clear hx11
                              try clear c12
                              try clear c13
                              try clear c13b0
                              try clear c14
                              try clear c14b0
                              try clear c15
                              try clear c15b0
                              try clear c15b1
                              try clear c15b2
                              try clear hcv18
                              try clear c19
                              try clear c19b0
                              try clear c20
                              try clear c20b0
                              try clear c21
                              try clear c21b0
                              try clear c21b1
                              try clear c22
                              try clear c22b0
                              try clear c23
                              try clear c23b0
                              try clear c24
                              try clear c24b0
                              try clear c25
                              try clear c25b0
                              try clear c26
                              try clear c26b0
                              try clear c26b1
                              try clear c26b2
                              try clear hcv29
                              try clear c30
                              try clear c30b0
                              try clear c30b1
                              try clear c30b2
                              try clear c31
                              try clear c31b0
                              try clear c31b1
                              try clear c31b2
                              try clear c32
                              try clear c32b0
                              try clear c32b1
                              try clear c32b2
                              try clear c33
                              try clear c33b0
                              try clear c33b1
                              try clear c33b2
                              try clear c34
                              try clear c34b0
                              try clear c34b1
                              try clear c34b2
                              try clear hx106_0
                              try clear hx110_0
                              try clear hx111_0
                              try clear hx112_0
                              try clear hx113_0
                              try clear p1
                              try clear p10
                              try clear p106
                              try clear p11
                              try clear p110
                              try clear p111
                              try clear p112
                              try clear p113
                              try clear p2
                              try clear p6
                              try clear q1
                              try clear q10
                              try clear q106
                              try clear q11
                              try clear q110
                              try clear q111
                              try clear q112
                              try clear q113
                              obtain ⟨x13_4, x14_4, rfl, rfl, HA, HK4, HB⟩ := hrel
                              cases gk with
                              | zero => exact absurd HA.out (by simp [mailbaglaw18_HeadFolds.l3])
                              | succ k4 =>
                                have H := HA.out
                                clear HA
                                simp only [mailbaglaw18_HeadFolds.l3] at H
                                by_cases c35 : x14_4 < a2
                                · rw [if_pos c35] at H
                                  have c35b0 : decide (x14_4 < a2) = true := decide_eq_true c35
                                  clear c35
                                  replace H := Option.bind_eq_some_iff.mp H
                                  obtain ⟨t117, A360, H⟩ := H
                                  replace H : (if x13_4.size + t117.size ≤ 9223372036854775807 then (if (x13_4 ++ t117).size + 9 ≤ 9223372036854775807 then (mailbaglaw18_HeadFolds.l3 k4 a2 x7_2 x9_3 ((x13_4 ++ t117) ++ (⟨#[58, 32, 97, 103, 97, 105, 110, 13, 10]⟩ : ByteArray)) (wrap64 (x14_4 + 1))) else (none)) else (none)) = some r := H
                                  have A36 := Aside0.mk A360
                                  clear A360
                                  by_cases c37 : x13_4.size + t117.size ≤ 9223372036854775807
                                  · rw [if_pos c37] at H
                                    have c37b0 := eq_true c37
                                    have c37b1 : decide (x13_4.size + t117.size ≤ 9223372036854775807) = true := decide_eq_true c37
                                    try have c37b2 : (9223372036854775807 < x13_4.size + t117.size) = False := eq_false (Nat.not_lt.2 c37)
                                    by_cases c38 : (x13_4 ++ t117).size + 9 ≤ 9223372036854775807
                                    · rw [if_pos c38] at H
                                      have c38b0 := eq_true c38
                                      have c38b1 : decide ((x13_4 ++ t117).size + 9 ≤ 9223372036854775807) = true := decide_eq_true c38
                                      try have c38b2 : (9223372036854775807 < (x13_4 ++ t117).size + 9) = False := eq_false (Nat.not_lt.2 c38)
                                      try (have c38b3 := c38b2; simp only [ByteArray.size_append] at c38b3)
                                      have H' := Aside0.mk H
                                      clear H
                                      go_wp2_with (first | ((with_reducible refine gate_callee (f := 12) rfl ?_); refine goesL_ (some 108) rfl rfl Tryd.func12 (by kernel_rfl) rfl #[.string x7_2] rfl (by (try simp only [List.map_toArray, List.map_cons, List.map_nil]); first | done | rfl | (simp only [List.length_drop, List.length_take]; rfl)) ?_; (with_reducible refine (mailbaglaw18_upper.calls x7_2 t117 _ A36.out).mono ?_); rintro e w39 ⟨rfl, hb⟩; refine ⟨_, rfl, ?_⟩; have n0_ := Aside0.mk (below_step (by repeat (first | (with_reducible first | exact HB.out | apply below_alloc | apply pw_below_drewN | apply below_drew1) | exact HB.out)) hb); clear HB; have HB := n0_; clear n0_; (try clear hb); (try clear hb2); (try clear hk); (try clear hi)))
                                      go_roundg k4
                                      case measure => have := HJ5.out; have := HK2.out; have := HK3.out; have := HK4.out; omega
                                      case rel => exact ⟨((x13_4 ++ t117) ++ (⟨#[58, 32, 97, 103, 97, 105, 110, 13, 10]⟩ : ByteArray)), (wrap64 (x14_4 + 1)), (by first | rfl | (simp; done) | (simp [*]; done)), (by first | rfl | (simp; done) | (simp [*]; done)), H', ⟨by have := HJ5.out; have := HK2.out; have := HK3.out; have := HK4.out; omega⟩, ⟨by repeat (first | (with_reducible first | exact HB.out | apply below_alloc | apply pw_below_drewN | apply below_drew1) | exact HB.out)⟩⟩
                                    · rw [if_neg c38] at H
                                      exact absurd H (by simp)
                                  · rw [if_neg c37] at H
                                    exact absurd H (by simp)
                                · rw [if_neg c35] at H
                                  have c35b0 : decide (x14_4 < a2) = false := decide_eq_false c35
                                  clear c35
                                  by_cases c40 : x13_4.size + 6 ≤ 9223372036854775807
                                  · rw [if_pos c40] at H
                                    have c40b0 := eq_true c40
                                    have c40b1 : decide (x13_4.size + 6 ≤ 9223372036854775807) = true := decide_eq_true c40
                                    try have c40b2 : (9223372036854775807 < x13_4.size + 6) = False := eq_false (Nat.not_lt.2 c40)
                                    by_cases c41 : (x13_4 ++ (⟨#[13, 10, 98, 111, 100, 121]⟩ : ByteArray)).size ≤ 9223372036854775807
                                    · rw [if_pos c41] at H
                                      have c41b0 := eq_true c41
                                      have c41b1 : decide ((x13_4 ++ (⟨#[13, 10, 98, 111, 100, 121]⟩ : ByteArray)).size ≤ 9223372036854775807) = true := decide_eq_true c41
                                      try have c41b2 : (9223372036854775807 < (x13_4 ++ (⟨#[13, 10, 98, 111, 100, 121]⟩ : ByteArray)).size) = False := eq_false (Nat.not_lt.2 c41)
                                      try (have c41b3 := c41b2; simp only [ByteArray.size_append, show (⟨#[13, 10, 98, 111, 100, 121]⟩ : ByteArray).size = 6 from rfl] at c41b3)
                                      obtain ⟨y118, hy118⟩ : ∃ y_ : List Int, y_ = (bytesOf (x13_4 ++ (⟨#[13, 10, 98, 111, 100, 121]⟩ : ByteArray))) := ⟨_, rfl⟩
                                      replace H : ((head_Split.f y118).bind fun bt121 => ((mailbaglaw18_upper.f x7_2).bind fun t127 => ((head_Get.f k4 bt121.1 t127).bind fun bt128 => (if (bt121.1.length : Int) = (wrap64 (1 + a2)) then (if 0 < (bt121.1.length : Int) then (if ((rd_T34 bt121.1 0).f1).toList = x9_3.toList then (if bt128.1.toList = x9_3.toList then (if bt128.2 = (wrap64 (1 + a2)) then (some ((strOfNums bt121.2).toList == ([98, 111, 100, 121, 13, 10] : List UInt8))) else (some false)) else (some false)) else (some false)) else (none)) else (some false))))) = some r := by first | (rw [hy118]; with_reducible exact H) | (have H2_ := (Option.bind_some _ _).symm.trans H; rw [hy118]; with_reducible exact H2_) | (have H2_ := (Option.bind_some _ _).symm.trans H; with_reducible exact H2_) | with_reducible exact H | (rw [hy118]; exact H) | exact H
                                      have Ny118 := Aside0.mk hy118
                                      clear hy118
                                      replace H := Option.bind_eq_some_iff.mp H
                                      obtain ⟨⟨t121, t124⟩, A420, H⟩ := H
                                      replace H : ((mailbaglaw18_upper.f x7_2).bind fun t127 => ((head_Get.f k4 t121 t127).bind fun bt128 => (if (t121.length : Int) = (wrap64 (1 + a2)) then (if 0 < (t121.length : Int) then (if ((rd_T34 t121 0).f1).toList = x9_3.toList then (if bt128.1.toList = x9_3.toList then (if bt128.2 = (wrap64 (1 + a2)) then (some ((strOfNums t124).toList == ([98, 111, 100, 121, 13, 10] : List UInt8))) else (some false)) else (some false)) else (some false)) else (none)) else (some false)))) = some r := H
                                      have A42 := Aside0.mk A420
                                      clear A420
                                      replace H := Option.bind_eq_some_iff.mp H
                                      obtain ⟨t127, A430, H⟩ := H
                                      replace H : ((head_Get.f k4 t121 t127).bind fun bt128 => (if (t121.length : Int) = (wrap64 (1 + a2)) then (if 0 < (t121.length : Int) then (if ((rd_T34 t121 0).f1).toList = x9_3.toList then (if bt128.1.toList = x9_3.toList then (if bt128.2 = (wrap64 (1 + a2)) then (some ((strOfNums t124).toList == ([98, 111, 100, 121, 13, 10] : List UInt8))) else (some false)) else (some false)) else (some false)) else (none)) else (some false))) = some r := H
                                      have A43 := Aside0.mk A430
                                      clear A430
                                      replace H := Option.bind_eq_some_iff.mp H
                                      obtain ⟨⟨t128, t129⟩, A440, H⟩ := H
                                      replace H : (if (t121.length : Int) = (wrap64 (1 + a2)) then (if 0 < (t121.length : Int) then (if ((rd_T34 t121 0).f1).toList = x9_3.toList then (if t128.toList = x9_3.toList then (if t129 = (wrap64 (1 + a2)) then (some ((strOfNums t124).toList == ([98, 111, 100, 121, 13, 10] : List UInt8))) else (some false)) else (some false)) else (some false)) else (none)) else (some false)) = some r := H
                                      have A44 := Aside0.mk A440
                                      clear A440
                                      by_cases c45 : (t121.length : Int) = (wrap64 (1 + a2))
                                      · rw [if_pos c45] at H
                                        have c45b0 : ((t121.length : Int) == (wrap64 (1 + a2))) = true := beq_iff_eq.mpr c45
                                        have c45b1 : ((t121.length : Int) != (wrap64 (1 + a2))) = false := bne_eq_false_iff_eq.mpr c45
                                        clear c45
                                        by_cases c46 : 0 < (t121.length : Int)
                                        · rw [if_pos c46] at H
                                          have c46b0 : decide (0 < (t121.length : Int)) = true := decide_eq_true c46
                                          have c46b1 : decide (0 < t121.length) = true := decide_eq_true (by omega)
                                          clear c46
                                          by_cases c47 : ((rd_T34 t121 0).f1).toList = x9_3.toList
                                          · rw [if_pos c47] at H
                                            have c47b0 : (((rd_T34 t121 0).f1).toList == x9_3.toList) = true := beq_iff_eq.mpr c47
                                            have c47b1 : (((rd_T34 t121 0).f1).toList != x9_3.toList) = false := bne_eq_false_iff_eq.mpr c47
                                            clear c47
                                            by_cases c48 : t128.toList = x9_3.toList
                                            · rw [if_pos c48] at H
                                              have c48b0 : (t128.toList == x9_3.toList) = true := beq_iff_eq.mpr c48
                                              have c48b1 : (t128.toList != x9_3.toList) = false := bne_eq_false_iff_eq.mpr c48
                                              clear c48
                                              by_cases c49 : t129 = (wrap64 (1 + a2))
                                              · rw [if_pos c49] at H
                                                have c49b0 : (t129 == (wrap64 (1 + a2))) = true := beq_iff_eq.mpr c49
                                                have c49b1 : (t129 != (wrap64 (1 + a2))) = false := bne_eq_false_iff_eq.mpr c49
                                                clear c49
                                                obtain rfl := Option.some.inj H
                                                go_wp2_with (first | ((with_reducible refine gate_dst (N := 114) rfl ?_); (try (refine gate_guard (by rfl) ?_; dsimp only)); refine V_conv rfl (N := 114) rfl 9 26 5 _ rfl (x13_4 ++ (⟨#[13, 10, 98, 111, 100, 121]⟩ : ByteArray)) rfl Tryd.underlying9 Tryd.underlying26 Tryd.underlying5 (of_decide_eq_true (by first | (with_reducible assumption) | assumption)) ?_; intro v119 w50 ho51 hb; (first | rw [← Ny118.out] at ho51 | (simp only [Int.reduceToNat] at ho51; rw [← Ny118.out] at ho51)); have n0_ := Aside0.mk (Kd.V_lower (Kd.V_mono (ok' := fun k_ => True) ho51 (fun k_ hk_ => trivial)) (below_size (by repeat (first | (with_reducible first | exact HB.out | apply below_alloc | apply pw_below_drewN | apply below_drew1) | exact HB.out)))); have n1_ := Aside0.mk (below_step (by repeat (first | (with_reducible first | exact HB.out | apply below_alloc | apply pw_below_drewN | apply below_drew1) | exact HB.out)) hb); clear HB; have HO120 := n0_; have HB := n1_; clear n0_ n1_; clear hb ho51; obtain ⟨Ao52, co52, eo52⟩ := Kd.V_slice HO120.out; subst eo52) | ((with_reducible refine gate_callee (f := 13) rfl ?_); refine goesL_ (some 115) rfl rfl Tryd.func13 (by kernel_rfl) rfl #[.slice Ao52 y118.length co52] rfl (by (try simp only [List.map_toArray, List.map_cons, List.map_nil]); first | done | rfl | (simp only [List.length_drop, List.length_take]; rfl)) ?_; (with_reducible refine (head_Split.calls _ _ y118 t121 t124 _ ?side1 ?side2 ?side3 A42.out).mono ?_); (case side1 => repeat (first | exact (Kd.V_reads' HO120.out).2.2 | (with_reducible refine Kd.C_alloc ?_ _) | (with_reducible refine Kd.C_drewN ?_ _) | (with_reducible refine Kd.C_drew ?_))); (case side2 => exact (Kd.V_reads' HO120.out).2.1); (case side3 => exact shaped_below HSH.out (by repeat (first | (with_reducible first | exact HB.out | apply below_alloc | apply pw_below_drewN | apply below_drew1) | exact HB.out)) (Nat.le_refl _)); rintro e w53 ⟨v122, v125, rfl, ho0, ho1, hb⟩; refine ⟨_, rfl, ?_⟩; have n0_ := Aside0.mk (Kd.V_elder' (by (with_reducible repeat (first | apply Kd.V_alloc | apply Kd.V_drewN | apply Kd.V_drew)); exact HO120.out) (Kd.R_base ho0) hb); have n1_ := Aside0.mk (Kd.R_lower (Kd.R_mono (ok' := fun k_ => True) ho0 (fun _ hk_ => trivial)) (below_size (by repeat (first | (with_reducible first | exact HB.out | apply below_alloc | apply pw_below_drewN | apply below_drew1) | exact HB.out)))); have n2_ := Aside0.mk (Kd.V_lower (Kd.V_mono (ok' := fun k_ => some k_ ≠ (v122 : Value).ownBlock) ho1 (fun k_ hk_ => hk_.2)) (below_size (by repeat (first | (with_reducible first | exact HB.out | apply below_alloc | apply pw_below_drewN | apply below_drew1) | exact HB.out)))); have n3_ := Aside0.mk (below_step (by repeat (first | (with_reducible first | exact HB.out | apply below_alloc | apply pw_below_drewN | apply below_drew1) | exact HB.out)) hb); clear HO120; clear HB; have HO120 := n0_; have HO123 := n1_; have HO126 := n2_; have HB := n3_; clear n0_ n1_ n2_ n3_; (try clear hb); (try clear hb2); (try clear hk); (try clear hi); (try clear ho0); (try clear ho1)) | ((with_reducible refine gate_callee (f := 12) rfl ?_); refine goesL_ (some 121) rfl rfl Tryd.func12 (by kernel_rfl) rfl #[.string x7_2] rfl (by (try simp only [List.map_toArray, List.map_cons, List.map_nil]); first | done | rfl | (simp only [List.length_drop, List.length_take]; rfl)) ?_; (with_reducible refine (mailbaglaw18_upper.calls x7_2 t127 _ A43.out).mono ?_); rintro e w54 ⟨rfl, hb⟩; refine ⟨_, rfl, ?_⟩; have n0_ := Aside0.mk (Kd.V_below (by (with_reducible repeat (first | apply Kd.V_alloc | apply Kd.V_drewN | apply Kd.V_drew)); exact HO120.out) hb); have n1_ := Aside0.mk (Kd.R_below (by (with_reducible repeat (first | apply Kd.R_alloc | apply Kd.R_drewN | apply Kd.R_drew)); exact HO123.out) hb); have n2_ := Aside0.mk (Kd.V_below (by (with_reducible repeat (first | apply Kd.V_alloc | apply Kd.V_drewN | apply Kd.V_drew)); exact HO126.out) hb); have n3_ := Aside0.mk (below_step (by repeat (first | (with_reducible first | exact HB.out | apply below_alloc | apply pw_below_drewN | apply below_drew1) | exact HB.out)) hb); clear HO120; clear HO123; clear HO126; clear HB; have HO120 := n0_; have HO123 := n1_; have HO126 := n2_; have HB := n3_; clear n0_ n1_ n2_ n3_; (try clear hb); (try clear hb2); (try clear hk); (try clear hi); obtain ⟨Ao55, co55, eo55⟩ := Kd.R_slice HO123.out; subst eo55) | ((with_reducible refine gate_callee (f := 14) rfl ?_); refine goesL_ (some 122) rfl rfl Tryd.func14 (by kernel_rfl) rfl #[.slice Ao55 t121.length co55, .string t127] rfl (by (try simp only [List.map_toArray, List.map_cons, List.map_nil]); first | done | rfl | (simp only [List.length_drop, List.length_take]; rfl)) ?_; (with_reducible refine (head_Get.calls k4 _ _ t121 t127 t128 t129 _ ?side1 ?side2 A44.out).mono ?_); (case side1 => repeat (first | exact (Kd.R_reads' HO123.out).2.2 | (with_reducible refine Kd.C_alloc ?_ _) | (with_reducible refine Kd.C_drewN ?_ _) | (with_reducible refine Kd.C_drew ?_))); (case side2 => exact (Kd.R_reads' HO123.out).2.1); rintro e w56 ⟨rfl, hb⟩; refine ⟨_, rfl, ?_⟩; have n0_ := Aside0.mk (Kd.V_below (by (with_reducible repeat (first | apply Kd.V_alloc | apply Kd.V_drewN | apply Kd.V_drew)); exact HO120.out) hb); have n1_ := Aside0.mk (Kd.R_below (by (with_reducible repeat (first | apply Kd.R_alloc | apply Kd.R_drewN | apply Kd.R_drew)); exact HO123.out) hb); have n2_ := Aside0.mk (Kd.V_below (by (with_reducible repeat (first | apply Kd.V_alloc | apply Kd.V_drewN | apply Kd.V_drew)); exact HO126.out) hb); have n3_ := Aside0.mk (below_step (by repeat (first | (with_reducible first | exact HB.out | apply below_alloc | apply pw_below_drewN | apply below_drew1) | exact HB.out)) hb); clear HO120; clear HO123; clear HO126; clear HB; have HO120 := n0_; have HO123 := n1_; have HO126 := n2_; have HB := n3_; clear n0_ n1_ n2_ n3_; (try clear hb); (try clear hb2); (try clear hk); (try clear hi); have p130 : 0 ≤ (0 : Int) := (by omega); have q130 : 0 < (t121.length : Int) := of_decide_eq_true (by first | (with_reducible assumption) | assumption); obtain ⟨ad130, e130, hx130_0, hx130_1⟩ := at_T34 (Kd.R_reads' HO123.out).2.2 0 p130 q130; cases e130; have qi130 : (0 < t121.length) = True := eq_true (by omega); (try rw [show ((0 : Int)).toNat = 0 from rfl] at hx130_0); (try rw [show 0 * 2 = 0 from rfl] at hx130_0); (try rw [Addr.add_zero'] at hx130_0); (try rw [show ((0 : Int)).toNat = 0 from rfl] at hx130_1); (try rw [show 0 * 2 = 0 from rfl] at hx130_1); (try rw [Addr.add_zero'] at hx130_1); replace p130 := eq_true p130; replace q130 := eq_true q130; obtain ⟨Ao57, co57, eo57⟩ := Kd.V_slice HO126.out; subst eo57; have hcv58 := Kd.C_string (P := Tryd.prog) (A := Ao57) (c := co57) Tryd.underlying26 Tryd.underlying5 Tryd.underlying9 (Kd.V_reads' HO126.out).2.2))
                                                go_ret
                                                exact ⟨by first | rfl | (simp [errW_none, errW_some] <;> rfl) | (simp [*, errW_none, errW_some] <;> rfl), by repeat (first | (with_reducible first | exact HB.out | apply below_alloc | apply pw_below_drewN | apply below_drew1) | exact HB.out)⟩
                                              · rw [if_neg c49] at H
                                                have c49b0 : (t129 == (wrap64 (1 + a2))) = false := beq_eq_false_iff_ne.mpr c49
                                                have c49b1 : (t129 != (wrap64 (1 + a2))) = true := bne_iff_ne.mpr c49
                                                obtain rfl := Option.some.inj H
                                                go_wp2_with (first | ((with_reducible refine gate_dst (N := 114) rfl ?_); (try (refine gate_guard (by rfl) ?_; dsimp only)); refine V_conv rfl (N := 114) rfl 9 26 5 _ rfl (x13_4 ++ (⟨#[13, 10, 98, 111, 100, 121]⟩ : ByteArray)) rfl Tryd.underlying9 Tryd.underlying26 Tryd.underlying5 (of_decide_eq_true (by first | (with_reducible assumption) | assumption)) ?_; intro v119 w59 ho60 hb; (first | rw [← Ny118.out] at ho60 | (simp only [Int.reduceToNat] at ho60; rw [← Ny118.out] at ho60)); have n0_ := Aside0.mk (Kd.V_lower (Kd.V_mono (ok' := fun k_ => True) ho60 (fun k_ hk_ => trivial)) (below_size (by repeat (first | (with_reducible first | exact HB.out | apply below_alloc | apply pw_below_drewN | apply below_drew1) | exact HB.out)))); have n1_ := Aside0.mk (below_step (by repeat (first | (with_reducible first | exact HB.out | apply below_alloc | apply pw_below_drewN | apply below_drew1) | exact HB.out)) hb); clear HB; have HO120 := n0_; have HB := n1_; clear n0_ n1_; clear hb ho60; obtain ⟨Ao61, co61, eo61⟩ := Kd.V_slice HO120.out; subst eo61) | ((with_reducible refine gate_callee (f := 13) rfl ?_); refine goesL_ (some 115) rfl rfl Tryd.func13 (by kernel_rfl) rfl #[.slice Ao61 y118.length co61] rfl (by (try simp only [List.map_toArray, List.map_cons, List.map_nil]); first | done | rfl | (simp only [List.length_drop, List.length_take]; rfl)) ?_; (with_reducible refine (head_Split.calls _ _ y118 t121 t124 _ ?side1 ?side2 ?side3 A42.out).mono ?_); (case side1 => repeat (first | exact (Kd.V_reads' HO120.out).2.2 | (with_reducible refine Kd.C_alloc ?_ _) | (with_reducible refine Kd.C_drewN ?_ _) | (with_reducible refine Kd.C_drew ?_))); (case side2 => exact (Kd.V_reads' HO120.out).2.1); (case side3 => exact shaped_below HSH.out (by repeat (first | (with_reducible first | exact HB.out | apply below_alloc | apply pw_below_drewN | apply below_drew1) | exact HB.out)) (Nat.le_refl _)); rintro e w62 ⟨v122, v125, rfl, ho0, ho1, hb⟩; refine ⟨_, rfl, ?_⟩; have n0_ := Aside0.mk (Kd.V_elder' (by (with_reducible repeat (first | apply Kd.V_alloc | apply Kd.V_drewN | apply Kd.V_drew)); exact HO120.out) (Kd.R_base ho0) hb); have n1_ := Aside0.mk (Kd.R_lower (Kd.R_mono (ok' := fun k_ => True) ho0 (fun _ hk_ => trivial)) (below_size (by repeat (first | (with_reducible first | exact HB.out | apply below_alloc | apply pw_below_drewN | apply below_drew1) | exact HB.out)))); have n2_ := Aside0.mk (Kd.V_lower (Kd.V_mono (ok' := fun k_ => some k_ ≠ (v122 : Value).ownBlock) ho1 (fun k_ hk_ => hk_.2)) (below_size (by repeat (first | (with_reducible first | exact HB.out | apply below_alloc | apply pw_below_drewN | apply below_drew1) | exact HB.out)))); have n3_ := Aside0.mk (below_step (by repeat (first | (with_reducible first | exact HB.out | apply below_alloc | apply pw_below_drewN | apply below_drew1) | exact HB.out)) hb); clear HO120; clear HB; have HO120 := n0_; have HO123 := n1_; have HO126 := n2_; have HB := n3_; clear n0_ n1_ n2_ n3_; (try clear hb); (try clear hb2); (try clear hk); (try clear hi); (try clear ho0); (try clear ho1)) | ((with_reducible refine gate_callee (f := 12) rfl ?_); refine goesL_ (some 121) rfl rfl Tryd.func12 (by kernel_rfl) rfl #[.string x7_2] rfl (by (try simp only [List.map_toArray, List.map_cons, List.map_nil]); first | done | rfl | (simp only [List.length_drop, List.length_take]; rfl)) ?_; (with_reducible refine (mailbaglaw18_upper.calls x7_2 t127 _ A43.out).mono ?_); rintro e w63 ⟨rfl, hb⟩; refine ⟨_, rfl, ?_⟩; have n0_ := Aside0.mk (Kd.V_below (by (with_reducible repeat (first | apply Kd.V_alloc | apply Kd.V_drewN | apply Kd.V_drew)); exact HO120.out) hb); have n1_ := Aside0.mk (Kd.R_below (by (with_reducible repeat (first | apply Kd.R_alloc | apply Kd.R_drewN | apply Kd.R_drew)); exact HO123.out) hb); have n2_ := Aside0.mk (Kd.V_below (by (with_reducible repeat (first | apply Kd.V_alloc | apply Kd.V_drewN | apply Kd.V_drew)); exact HO126.out) hb); have n3_ := Aside0.mk (below_step (by repeat (first | (with_reducible first | exact HB.out | apply below_alloc | apply pw_below_drewN | apply below_drew1) | exact HB.out)) hb); clear HO120; clear HO123; clear HO126; clear HB; have HO120 := n0_; have HO123 := n1_; have HO126 := n2_; have HB := n3_; clear n0_ n1_ n2_ n3_; (try clear hb); (try clear hb2); (try clear hk); (try clear hi); obtain ⟨Ao64, co64, eo64⟩ := Kd.R_slice HO123.out; subst eo64) | ((with_reducible refine gate_callee (f := 14) rfl ?_); refine goesL_ (some 122) rfl rfl Tryd.func14 (by kernel_rfl) rfl #[.slice Ao64 t121.length co64, .string t127] rfl (by (try simp only [List.map_toArray, List.map_cons, List.map_nil]); first | done | rfl | (simp only [List.length_drop, List.length_take]; rfl)) ?_; (with_reducible refine (head_Get.calls k4 _ _ t121 t127 t128 t129 _ ?side1 ?side2 A44.out).mono ?_); (case side1 => repeat (first | exact (Kd.R_reads' HO123.out).2.2 | (with_reducible refine Kd.C_alloc ?_ _) | (with_reducible refine Kd.C_drewN ?_ _) | (with_reducible refine Kd.C_drew ?_))); (case side2 => exact (Kd.R_reads' HO123.out).2.1); rintro e w65 ⟨rfl, hb⟩; refine ⟨_, rfl, ?_⟩; have n0_ := Aside0.mk (Kd.V_below (by (with_reducible repeat (first | apply Kd.V_alloc | apply Kd.V_drewN | apply Kd.V_drew)); exact HO120.out) hb); have n1_ := Aside0.mk (Kd.R_below (by (with_reducible repeat (first | apply Kd.R_alloc | apply Kd.R_drewN | apply Kd.R_drew)); exact HO123.out) hb); have n2_ := Aside0.mk (Kd.V_below (by (with_reducible repeat (first | apply Kd.V_alloc | apply Kd.V_drewN | apply Kd.V_drew)); exact HO126.out) hb); have n3_ := Aside0.mk (below_step (by repeat (first | (with_reducible first | exact HB.out | apply below_alloc | apply pw_below_drewN | apply below_drew1) | exact HB.out)) hb); clear HO120; clear HO123; clear HO126; clear HB; have HO120 := n0_; have HO123 := n1_; have HO126 := n2_; have HB := n3_; clear n0_ n1_ n2_ n3_; (try clear hb); (try clear hb2); (try clear hk); (try clear hi); have p130 : 0 ≤ (0 : Int) := (by omega); have q130 : 0 < (t121.length : Int) := of_decide_eq_true (by first | (with_reducible assumption) | assumption); obtain ⟨ad130, e130, hx130_0, hx130_1⟩ := at_T34 (Kd.R_reads' HO123.out).2.2 0 p130 q130; cases e130; have qi130 : (0 < t121.length) = True := eq_true (by omega); (try rw [show ((0 : Int)).toNat = 0 from rfl] at hx130_0); (try rw [show 0 * 2 = 0 from rfl] at hx130_0); (try rw [Addr.add_zero'] at hx130_0); (try rw [show ((0 : Int)).toNat = 0 from rfl] at hx130_1); (try rw [show 0 * 2 = 0 from rfl] at hx130_1); (try rw [Addr.add_zero'] at hx130_1); replace p130 := eq_true p130; replace q130 := eq_true q130))
                                                go_ret
                                                exact ⟨by first | rfl | (simp [errW_none, errW_some] <;> rfl) | (simp [*, errW_none, errW_some] <;> rfl), by repeat (first | (with_reducible first | exact HB.out | apply below_alloc | apply pw_below_drewN | apply below_drew1) | exact HB.out)⟩
                                            · rw [if_neg c48] at H
                                              have c48b0 : (t128.toList == x9_3.toList) = false := beq_eq_false_iff_ne.mpr c48
                                              have c48b1 : (t128.toList != x9_3.toList) = true := bne_iff_ne.mpr c48
                                              obtain rfl := Option.some.inj H
                                              go_wp2_with (first | ((with_reducible refine gate_dst (N := 114) rfl ?_); (try (refine gate_guard (by rfl) ?_; dsimp only)); refine V_conv rfl (N := 114) rfl 9 26 5 _ rfl (x13_4 ++ (⟨#[13, 10, 98, 111, 100, 121]⟩ : ByteArray)) rfl Tryd.underlying9 Tryd.underlying26 Tryd.underlying5 (of_decide_eq_true (by first | (with_reducible assumption) | assumption)) ?_; intro v119 w66 ho67 hb; (first | rw [← Ny118.out] at ho67 | (simp only [Int.reduceToNat] at ho67; rw [← Ny118.out] at ho67)); have n0_ := Aside0.mk (Kd.V_lower (Kd.V_mono (ok' := fun k_ => True) ho67 (fun k_ hk_ => trivial)) (below_size (by repeat (first | (with_reducible first | exact HB.out | apply below_alloc | apply pw_below_drewN | apply below_drew1) | exact HB.out)))); have n1_ := Aside0.mk (below_step (by repeat (first | (with_reducible first | exact HB.out | apply below_alloc | apply pw_below_drewN | apply below_drew1) | exact HB.out)) hb); clear HB; have HO120 := n0_; have HB := n1_; clear n0_ n1_; clear hb ho67; obtain ⟨Ao68, co68, eo68⟩ := Kd.V_slice HO120.out; subst eo68) | ((with_reducible refine gate_callee (f := 13) rfl ?_); refine goesL_ (some 115) rfl rfl Tryd.func13 (by kernel_rfl) rfl #[.slice Ao68 y118.length co68] rfl (by (try simp only [List.map_toArray, List.map_cons, List.map_nil]); first | done | rfl | (simp only [List.length_drop, List.length_take]; rfl)) ?_; (with_reducible refine (head_Split.calls _ _ y118 t121 t124 _ ?side1 ?side2 ?side3 A42.out).mono ?_); (case side1 => repeat (first | exact (Kd.V_reads' HO120.out).2.2 | (with_reducible refine Kd.C_alloc ?_ _) | (with_reducible refine Kd.C_drewN ?_ _) | (with_reducible refine Kd.C_drew ?_))); (case side2 => exact (Kd.V_reads' HO120.out).2.1); (case side3 => exact shaped_below HSH.out (by repeat (first | (with_reducible first | exact HB.out | apply below_alloc | apply pw_below_drewN | apply below_drew1) | exact HB.out)) (Nat.le_refl _)); rintro e w69 ⟨v122, v125, rfl, ho0, ho1, hb⟩; refine ⟨_, rfl, ?_⟩; have n0_ := Aside0.mk (Kd.V_elder' (by (with_reducible repeat (first | apply Kd.V_alloc | apply Kd.V_drewN | apply Kd.V_drew)); exact HO120.out) (Kd.R_base ho0) hb); have n1_ := Aside0.mk (Kd.R_lower (Kd.R_mono (ok' := fun k_ => True) ho0 (fun _ hk_ => trivial)) (below_size (by repeat (first | (with_reducible first | exact HB.out | apply below_alloc | apply pw_below_drewN | apply below_drew1) | exact HB.out)))); have n2_ := Aside0.mk (Kd.V_lower (Kd.V_mono (ok' := fun k_ => some k_ ≠ (v122 : Value).ownBlock) ho1 (fun k_ hk_ => hk_.2)) (below_size (by repeat (first | (with_reducible first | exact HB.out | apply below_alloc | apply pw_below_drewN | apply below_drew1) | exact HB.out)))); have n3_ := Aside0.mk (below_step (by repeat (first | (with_reducible first | exact HB.out | apply below_alloc | apply pw_below_drewN | apply below_drew1) | exact HB.out)) hb); clear HO120; clear HB; have HO120 := n0_; have HO123 := n1_; have HO126 := n2_; have HB := n3_; clear n0_ n1_ n2_ n3_; (try clear hb); (try clear hb2); (try clear hk); (try clear hi); (try clear ho0); (try clear ho1)) | ((with_reducible refine gate_callee (f := 12) rfl ?_); refine goesL_ (some 121) rfl rfl Tryd.func12 (by kernel_rfl) rfl #[.string x7_2] rfl (by (try simp only [List.map_toArray, List.map_cons, List.map_nil]); first | done | rfl | (simp only [List.length_drop, List.length_take]; rfl)) ?_; (with_reducible refine (mailbaglaw18_upper.calls x7_2 t127 _ A43.out).mono ?_); rintro e w70 ⟨rfl, hb⟩; refine ⟨_, rfl, ?_⟩; have n0_ := Aside0.mk (Kd.V_below (by (with_reducible repeat (first | apply Kd.V_alloc | apply Kd.V_drewN | apply Kd.V_drew)); exact HO120.out) hb); have n1_ := Aside0.mk (Kd.R_below (by (with_reducible repeat (first | apply Kd.R_alloc | apply Kd.R_drewN | apply Kd.R_drew)); exact HO123.out) hb); have n2_ := Aside0.mk (Kd.V_below (by (with_reducible repeat (first | apply Kd.V_alloc | apply Kd.V_drewN | apply Kd.V_drew)); exact HO126.out) hb); have n3_ := Aside0.mk (below_step (by repeat (first | (with_reducible first | exact HB.out | apply below_alloc | apply pw_below_drewN | apply below_drew1) | exact HB.out)) hb); clear HO120; clear HO123; clear HO126; clear HB; have HO120 := n0_; have HO123 := n1_; have HO126 := n2_; have HB := n3_; clear n0_ n1_ n2_ n3_; (try clear hb); (try clear hb2); (try clear hk); (try clear hi); obtain ⟨Ao71, co71, eo71⟩ := Kd.R_slice HO123.out; subst eo71) | ((with_reducible refine gate_callee (f := 14) rfl ?_); refine goesL_ (some 122) rfl rfl Tryd.func14 (by kernel_rfl) rfl #[.slice Ao71 t121.length co71, .string t127] rfl (by (try simp only [List.map_toArray, List.map_cons, List.map_nil]); first | done | rfl | (simp only [List.length_drop, List.length_take]; rfl)) ?_; (with_reducible refine (head_Get.calls k4 _ _ t121 t127 t128 t129 _ ?side1 ?side2 A44.out).mono ?_); (case side1 => repeat (first | exact (Kd.R_reads' HO123.out).2.2 | (with_reducible refine Kd.C_alloc ?_ _) | (with_reducible refine Kd.C_drewN ?_ _) | (with_reducible refine Kd.C_drew ?_))); (case side2 => exact (Kd.R_reads' HO123.out).2.1); rintro e w72 ⟨rfl, hb⟩; refine ⟨_, rfl, ?_⟩; have n0_ := Aside0.mk (Kd.V_below (by (with_reducible repeat (first | apply Kd.V_alloc | apply Kd.V_drewN | apply Kd.V_drew)); exact HO120.out) hb); have n1_ := Aside0.mk (Kd.R_below (by (with_reducible repeat (first | apply Kd.R_alloc | apply Kd.R_drewN | apply Kd.R_drew)); exact HO123.out) hb); have n2_ := Aside0.mk (Kd.V_below (by (with_reducible repeat (first | apply Kd.V_alloc | apply Kd.V_drewN | apply Kd.V_drew)); exact HO126.out) hb); have n3_ := Aside0.mk (below_step (by repeat (first | (with_reducible first | exact HB.out | apply below_alloc | apply pw_below_drewN | apply below_drew1) | exact HB.out)) hb); clear HO120; clear HO123; clear HO126; clear HB; have HO120 := n0_; have HO123 := n1_; have HO126 := n2_; have HB := n3_; clear n0_ n1_ n2_ n3_; (try clear hb); (try clear hb2); (try clear hk); (try clear hi); have p130 : 0 ≤ (0 : Int) := (by omega); have q130 : 0 < (t121.length : Int) := of_decide_eq_true (by first | (with_reducible assumption) | assumption); obtain ⟨ad130, e130, hx130_0, hx130_1⟩ := at_T34 (Kd.R_reads' HO123.out).2.2 0 p130 q130; cases e130; have qi130 : (0 < t121.length) = True := eq_true (by omega); (try rw [show ((0 : Int)).toNat = 0 from rfl] at hx130_0); (try rw [show 0 * 2 = 0 from rfl] at hx130_0); (try rw [Addr.add_zero'] at hx130_0); (try rw [show ((0 : Int)).toNat = 0 from rfl] at hx130_1); (try rw [show 0 * 2 = 0 from rfl] at hx130_1); (try rw [Addr.add_zero'] at hx130_1); replace p130 := eq_true p130; replace q130 := eq_true q130))
                                              go_ret
                                              exact ⟨by first | rfl | (simp [errW_none, errW_some] <;> rfl) | (simp [*, errW_none, errW_some] <;> rfl), by repeat (first | (with_reducible first | exact HB.out | apply below_alloc | apply pw_below_drewN | apply below_drew1) | exact HB.out)⟩
                                          · rw [if_neg c47] at H
                                            have c47b0 : (((rd_T34 t121 0).f1).toList == x9_3.toList) = false := beq_eq_false_iff_ne.mpr c47
                                            have c47b1 : (((rd_T34 t121 0).f1).toList != x9_3.toList) = true := bne_iff_ne.mpr c47
                                            obtain rfl := Option.some.inj H
                                            go_wp2_with (first | ((with_reducible refine gate_dst (N := 114) rfl ?_); (try (refine gate_guard (by rfl) ?_; dsimp only)); refine V_conv rfl (N := 114) rfl 9 26 5 _ rfl (x13_4 ++ (⟨#[13, 10, 98, 111, 100, 121]⟩ : ByteArray)) rfl Tryd.underlying9 Tryd.underlying26 Tryd.underlying5 (of_decide_eq_true (by first | (with_reducible assumption) | assumption)) ?_; intro v119 w73 ho74 hb; (first | rw [← Ny118.out] at ho74 | (simp only [Int.reduceToNat] at ho74; rw [← Ny118.out] at ho74)); have n0_ := Aside0.mk (Kd.V_lower (Kd.V_mono (ok' := fun k_ => True) ho74 (fun k_ hk_ => trivial)) (below_size (by repeat (first | (with_reducible first | exact HB.out | apply below_alloc | apply pw_below_drewN | apply below_drew1) | exact HB.out)))); have n1_ := Aside0.mk (below_step (by repeat (first | (with_reducible first | exact HB.out | apply below_alloc | apply pw_below_drewN | apply below_drew1) | exact HB.out)) hb); clear HB; have HO120 := n0_; have HB := n1_; clear n0_ n1_; clear hb ho74; obtain ⟨Ao75, co75, eo75⟩ := Kd.V_slice HO120.out; subst eo75) | ((with_reducible refine gate_callee (f := 13) rfl ?_); refine goesL_ (some 115) rfl rfl Tryd.func13 (by kernel_rfl) rfl #[.slice Ao75 y118.length co75] rfl (by (try simp only [List.map_toArray, List.map_cons, List.map_nil]); first | done | rfl | (simp only [List.length_drop, List.length_take]; rfl)) ?_; (with_reducible refine (head_Split.calls _ _ y118 t121 t124 _ ?side1 ?side2 ?side3 A42.out).mono ?_); (case side1 => repeat (first | exact (Kd.V_reads' HO120.out).2.2 | (with_reducible refine Kd.C_alloc ?_ _) | (with_reducible refine Kd.C_drewN ?_ _) | (with_reducible refine Kd.C_drew ?_))); (case side2 => exact (Kd.V_reads' HO120.out).2.1); (case side3 => exact shaped_below HSH.out (by repeat (first | (with_reducible first | exact HB.out | apply below_alloc | apply pw_below_drewN | apply below_drew1) | exact HB.out)) (Nat.le_refl _)); rintro e w76 ⟨v122, v125, rfl, ho0, ho1, hb⟩; refine ⟨_, rfl, ?_⟩; have n0_ := Aside0.mk (Kd.V_elder' (by (with_reducible repeat (first | apply Kd.V_alloc | apply Kd.V_drewN | apply Kd.V_drew)); exact HO120.out) (Kd.R_base ho0) hb); have n1_ := Aside0.mk (Kd.R_lower (Kd.R_mono (ok' := fun k_ => True) ho0 (fun _ hk_ => trivial)) (below_size (by repeat (first | (with_reducible first | exact HB.out | apply below_alloc | apply pw_below_drewN | apply below_drew1) | exact HB.out)))); have n2_ := Aside0.mk (Kd.V_lower (Kd.V_mono (ok' := fun k_ => some k_ ≠ (v122 : Value).ownBlock) ho1 (fun k_ hk_ => hk_.2)) (below_size (by repeat (first | (with_reducible first | exact HB.out | apply below_alloc | apply pw_below_drewN | apply below_drew1) | exact HB.out)))); have n3_ := Aside0.mk (below_step (by repeat (first | (with_reducible first | exact HB.out | apply below_alloc | apply pw_below_drewN | apply below_drew1) | exact HB.out)) hb); clear HO120; clear HB; have HO120 := n0_; have HO123 := n1_; have HO126 := n2_; have HB := n3_; clear n0_ n1_ n2_ n3_; (try clear hb); (try clear hb2); (try clear hk); (try clear hi); (try clear ho0); (try clear ho1)) | ((with_reducible refine gate_callee (f := 12) rfl ?_); refine goesL_ (some 121) rfl rfl Tryd.func12 (by kernel_rfl) rfl #[.string x7_2] rfl (by (try simp only [List.map_toArray, List.map_cons, List.map_nil]); first | done | rfl | (simp only [List.length_drop, List.length_take]; rfl)) ?_; (with_reducible refine (mailbaglaw18_upper.calls x7_2 t127 _ A43.out).mono ?_); rintro e w77 ⟨rfl, hb⟩; refine ⟨_, rfl, ?_⟩; have n0_ := Aside0.mk (Kd.V_below (by (with_reducible repeat (first | apply Kd.V_alloc | apply Kd.V_drewN | apply Kd.V_drew)); exact HO120.out) hb); have n1_ := Aside0.mk (Kd.R_below (by (with_reducible repeat (first | apply Kd.R_alloc | apply Kd.R_drewN | apply Kd.R_drew)); exact HO123.out) hb); have n2_ := Aside0.mk (Kd.V_below (by (with_reducible repeat (first | apply Kd.V_alloc | apply Kd.V_drewN | apply Kd.V_drew)); exact HO126.out) hb); have n3_ := Aside0.mk (below_step (by repeat (first | (with_reducible first | exact HB.out | apply below_alloc | apply pw_below_drewN | apply below_drew1) | exact HB.out)) hb); clear HO120; clear HO123; clear HO126; clear HB; have HO120 := n0_; have HO123 := n1_; have HO126 := n2_; have HB := n3_; clear n0_ n1_ n2_ n3_; (try clear hb); (try clear hb2); (try clear hk); (try clear hi); obtain ⟨Ao78, co78, eo78⟩ := Kd.R_slice HO123.out; subst eo78) | ((with_reducible refine gate_callee (f := 14) rfl ?_); refine goesL_ (some 122) rfl rfl Tryd.func14 (by kernel_rfl) rfl #[.slice Ao78 t121.length co78, .string t127] rfl (by (try simp only [List.map_toArray, List.map_cons, List.map_nil]); first | done | rfl | (simp only [List.length_drop, List.length_take]; rfl)) ?_; (with_reducible refine (head_Get.calls k4 _ _ t121 t127 t128 t129 _ ?side1 ?side2 A44.out).mono ?_); (case side1 => repeat (first | exact (Kd.R_reads' HO123.out).2.2 | (with_reducible refine Kd.C_alloc ?_ _) | (with_reducible refine Kd.C_drewN ?_ _) | (with_reducible refine Kd.C_drew ?_))); (case side2 => exact (Kd.R_reads' HO123.out).2.1); rintro e w79 ⟨rfl, hb⟩; refine ⟨_, rfl, ?_⟩; have n0_ := Aside0.mk (Kd.V_below (by (with_reducible repeat (first | apply Kd.V_alloc | apply Kd.V_drewN | apply Kd.V_drew)); exact HO120.out) hb); have n1_ := Aside0.mk (Kd.R_below (by (with_reducible repeat (first | apply Kd.R_alloc | apply Kd.R_drewN | apply Kd.R_drew)); exact HO123.out) hb); have n2_ := Aside0.mk (Kd.V_below (by (with_reducible repeat (first | apply Kd.V_alloc | apply Kd.V_drewN | apply Kd.V_drew)); exact HO126.out) hb); have n3_ := Aside0.mk (below_step (by repeat (first | (with_reducible first | exact HB.out | apply below_alloc | apply pw_below_drewN | apply below_drew1) | exact HB.out)) hb); clear HO120; clear HO123; clear HO126; clear HB; have HO120 := n0_; have HO123 := n1_; have HO126 := n2_; have HB := n3_; clear n0_ n1_ n2_ n3_; (try clear hb); (try clear hb2); (try clear hk); (try clear hi); have p130 : 0 ≤ (0 : Int) := (by omega); have q130 : 0 < (t121.length : Int) := of_decide_eq_true (by first | (with_reducible assumption) | assumption); obtain ⟨ad130, e130, hx130_0, hx130_1⟩ := at_T34 (Kd.R_reads' HO123.out).2.2 0 p130 q130; cases e130; have qi130 : (0 < t121.length) = True := eq_true (by omega); (try rw [show ((0 : Int)).toNat = 0 from rfl] at hx130_0); (try rw [show 0 * 2 = 0 from rfl] at hx130_0); (try rw [Addr.add_zero'] at hx130_0); (try rw [show ((0 : Int)).toNat = 0 from rfl] at hx130_1); (try rw [show 0 * 2 = 0 from rfl] at hx130_1); (try rw [Addr.add_zero'] at hx130_1); replace p130 := eq_true p130; replace q130 := eq_true q130))
                                            go_ret
                                            exact ⟨by first | rfl | (simp [errW_none, errW_some] <;> rfl) | (simp [*, errW_none, errW_some] <;> rfl), by repeat (first | (with_reducible first | exact HB.out | apply below_alloc | apply pw_below_drewN | apply below_drew1) | exact HB.out)⟩
                                        · rw [if_neg c46] at H
                                          exact absurd H (by simp)
                                      · rw [if_neg c45] at H
                                        have c45b0 : ((t121.length : Int) == (wrap64 (1 + a2))) = false := beq_eq_false_iff_ne.mpr c45
                                        have c45b1 : ((t121.length : Int) != (wrap64 (1 + a2))) = true := bne_iff_ne.mpr c45
                                        obtain rfl := Option.some.inj H
                                        go_wp2_with (first | ((with_reducible refine gate_dst (N := 114) rfl ?_); (try (refine gate_guard (by rfl) ?_; dsimp only)); refine V_conv rfl (N := 114) rfl 9 26 5 _ rfl (x13_4 ++ (⟨#[13, 10, 98, 111, 100, 121]⟩ : ByteArray)) rfl Tryd.underlying9 Tryd.underlying26 Tryd.underlying5 (of_decide_eq_true (by first | (with_reducible assumption) | assumption)) ?_; intro v119 w80 ho81 hb; (first | rw [← Ny118.out] at ho81 | (simp only [Int.reduceToNat] at ho81; rw [← Ny118.out] at ho81)); have n0_ := Aside0.mk (Kd.V_lower (Kd.V_mono (ok' := fun k_ => True) ho81 (fun k_ hk_ => trivial)) (below_size (by repeat (first | (with_reducible first | exact HB.out | apply below_alloc | apply pw_below_drewN | apply below_drew1) | exact HB.out)))); have n1_ := Aside0.mk (below_step (by repeat (first | (with_reducible first | exact HB.out | apply below_alloc | apply pw_below_drewN | apply below_drew1) | exact HB.out)) hb); clear HB; have HO120 := n0_; have HB := n1_; clear n0_ n1_; clear hb ho81; obtain ⟨Ao82, co82, eo82⟩ := Kd.V_slice HO120.out; subst eo82) | ((with_reducible refine gate_callee (f := 13) rfl ?_); refine goesL_ (some 115) rfl rfl Tryd.func13 (by kernel_rfl) rfl #[.slice Ao82 y118.length co82] rfl (by (try simp only [List.map_toArray, List.map_cons, List.map_nil]); first | done | rfl | (simp only [List.length_drop, List.length_take]; rfl)) ?_; (with_reducible refine (head_Split.calls _ _ y118 t121 t124 _ ?side1 ?side2 ?side3 A42.out).mono ?_); (case side1 => repeat (first | exact (Kd.V_reads' HO120.out).2.2 | (with_reducible refine Kd.C_alloc ?_ _) | (with_reducible refine Kd.C_drewN ?_ _) | (with_reducible refine Kd.C_drew ?_))); (case side2 => exact (Kd.V_reads' HO120.out).2.1); (case side3 => exact shaped_below HSH.out (by repeat (first | (with_reducible first | exact HB.out | apply below_alloc | apply pw_below_drewN | apply below_drew1) | exact HB.out)) (Nat.le_refl _)); rintro e w83 ⟨v122, v125, rfl, ho0, ho1, hb⟩; refine ⟨_, rfl, ?_⟩; have n0_ := Aside0.mk (Kd.V_elder' (by (with_reducible repeat (first | apply Kd.V_alloc | apply Kd.V_drewN | apply Kd.V_drew)); exact HO120.out) (Kd.R_base ho0) hb); have n1_ := Aside0.mk (Kd.R_lower (Kd.R_mono (ok' := fun k_ => True) ho0 (fun _ hk_ => trivial)) (below_size (by repeat (first | (with_reducible first | exact HB.out | apply below_alloc | apply pw_below_drewN | apply below_drew1) | exact HB.out)))); have n2_ := Aside0.mk (Kd.V_lower (Kd.V_mono (ok' := fun k_ => some k_ ≠ (v122 : Value).ownBlock) ho1 (fun k_ hk_ => hk_.2)) (below_size (by repeat (first | (with_reducible first | exact HB.out | apply below_alloc | apply pw_below_drewN | apply below_drew1) | exact HB.out)))); have n3_ := Aside0.mk (below_step (by repeat (first | (with_reducible first | exact HB.out | apply below_alloc | apply pw_below_drewN | apply below_drew1) | exact HB.out)) hb); clear HO120; clear HB; have HO120 := n0_; have HO123 := n1_; have HO126 := n2_; have HB := n3_; clear n0_ n1_ n2_ n3_; (try clear hb); (try clear hb2); (try clear hk); (try clear hi); (try clear ho0); (try clear ho1)) | ((with_reducible refine gate_callee (f := 12) rfl ?_); refine goesL_ (some 121) rfl rfl Tryd.func12 (by kernel_rfl) rfl #[.string x7_2] rfl (by (try simp only [List.map_toArray, List.map_cons, List.map_nil]); first | done | rfl | (simp only [List.length_drop, List.length_take]; rfl)) ?_; (with_reducible refine (mailbaglaw18_upper.calls x7_2 t127 _ A43.out).mono ?_); rintro e w84 ⟨rfl, hb⟩; refine ⟨_, rfl, ?_⟩; have n0_ := Aside0.mk (Kd.V_below (by (with_reducible repeat (first | apply Kd.V_alloc | apply Kd.V_drewN | apply Kd.V_drew)); exact HO120.out) hb); have n1_ := Aside0.mk (Kd.R_below (by (with_reducible repeat (first | apply Kd.R_alloc | apply Kd.R_drewN | apply Kd.R_drew)); exact HO123.out) hb); have n2_ := Aside0.mk (Kd.V_below (by (with_reducible repeat (first | apply Kd.V_alloc | apply Kd.V_drewN | apply Kd.V_drew)); exact HO126.out) hb); have n3_ := Aside0.mk (below_step (by repeat (first | (with_reducible first | exact HB.out | apply below_alloc | apply pw_below_drewN | apply below_drew1) | exact HB.out)) hb); clear HO120; clear HO123; clear HO126; clear HB; have HO120 := n0_; have HO123 := n1_; have HO126 := n2_; have HB := n3_; clear n0_ n1_ n2_ n3_; (try clear hb); (try clear hb2); (try clear hk); (try clear hi); obtain ⟨Ao85, co85, eo85⟩ := Kd.R_slice HO123.out; subst eo85) | ((with_reducible refine gate_callee (f := 14) rfl ?_); refine goesL_ (some 122) rfl rfl Tryd.func14 (by kernel_rfl) rfl #[.slice Ao85 t121.length co85, .string t127] rfl (by (try simp only [List.map_toArray, List.map_cons, List.map_nil]); first | done | rfl | (simp only [List.length_drop, List.length_take]; rfl)) ?_; (with_reducible refine (head_Get.calls k4 _ _ t121 t127 t128 t129 _ ?side1 ?side2 A44.out).mono ?_); (case side1 => repeat (first | exact (Kd.R_reads' HO123.out).2.2 | (with_reducible refine Kd.C_alloc ?_ _) | (with_reducible refine Kd.C_drewN ?_ _) | (with_reducible refine Kd.C_drew ?_))); (case side2 => exact (Kd.R_reads' HO123.out).2.1); rintro e w86 ⟨rfl, hb⟩; refine ⟨_, rfl, ?_⟩; have n0_ := Aside0.mk (Kd.V_below (by (with_reducible repeat (first | apply Kd.V_alloc | apply Kd.V_drewN | apply Kd.V_drew)); exact HO120.out) hb); have n1_ := Aside0.mk (Kd.R_below (by (with_reducible repeat (first | apply Kd.R_alloc | apply Kd.R_drewN | apply Kd.R_drew)); exact HO123.out) hb); have n2_ := Aside0.mk (Kd.V_below (by (with_reducible repeat (first | apply Kd.V_alloc | apply Kd.V_drewN | apply Kd.V_drew)); exact HO126.out) hb); have n3_ := Aside0.mk (below_step (by repeat (first | (with_reducible first | exact HB.out | apply below_alloc | apply pw_below_drewN | apply below_drew1) | exact HB.out)) hb); clear HO120; clear HO123; clear HO126; clear HB; have HO120 := n0_; have HO123 := n1_; have HO126 := n2_; have HB := n3_; clear n0_ n1_ n2_ n3_; (try clear hb); (try clear hb2); (try clear hk); (try clear hi)))
                                        go_ret
                                        exact ⟨by first | rfl | (simp [errW_none, errW_some] <;> rfl) | (simp [*, errW_none, errW_some] <;> rfl), by repeat (first | (with_reducible first | exact HB.out | apply below_alloc | apply pw_below_drewN | apply below_drew1) | exact HB.out)⟩
                                    · rw [if_neg c41] at H
                                      exact absurd H (by simp)
                                  · rw [if_neg c40] at H
                                    exact absurd H (by simp)
                          · rw [if_neg c34] at H
                            exact absurd H (by simp)
                        · rw [if_neg c33] at H
                          exact absurd H (by simp)
                      · rw [if_neg c32] at H
                        exact absurd H (by simp)
  · replace c5 := Bool.eq_false_iff.mpr c5
    subst c5
    have H1 : (some false) = some r := by rw [if_neg (show ¬ (false = true) by decide)] at H; exact H
    clear H
    have H := H1
    clear H1
    obtain rfl := Option.some.inj H
    go_enter Tryd.func4, Tryd.ntmps4
    go_wp2_with (first | ((with_reducible refine gate_callee (f := 9) rfl ?_); refine goesL_ (some 19) rfl rfl Tryd.func9 (by kernel_rfl) rfl #[] rfl (by (try simp only [List.map_toArray, List.map_cons, List.map_nil]); first | done | rfl | (simp only [List.length_drop, List.length_take]; rfl)) ?_; (with_reducible refine (mailbaglaw18_known.calls  false _ ?side1 A4.out).mono ?_); (case side1 => exact shaped_below HSH.out (by repeat (first | (with_reducible first | exact HB.out | apply below_alloc | apply pw_below_drewN | apply below_drew1) | exact HB.out)) (Nat.le_refl _)); rintro e w87 ⟨rfl, hb⟩; refine ⟨_, rfl, ?_⟩; have n0_ := Aside0.mk (below_step (by repeat (first | (with_reducible first | exact HB.out | apply below_alloc | apply pw_below_drewN | apply below_drew1) | exact HB.out)) hb); clear HB; have HB := n0_; clear n0_; (try clear hb); (try clear hb2); (try clear hk); (try clear hi)))
    go_ret
    exact ⟨by first | rfl | (simp [errW_none, errW_some] <;> rfl) | (simp [*, errW_none, errW_some] <;> rfl), by repeat (first | (with_reducible first | exact HB.out | apply below_alloc | apply pw_below_drewN | apply below_drew1) | exact HB.out)⟩

end Go.Proofs.YtfpcngoonfbphaaDoor.XH

/- The law HeadFolds: its plain statement and its walk. -/
set_option linter.unusedVariables false
set_option linter.unusedSimpArgs false
namespace Go.Proofs.YtfpcngoonfbphaaDoor.XH
open Go.RowKit Go.Proofs.YtfpcngoonfbphaaDoorW.PrintWords Go.Proofs.YtfpcngoonfbphaaDoor Go.Proofs.YtfpcngoonfbphaaDoor.Pl

def letB (b : UInt8) : UInt8 := UInt8.ofNat (97 + b.toNat % 26)
def prB (b : UInt8) : UInt8 := UInt8.ofNat (32 + b.toNat % 95)
theorem letB_n (b : UInt8) : (letB b).toNat = 97 + b.toNat % 26 := by
  unfold letB
  rw [UInt8.toNat_ofNat']
  omega
theorem prB_n (b : UInt8) : (prB b).toNat = 32 + b.toNat % 95 := by
  unfold prB
  rw [UInt8.toNat_ofNat']
  omega
def first : Bs := [32, 102, 105, 114, 115, 116]
def agn : Bs := [32, 97, 103, 97, 105, 110]
def bodyB : Bs := [98, 111, 100, 121]
def foldL (p : Bs) : Bs := 9 :: p.map prB
def vOf (ps : List Bs) : Bs := first ++ ps.flatMap (fun p => 13 :: 10 :: foldL p)
def again (n : Bs) : Bs := upp n ++ 58 :: agn

/-! ### The names -/
def lower (n : Bs) : Prop := ∀ c ∈ n, 97 ≤ c.toNat ∧ c.toNat ≤ 122
theorem lower_let (n : Bs) : lower (n.map letB) := by
  intro c hc
  obtain ⟨b, _, rfl⟩ := List.mem_map.1 hc
  rw [letB_n]
  omega
theorem upp_n {c : UInt8} (h : 97 ≤ c.toNat ∧ c.toNat ≤ 122) : (uppB c).toNat = c.toNat - 32 := upp_sub c h.1 h.2
theorem ne_of_n {c d : UInt8} (h : c.toNat ≠ d.toNat) : c ≠ d := fun e => h (by rw [e])
theorem name_lower {n : Bs} (h : lower n) (h0 : n ≠ []) (hl : n.length ≤ 40) : nameOk n = true := by
  have he : n.isEmpty = false := by cases n with | nil => exact absurd rfl h0 | cons a b => rfl
  unfold nameOk
  rw [he, decide_eq_true (show n.length ≤ 76 by omega)]
  simp only [Bool.not_false, Bool.and_true]
  rw [List.all_eq_true]
  intro c hc
  have := h c hc
  rw [okC_iff]
  omega
theorem name_upper {n : Bs} (h : lower n) (h0 : n ≠ []) (hl : n.length ≤ 40) : nameOk (upp n) = true := by
  have he : (upp n).isEmpty = false := by cases n with | nil => exact absurd rfl h0 | cons a b => rfl
  unfold nameOk
  rw [he, decide_eq_true (show (upp n).length ≤ 76 by simp [upp]; omega)]
  simp only [Bool.not_false, Bool.and_true]
  rw [List.all_eq_true]
  intro c hc
  obtain ⟨b, hb, rfl⟩ := List.mem_map.1 hc
  have h1 := h b hb
  have h2 := upp_n h1
  rw [okC_iff]
  omega
theorem no58_lower {n : Bs} (h : lower n) : ∀ c ∈ n, c ≠ 58 := by
  intro c hc
  have := h c hc
  exact ne_of_n (by rw [show (58 : UInt8).toNat = 58 from rfl]; omega)
theorem no58_upper {n : Bs} (h : lower n) : ∀ c ∈ upp n, c ≠ 58 := by
  intro c hc
  obtain ⟨b, hb, rfl⟩ := List.mem_map.1 hc
  have h1 := h b hb
  have h2 := upp_n h1
  exact ne_of_n (by rw [show (58 : UInt8).toNat = 58 from rfl]; omega)
theorem low_upp {n : Bs} (h : lower n) : low (upp n) = low n := by
  unfold low upp
  rw [List.map_map]
  apply List.map_congr_left
  intro c hc
  have h1 := h c hc
  have h2 := upp_n h1
  show lowB (uppB c) = lowB c
  rw [low_no c (by omega)]
  apply UInt8.toNat_inj.1
  rw [low_add _ (by omega) (by omega)]
  omega
/-- No byte 13. -/
theorem noNL_of : ∀ (l : Bs), (∀ c ∈ l, c ≠ 13) → noNL l = true := by
  intro l
  induction l with
  | nil => intro _; rfl
  | cons c t ih =>
    intro h
    unfold noNL
    rw [ih (fun x hx => h x (List.mem_cons_of_mem _ hx)), show (c == 13) = false from beq_eq_false_iff_ne.2 (h c List.mem_cons_self)]
    rfl
theorem ne13 {c : UInt8} (h : 14 ≤ c.toNat) : c ≠ 13 := ne_of_n (by rw [show (13 : UInt8).toNat = 13 from rfl]; omega)

/-! ### What Split says of the text -/
theorem fold_join : ∀ (ps : List Bs) (a : Bs), (a ++ ps.flatMap (fun p => 13 :: 10 :: foldL p)) ++ [13, 10] = joinL (a :: ps.map foldL) := by
  intro ps
  induction ps with
  | nil => intro a; simp [joinL]
  | cons p ps ih =>
    intro a
    rw [List.flatMap_cons, List.map_cons, joinL_cons, ← ih (foldL p)]
    simp
theorem rep_join (T : Nat) (l : Bs) : (List.replicate T (l ++ [13, 10])).flatten = joinL (List.replicate T l) := by
  induction T with
  | zero => rfl
  | succ T ih => rw [List.replicate_succ, List.flatten_cons, ih, List.replicate_succ, joinL_cons]; simp
def msg (n : Bs) (ps : List Bs) (T : Nat) : List Bs := (n ++ 58 :: first) :: (ps.map foldL ++ (List.replicate T (again n) ++ [[], bodyB]))
theorem msg_text (n : Bs) (ps : List Bs) (T : Nat) : wholeB ((n ++ 58 :: (vOf ps ++ [13, 10])) ++ (List.replicate T (again n ++ [13, 10])).flatten ++ (13 :: 10 :: bodyB)) = joinL (msg n ps T) := by
  have e : (n ++ 58 :: (vOf ps ++ [13, 10])) ++ (List.replicate T (again n ++ [13, 10])).flatten ++ (13 :: 10 :: bodyB) ++ [13, 10] = joinL (msg n ps T) := by
    rw [rep_join]
    unfold msg vOf
    have h := fold_join ps (n ++ 58 :: first)
    rw [show (n ++ 58 :: first) :: (ps.map foldL ++ (List.replicate T (again n) ++ [[], bodyB])) = ((n ++ 58 :: first) :: ps.map foldL) ++ (List.replicate T (again n) ++ [[], bodyB]) from rfl, joinL_append, joinL_append, ← h]
    simp [joinL]
  unfold wholeB
  rw [if_neg, e]
  rintro (h | h)
  · simp at h
  · obtain ⟨t, ht⟩ := h
    have e2 : t ++ [13] ++ [10] = ((n ++ 58 :: (vOf ps ++ [13, 10])) ++ (List.replicate T (again n ++ [13, 10])).flatten ++ [13, 10, 98, 111, 100]) ++ [121] := by simpa [bodyB] using ht
    obtain ⟨_, e3⟩ := List.append_inj' e2 rfl
    exact absurd e3 (by decide)
theorem msg_noNL {n : Bs} (h : lower n) (ps : List Bs) (T : Nat) : ∀ l ∈ msg n ps T, noNL l = true := by
  intro l hl
  unfold msg at hl
  rcases List.mem_cons.1 hl with rfl | hl
  · refine noNL_of _ fun c hc => ?_
    rcases List.mem_append.1 hc with hc | hc
    · exact ne13 (by have := h c hc; omega)
    · refine ne13 ?_
      have : ∀ c ∈ (58 :: first : Bs), 14 ≤ c.toNat := by decide
      exact this c hc
  · rcases List.mem_append.1 hl with hl | hl
    · obtain ⟨p, _, rfl⟩ := List.mem_map.1 hl
      refine noNL_of _ fun c hc => ?_
      rcases List.mem_cons.1 hc with rfl | hc
      · decide
      · obtain ⟨b, _, rfl⟩ := List.mem_map.1 hc
        exact ne13 (by rw [prB_n]; omega)
    · rcases List.mem_append.1 hl with hl | hl
      · rw [(List.mem_replicate.1 hl).2]
        refine noNL_of _ fun c hc => ?_
        rcases List.mem_append.1 hc with hc | hc
        · obtain ⟨b, hb, rfl⟩ := List.mem_map.1 hc
          have h1 := h b hb
          have h2 := upp_n h1
          exact ne13 (by omega)
        · refine ne13 ?_
          have : ∀ c ∈ (58 :: agn : Bs), 14 ≤ c.toNat := by decide
          exact this c hc
      · rcases List.mem_cons.1 hl with rfl | hl
        · rfl
        · rw [List.mem_singleton.1 hl]; decide
theorem split_folds (n : Bs) : ∀ (ps : List Bs) (v : Bs) (rest : List Bs), splitL [(n, v)] (ps.map foldL ++ rest) = splitL [(n, v ++ ps.flatMap (fun p => 13 :: 10 :: foldL p))] rest := by
  intro ps
  induction ps with
  | nil => intro v rest; simp
  | cons p ps ih =>
    intro v rest
    rw [List.map_cons, List.cons_append, splitL, if_pos (by simp [foldL, foldB]), show addLast [(n, v)] (foldL p) = [(n, v ++ 13 :: 10 :: foldL p)] from by simp [addLast], ih, List.flatMap_cons]
    simp
theorem split_agains {n : Bs} (h : lower n) (h0 : n ≠ []) (hl : n.length ≤ 40) : ∀ (T : Nat) (o : List Fld) (rest : List Bs), splitL o (List.replicate T (again n) ++ rest) = splitL (o ++ List.replicate T (upp n, agn)) rest := by
  intro T
  induction T with
  | zero => intro o rest; simp
  | succ T ih =>
    intro o rest
    have hf : foldB (again n) = false := by
      cases n with
      | nil => exact absurd rfl h0
      | cons c t =>
        have h1 := h c List.mem_cons_self
        have h2 := upp_n h1
        have e1 : uppB c ≠ 32 := ne_of_n (by rw [show (32 : UInt8).toNat = 32 from rfl]; omega)
        have e2 : uppB c ≠ 9 := ne_of_n (by rw [show (9 : UInt8).toNat = 9 from rfl]; omega)
        simp [again, upp, foldB, e1, e2]
    have hc : Lib.cut (again n) [58] = (upp n, agn, true) := cut58_at (upp n) agn (no58_upper h)
    rw [List.replicate_succ, List.cons_append, splitL, if_neg (by rw [hf]; simp), hc, if_pos (by simp [name_upper h h0 hl]), ih]
    congr 1
    rw [List.replicate_succ]
    simp
theorem split_msg {n : Bs} (h : lower n) (h0 : n ≠ []) (hl : n.length ≤ 40) (ps : List Bs) (T : Nat) : splitL [] (msg n ps T) = ((n, vOf ps) :: List.replicate T (upp n, agn), bodyB ++ [13, 10]) := by
  have hc : Lib.cut (n ++ 58 :: first) [58] = (n, first, true) := cut58_at n first (no58_lower h)
  unfold msg
  rw [splitL, if_neg (by simp), hc, if_pos (by simp [name_lower h h0 hl]), List.nil_append, split_folds, split_agains h h0 hl]
  rw [splitL, if_neg (by simp [foldB]), cut_nil _ (by simp), if_neg (by simp), if_pos rfl]
  simp [joinL, vOf]

theorem foldL_len (p : Bs) : (foldL p).length = p.length + 1 := by simp [foldL]
theorem vOf_le (ps : List Bs) (hps : ps.length ≤ 20) (hpl : ∀ p ∈ ps, p.length ≤ 100) : (vOf ps).length ≤ 3000 := by
  have : ∀ (qs : List Bs), (∀ p ∈ qs, p.length ≤ 100) → (qs.flatMap (fun p => 13 :: 10 :: foldL p)).length ≤ qs.length * 103 := by
    intro qs
    induction qs with
    | nil => intro _; simp
    | cons q qs ih =>
      intro hq
      have h1 := ih (fun p hp => hq p (List.mem_cons_of_mem _ hp))
      have h2 := hq q List.mem_cons_self
      rw [List.flatMap_cons]
      simp only [List.length_append, List.length_cons, foldL_len]
      omega
  have := this ps hpl
  unfold vOf first
  simp only [List.length_append, List.length_cons, List.length_nil]
  omega
/-! ### The law -/
theorem folds_end {n : Bs} (h : lower n) (h0 : n ≠ []) (hl : n.length ≤ 40) (ps : List Bs) (hps : ps.length ≤ 20) (hpl : ∀ p ∈ ps, p.length ≤ 100) (T : Nat) (hT : T ≤ 20) :
    Ev (fun k => mailbaglaw18_HeadFolds.l3 k (T : Int) (mk n) (mk (vOf ps)) (mk ((n ++ 58 :: (vOf ps ++ [13, 10])) ++ (List.replicate T (again n ++ [13, 10])).flatten)) (T : Int)) true := by
  have hvl : (vOf ps).length ≤ 3000 := vOf_le ps hps hpl
  have hal : ((List.replicate T (again n ++ [13, 10])).flatten).length ≤ 20 * 60 := by
    have e : ((List.replicate T (again n ++ [13, 10])).flatten).length = T * (again n ++ [13, 10]).length := by simp [List.length_flatten]
    rw [e]
    have : (again n ++ [13, 10]).length ≤ 60 := by simp [again, upp, agn]; omega
    exact Nat.mul_le_mul hT this
  generalize hX : (n ++ 58 :: (vOf ps ++ [13, 10])) ++ (List.replicate T (again n ++ [13, 10])).flatten = X
  have hXl : X.length ≤ 5000 := by rw [← hX]; simp only [List.length_append, List.length_cons, List.length_nil]; omega
  have hw : wholeB (X ++ (13 :: 10 :: bodyB)) = joinL (msg n ps T) := by rw [← hX]; exact msg_text n ps T
  have hs := hsplit (X ++ (13 :: 10 :: bodyB)) (msg n ps T) (by simp [bodyB]; omega) hw (msg_noNL h ps T)
  rw [split_msg h h0 hl] at hs
  have hu : mailbaglaw18_upper.f (mk n) = some (mk (upp n)) := by unfold mailbaglaw18_upper.f; rw [size_mk, if_pos (by omega)]
  have hfl : ((n, vOf ps) :: List.replicate T (upp n, agn)).length = T + 1 := by simp
  have hg := hget ((n, vOf ps) :: List.replicate T (upp n, agn)) (upp n) (by rw [hfl]; omega) (by
    intro p hp
    rcases List.mem_cons.1 hp with rfl | hp
    · simp only; omega
    · rw [(List.mem_replicate.1 hp).2]; simp [upp]; omega) (by simp [upp]; omega)
  have hit1 : hit (upp n) (n, vOf ps) = true := by unfold hit; rw [low_upp h]; simp
  have hgv : getV ((n, vOf ps) :: List.replicate T (upp n, agn)) (upp n) = vOf ps := by unfold getV; rw [List.find?_cons, hit1]; rfl
  have hgn : getN ((n, vOf ps) :: List.replicate T (upp n, agn)) (upp n) = T + 1 := by
    unfold getN
    rw [List.countP_cons, hit1, List.countP_replicate, show hit (upp n) (upp n, agn) = true from by simp [hit]]
    simp
  rw [hgv, hgn] at hg
  have e1 : bytesOf (mk X ++ (⟨#[13, 10, 98, 111, 100, 121]⟩ : ByteArray)) = i8 (X ++ (13 :: 10 :: bodyB)) := by
    rw [show (⟨#[13, 10, 98, 111, 100, 121]⟩ : ByteArray) = mk (13 :: 10 :: bodyB) from rfl, app_mk, bytesOf_mk]
  have e2 : (mk X ++ (⟨#[13, 10, 98, 111, 100, 121]⟩ : ByteArray)).size = X.length + 6 := by
    rw [show (⟨#[13, 10, 98, 111, 100, 121]⟩ : ByteArray) = mk (13 :: 10 :: bodyB) from rfl, app_mk, size_mk]; simp [bodyB]
  have e3 : wrap64 (1 + (T : Int)) = ((T + 1 : Nat) : Int) := by rw [w64 (by omega) (by omega)]; omega
  have e4 : (((((n, vOf ps) :: List.replicate T (upp n, agn)).map toS).length : Nat) : Int) = ((T + 1 : Nat) : Int) := by rw [List.length_map, hfl]
  have e5 : rd_T34 (((n, vOf ps) :: List.replicate T (upp n, agn)).map toS) 0 = toS (n, vOf ps) := rfl
  clear hfl
  generalize ((n, vOf ps) :: List.replicate T (upp n, agn)).map toS = L at hs hg e4 e5
  refine Ev.step (f := fun k => (head_Get.f k L (mk (upp n))).bind fun bt128 => (if bt128.1.toList = (mk (vOf ps)).toList then (if bt128.2 = ((T + 1 : Nat) : Int) then (some ((strOfNums (i8 (bodyB ++ [13, 10]))).toList == ([98, 111, 100, 121, 13, 10] : List UInt8))) else (some false)) else (some false))) (fun k => ?_) ?_
  · simp only [mailbaglaw18_HeadFolds.l3]
    rw [if_neg (by omega), size_mk, if_pos (by omega), e2, if_pos (by omega), e1, hs, Option.bind_some, hu, Option.bind_some, e3]
    congr 1
    funext b
    rw [e4, if_pos rfl, if_pos (by omega), e5, show (toS (n, vOf ps)).f1 = mk (vOf ps) from rfl, if_pos rfl]
  · refine Ev.bind hg ?_
    refine Ev.congr (fun k => (if_pos rfl).trans (if_pos rfl)) ?_
    have e : ((strOfNums (i8 (bodyB ++ [13, 10]))).toList == ([98, 111, 100, 121, 13, 10] : List UInt8)) = true := by rw [strOf_i8, emp_mk]; rfl
    rw [e]
    exact Ev.now true
theorem folds_l3 {n : Bs} (h : lower n) (h0 : n ≠ []) (hl : n.length ≤ 40) (ps : List Bs) (hps : ps.length ≤ 20) (hpl : ∀ p ∈ ps, p.length ≤ 100) (hv : (vOf ps).length ≤ 3000) (T : Nat) (hT : T ≤ 20) : ∀ (d i : Nat), i + d = T →
    Ev (fun k => mailbaglaw18_HeadFolds.l3 k (T : Int) (mk n) (mk (vOf ps)) (mk ((n ++ 58 :: (vOf ps ++ [13, 10])) ++ (List.replicate i (again n ++ [13, 10])).flatten)) (i : Int)) true := by
  intro d
  induction d with
  | zero =>
    intro i hi
    obtain rfl : i = T := by omega
    exact folds_end h h0 hl ps hps hpl i hT
  | succ d ih =>
    intro i hi
    have hal : ((List.replicate i (again n ++ [13, 10])).flatten).length ≤ 20 * 60 := by
      have e : ((List.replicate i (again n ++ [13, 10])).flatten).length = i * (again n ++ [13, 10]).length := by simp [List.length_flatten]
      rw [e]
      have : (again n ++ [13, 10]).length ≤ 60 := by simp [again, upp, agn]; omega
      exact Nat.mul_le_mul (by omega) this
    have hu : mailbaglaw18_upper.f (mk n) = some (mk (upp n)) := by unfold mailbaglaw18_upper.f; rw [size_mk, if_pos (by omega)]
    have hul : (upp n).length ≤ 40 := by simp [upp]; omega
    have hih := ih (i + 1) (by omega)
    have e : (n ++ 58 :: (vOf ps ++ [13, 10])) ++ (List.replicate (i + 1) (again n ++ [13, 10])).flatten = ((n ++ 58 :: (vOf ps ++ [13, 10])) ++ (List.replicate i (again n ++ [13, 10])).flatten) ++ upp n ++ [58, 32, 97, 103, 97, 105, 110, 13, 10] := by
      rw [List.replicate_succ', List.flatten_append]
      simp [again, agn]
    rw [e] at hih
    generalize hX : (n ++ 58 :: (vOf ps ++ [13, 10])) ++ (List.replicate i (again n ++ [13, 10])).flatten = X at hih
    have hXl : X.length ≤ 5000 := by rw [← hX]; simp only [List.length_append, List.length_cons, List.length_nil]; omega
    refine Ev.step (fun k => ?_) hih
    simp only [mailbaglaw18_HeadFolds.l3]
    rw [if_pos (by omega), hu, Option.bind_some, size_mk, size_mk, if_pos (by omega), app_mk, size_mk, if_pos (by simp; omega), show (⟨#[58, 32, 97, 103, 97, 105, 110, 13, 10]⟩ : ByteArray) = mk [58, 32, 97, 103, 97, 105, 110, 13, 10] from rfl, app_mk, w64s _ (by omega)]
theorem vOf_snoc (ps : List Bs) (p : Bs) : vOf (ps ++ [p]) = vOf ps ++ 13 :: 10 :: foldL p := by simp [vOf]
theorem rdL (ps : List Bs) (i : Nat) (h : i < ps.length) : rd_L3 (ps.map i8) (i : Int) = i8 ps[i] := by
  unfold rd_L3
  rw [Int.toNat_natCast, List.getD_eq_getElem?_getD, List.getElem?_map, List.getElem?_eq_getElem h]
  rfl
/-- A part, byte by byte. -/
theorem folds_l2 (x0 : List (List Int)) (T : Int) (N : ByteArray) (v : Bs) (i : Nat) (p : Bs) (hi : i < x0.length) (hp : rd_L3 x0 (i : Int) = i8 p) (hpl : p.length ≤ 100) (hv : v.length ≤ 100000) (r : Bool)
    (hr : Ev (fun k => mailbaglaw18_HeadFolds.l1 k x0 T N (mk (v ++ 13 :: 10 :: foldL p)) ((i + 1 : Nat) : Int)) r) (hil : i ≤ 1000000) : ∀ (d j : Nat), j + d = p.length →
    Ev (fun k => mailbaglaw18_HeadFolds.l2 k x0 T N (mk v) (i : Int) (mk (9 :: (p.take j).map prB)) (j : Int)) r := by
  intro d
  induction d with
  | zero =>
    intro j hj
    rw [List.take_of_length_le (by omega)]
    refine Ev.step (fun k => ?_) hr
    simp only [mailbaglaw18_HeadFolds.l2]
    rw [if_pos (by omega), if_pos (by omega), hp, i8_len, if_neg (by omega), size_mk, if_pos (by omega), show (⟨#[13, 10]⟩ : ByteArray) = mk [13, 10] from rfl, app_mk, size_mk, size_mk, if_pos (by simp; omega), app_mk, w64s _ (by omega)]
    simp [foldL]
  | succ d ih =>
    intro j hj
    have hlt : j < p.length := by omega
    have h1 := ih (j + 1) (by omega)
    rw [List.take_succ_eq_append_getElem hlt, List.map_append] at h1
    refine Ev.step (fun k => ?_) h1
    simp only [mailbaglaw18_HeadFolds.l2]
    have hb := p[j].toNat_lt
    rw [if_pos (by omega), if_pos (by omega), hp, i8_len, if_pos (by omega), if_pos (by omega), rd_i8 p j hlt, Option.bind_some]
    have e : strOfNums [(32 + (Int.tmod (p[j].toNat : Int) 95)) % 256] = mk [prB p[j]] := by
      have e1 : Int.tmod (p[j].toNat : Int) 95 = ((p[j].toNat % 95 : Nat) : Int) := rfl
      rw [e1]
      have e2 : (32 + ((p[j].toNat % 95 : Nat) : Int)) % 256 = ((32 + p[j].toNat % 95 : Nat) : Int) := by omega
      rw [e2]
      rfl
    rw [e, size_mk, size_mk, if_pos (by simp; omega), app_mk, w64s _ (by omega)]
    simp
theorem folds_l1 {n : Bs} (h : lower n) (h0 : n ≠ []) (hl : n.length ≤ 40) (ps : List Bs) (hps : ps.length ≤ 20) (T : Nat) (hT : T ≤ 20) : ∀ (d i : Nat), i + d = ps.length → (∀ p ∈ ps.take i, p.length ≤ 100) →
    Ev (fun k => mailbaglaw18_HeadFolds.l1 k (ps.map i8) (T : Int) (mk n) (mk (vOf (ps.take i))) (i : Int)) true := by
  intro d
  induction d with
  | zero =>
    intro i hi hpl
    rw [List.take_of_length_le (by omega)] at hpl ⊢
    have hv := vOf_le ps hps hpl
    have h3 := folds_l3 h h0 hl ps hps hpl hv T hT T 0 (by omega)
    simp only [List.replicate_zero, List.flatten_nil, List.append_nil] at h3
    refine Ev.step (fun k => ?_) h3
    simp only [mailbaglaw18_HeadFolds.l1]
    rw [if_neg (by rw [List.length_map]; omega), size_mk, if_pos (by omega), show (⟨#[58]⟩ : ByteArray) = mk [58] from rfl, app_mk, size_mk, size_mk, if_pos (by simp; omega), app_mk, size_mk, if_pos (by simp; omega), show (⟨#[13, 10]⟩ : ByteArray) = mk [13, 10] from rfl, app_mk]
    simp
  | succ d ih =>
    intro i hi hpl
    have hlt : i < ps.length := by omega
    have hrd := rdL ps i hlt
    by_cases hbig : ((i8 ps[i]).length : Int) > 100
    · refine Ev.step (f := fun _ => some true) (fun k => ?_) (Ev.now true)
      simp only [mailbaglaw18_HeadFolds.l1]
      rw [if_pos (by rw [List.length_map]; omega), if_pos (by omega), hrd, if_pos hbig]
    · rw [i8_len] at hbig
      have hpl2 : ∀ p ∈ ps.take (i + 1), p.length ≤ 100 := by
        intro p hp
        rw [List.take_succ_eq_append_getElem hlt] at hp
        rcases List.mem_append.1 hp with hp | hp
        · exact hpl p hp
        · rw [List.mem_singleton.1 hp]; omega
      have h1 := ih (i + 1) (by omega) hpl2
      have hv := vOf_le (ps.take i) (by simp; omega) hpl
      rw [List.take_succ_eq_append_getElem hlt, vOf_snoc] at h1
      have h2 := folds_l2 (ps.map i8) (T : Int) (mk n) (vOf (ps.take i)) i ps[i] (by rw [List.length_map]; omega) hrd (by omega) (by omega) true h1 (by omega) ps[i].length 0 (by omega)
      refine Ev.step (fun k => ?_) h2
      simp only [mailbaglaw18_HeadFolds.l1]
      rw [if_pos (by rw [List.length_map]; omega), if_pos (by omega), hrd, i8_len, if_neg hbig]
      rfl
theorem folds_l0 (nm : Bs) (h0 : nm ≠ []) (hl : nm.length ≤ 40) (ps : List Bs) (hps : ps.length ≤ 20) (T : Nat) (hT : T ≤ 20) : ∀ (d i : Nat), i + d = nm.length →
    Ev (fun k => mailbaglaw18_HeadFolds.l0 k (ps.map i8) (i8 nm) (T : Int) (mk ((nm.take i).map letB)) (i : Int)) true := by
  intro d
  induction d with
  | zero =>
    intro i hi
    rw [List.take_of_length_le (by omega)]
    have h1 := folds_l1 (lower_let nm) (by simpa using h0) (by rw [List.length_map]; exact hl) ps hps T hT ps.length 0 (by omega) (by simp)
    refine Ev.step (fun k => ?_) h1
    simp only [mailbaglaw18_HeadFolds.l0]
    rw [if_neg (by rw [i8_len]; omega)]
    rfl
  | succ d ih =>
    intro i hi
    have hlt : i < nm.length := by omega
    have h1 := ih (i + 1) (by omega)
    rw [List.take_succ_eq_append_getElem hlt, List.map_append] at h1
    refine Ev.step (fun k => ?_) h1
    simp only [mailbaglaw18_HeadFolds.l0]
    have hb := nm[i].toNat_lt
    rw [if_pos (by rw [i8_len]; omega), if_pos (by omega), rd_i8 nm i hlt, Option.bind_some]
    have e : strOfNums [(97 + (Int.tmod (nm[i].toNat : Int) 26)) % 256] = mk [letB nm[i]] := by
      have e1 : Int.tmod (nm[i].toNat : Int) 26 = ((nm[i].toNat % 26 : Nat) : Int) := rfl
      rw [e1]
      have e2 : (97 + ((nm[i].toNat % 26 : Nat) : Int)) % 256 = ((97 + nm[i].toNat % 26 : Nat) : Int) := by omega
      rw [e2]
      rfl
    rw [e, size_mk, size_mk, if_pos (by simp; omega), app_mk, w64s _ (by omega)]
    simp
theorem folds_j0 (l0 : List (List Int)) (l1 : List Int) (T : Int) : Ev (fun k => mailbaglaw18_HeadFolds.j0 k l0 l1 T true) true := by
  refine Ev.step (f := fun _ => some true) (fun k => ?_) (Ev.now _)
  simp only [mailbaglaw18_HeadFolds.j0]
  rfl
theorem HeadFolds_f (ps : List Bs) (nm : Bs) (t : Int) : Ev (fun k => mailbaglaw18_HeadFolds.f k (ps.map i8) (i8 nm) t) true := by
  unfold mailbaglaw18_HeadFolds.f mailbaglaw18_known.f
  refine Ev.bind (Ev.now true) ?_
  refine Ev.congr (fun k => if_pos rfl) ?_
  rw [i8_len, List.length_map]
  by_cases h1 : (ps.length : Int) > 20
  · exact Ev.congr (fun k => if_pos h1) (folds_j0 _ _ _)
  refine Ev.congr (fun k => if_neg h1) ?_
  by_cases h2 : (nm.length : Int) = 0
  · exact Ev.congr (fun k => if_pos h2) (folds_j0 _ _ _)
  refine Ev.congr (fun k => if_neg h2) ?_
  by_cases h3 : (nm.length : Int) > 40
  · exact Ev.congr (fun k => if_pos h3) (folds_j0 _ _ _)
  refine Ev.congr (fun k => if_neg h3) ?_
  by_cases h4 : t < 0
  · exact Ev.congr (fun k => if_pos h4) (folds_j0 _ _ _)
  refine Ev.congr (fun k => if_neg h4) ?_
  by_cases h5 : t > 20
  · rw [decide_eq_true h5]; exact folds_j0 _ _ _
  rw [decide_eq_false h5]
  obtain ⟨T, rfl⟩ : ∃ T : Nat, t = T := ⟨t.toNat, by omega⟩
  have hne : nm ≠ [] := by rintro rfl; exact h2 rfl
  refine Ev.step (fun k => ?_) (folds_l0 nm hne (by omega) ps (by omega) T (by omega) nm.length 0 (by omega))
  simp only [mailbaglaw18_HeadFolds.j0]
  rfl
end Go.Proofs.YtfpcngoonfbphaaDoor.XH
namespace Go.Proofs.YtfpcngoonfbphaaDoor
open Go.RowKit Go.Proofs.YtfpcngoonfbphaaDoorW.PrintWords Go.Proofs.YtfpcngoonfbphaaDoor.XH
theorem headFolds_walk (A0 : Option Addr) (c0 : Nat) (l0 : List (List Int)) (A1 : Option Addr) (c1 : Nat) (l1 : List Int) (a2 : Int) (W : World) (hr0 : Kd.C (Kd.slice 5 (Kd.int .u8)) W A0 l0.length l0) (hc0 : l0.length ≤ c0) (hw0 : l0.length ≤ maxLen ∧ ∀ a ∈ l0, a.length ≤ maxLen ∧ ∀ x ∈ a, (Lit.int .u8 x).wf = true) (hr : ReadsInt W .u8 A1 l1.length l1) (hc : l1.length ≤ c1) (hw : ∀ x ∈ l1, (Lit.int .u8 x).wf = true) (_ : (Lit.int .i64 a2).wf = true) (hsh : W.ShapedOpen Tryd.prog) :
    Calls Tryd.prog 4 #[.slice A0 l0.length c0, .slice A1 l1.length c1, .int .i64 a2] W fun e W' => e = .returned (.bool true) ∧ Below W.heap.size W W' := by
  have e0 : (l0.map bsOf).map i8 = l0 := by
    rw [List.map_map]
    conv => rhs; rw [← List.map_id l0]
    apply List.map_congr_left
    intro a ha
    exact i8_bsOf (wf_isB (hw0.2 a ha).2)
  obtain ⟨k, hk⟩ := (HeadFolds_f (l0.map bsOf) (bsOf l1) a2).rounds
  rw [i8_bsOf (wf_isB hw), e0] at hk
  exact mailbaglaw18_HeadFolds.calls k A0 c0 l0 A1 c1 l1 a2 true W hr0 hc0 (Kd.C_of_reads (d := (0 : Int)) (h1 := fun _ => rfl) hr) hc hsh hk
end Go.Proofs.YtfpcngoonfbphaaDoor

/- What is read as data of a type has cells of that type's kind. -/
set_option linter.unusedVariables false
namespace Go.Proofs.YtfpcngoonfbphaaDoor
open Go.RowKit Go.Proofs.YtfpcngoonfbphaaDoorW.PrintWords

def Opn {α : Type} (P : Program) (t : TypeId) (d : Kd α) (wf : α → Prop) : Prop :=
  ∀ (H : Type) (enc : TypeId × Value → H) (w : World) (held : Bool) (fuel : Nat) (cs : List Value) (x : DataW H × List MemPlace), DataW.trod enc P w 0 (fun _ => true) held fuel t cs = some x → ∃ a : α, d.K w a cs ∧ wf a
theorem Opn.int {P : Program} {t : TypeId} {k : IntKind} (ht : P.underlying t = some (.int k)) : Opn P t (Kd.int k) (fun n => (Lit.int k n).wf = true) := by
  intro H enc w held fuel cs x h
  obtain ⟨n, rfl, _, hw⟩ := DataW.trod_int ht h
  exact ⟨n, rfl, hw⟩
theorem Opn.string {P : Program} {t : TypeId} (ht : P.underlying t = some .string) : Opn P t Kd.string (fun s => s.size ≤ maxLen) := by
  intro H enc w held fuel cs x h
  obtain ⟨s, rfl, _, hw⟩ := DataW.trod_string ht h
  exact ⟨s, rfl, hw⟩
theorem Opn.bool {P : Program} {t : TypeId} (ht : P.underlying t = some .bool) : Opn P t Kd.bool (fun _ => True) := by
  intro H enc w held fuel cs x h
  obtain ⟨b, rfl, _⟩ := DataW.trod_bool ht h
  exact ⟨b, rfl, trivial⟩
theorem Opn.iso {α β : Type} {P : Program} {t : TypeId} {d : Kd α} {wf : α → Prop} (h : Opn P t d wf) (f : β → α) (g : α → β) (hg : ∀ a, f (g a) = a) : Opn P t (Kd.iso d f) (fun b => wf (f b)) := by
  intro H enc w held fuel cs x hx
  obtain ⟨a, hk, hw⟩ := h H enc w held fuel cs x hx
  refine ⟨g a, ?_, ?_⟩
  · show d.K w (f (g a)) cs
    rw [hg]; exact hk
  · show wf (f (g a))
    rw [hg]; exact hw
theorem choose_list {α : Type} (p : Nat → α → Prop) : ∀ (n : Nat), (∀ i, i < n → ∃ a, p i a) → ∃ l : List α, l.length = n ∧ ∀ i (hi : i < l.length), p i l[i] := by
  intro n
  induction n with
  | zero => intro _; exact ⟨[], rfl, fun i hi => by cases hi⟩
  | succ n ih =>
    intro h
    obtain ⟨l, hl, hp⟩ := ih (fun i hi => h i (by omega))
    obtain ⟨a, ha⟩ := h n (by omega)
    refine ⟨l ++ [a], by simp [hl], fun i hi => ?_⟩
    by_cases c : i < l.length
    · rw [List.getElem_append_left c]; exact hp i c
    · have e : i = l.length := by simp at hi; omega
      subst e
      rw [List.getElem_append_right (Nat.le_refl _)]
      simp only [Nat.sub_self, List.getElem_cons_zero]
      rw [hl]; exact ha
theorem Opn.slice {α : Type} {P : Program} {t e : TypeId} {d : Kd α} {wf : α → Prop} (ht : P.underlying t = some (.slice e)) (hs : P.cellsOf e = d.sz) (ho : Opn P e d wf) : Opn P t (Kd.slice e d) (fun l => l.length ≤ maxLen ∧ ∀ a ∈ l, wf a) := by
  intro H enc w held fuel cs x h
  rcases Deep.open_slice ht h with ⟨rfl, _⟩ | ⟨a, len, cap, m, n, D, Pl, rfl, hb, hl, hm, hmm, _, hx⟩
  · exact ⟨[], ⟨none, 0, rfl, Nat.le_refl _, rfl, Nat.zero_le _, fun h => by cases h⟩, Nat.zero_le _, fun a ha => by cases ha⟩
  · simp only [if_true] at hmm
    obtain ⟨l, hll, hp⟩ := choose_list (fun i (b : α) => (∃ c : List Value, c.length = d.sz ∧ d.K w b c ∧ ∀ j u, c[j]? = some u → w.cell? (a.add (i * d.sz + j)) = some u) ∧ wf b) len (fun i hi => by
      obtain ⟨cs', h1, h2⟩ := hx i (by omega)
      obtain ⟨b, hk, hw⟩ := ho H enc w held n cs' _ h2
      refine ⟨b, ⟨cs', d.K_len hk, hk, fun j u hu => ?_⟩, hw⟩
      obtain ⟨_, _, hc⟩ := World.cells?_some h1
      have hj : j < cs'.length := (List.getElem?_eq_some_iff.1 hu).1
      rw [d.K_len hk, ← hs] at hj
      have := hc j hj
      rw [hu, hs] at this
      rw [← this, Addr.add_add])
    refine ⟨l, ⟨some a, cap, by rw [hll], by omega, rfl, ?_, fun _ => ⟨a, rfl, fun j p hj => ?_⟩⟩, by omega, fun b hb => ?_⟩
    · have : maxLen = 9223372036854775807 := rfl
      omega
    · obtain ⟨hjl, hjp⟩ := List.getElem?_eq_some_iff.1 hj
      have := (hp j hjl).1
      rw [hjp] at this
      exact this
    · obtain ⟨i, hi, rfl⟩ := List.mem_iff_getElem.1 hb
      exact (hp i hi).2
/-- Fields, one behind the other. -/
def OpnF {α : Type} (P : Program) (fs : List Field) (off : Nat) (d : Kd α) (wf : α → Prop) : Prop :=
  ∀ (H : Type) (enc : TypeId × Value → H) (w : World) (held : Bool) (fuel : Nat) (cs : List Value), (∀ f ∈ fs, ∃ y, DataW.trod enc P w 0 (fun _ => true) held fuel f.type ((cs.drop f.offset).take (P.cellsOf f.type)) = some y) → ∃ a : α, d.K w a ((cs.drop off).take d.sz) ∧ wf a
theorem OpnF.one {α : Type} {P : Program} {f : Field} {off : Nat} {d : Kd α} {wf : α → Prop} (ho : f.offset = off) (hs : P.cellsOf f.type = d.sz) (h : Opn P f.type d wf) : OpnF P [f] off d wf := by
  intro H enc w held fuel cs hx
  obtain ⟨y, hy⟩ := hx f List.mem_cons_self
  rw [ho, hs] at hy
  exact h H enc w held fuel _ y hy
theorem OpnF.cons {α β : Type} {P : Program} {f : Field} {fs : List Field} {off : Nat} {d : Kd α} {d' : Kd β} {wf : α → Prop} {wf' : β → Prop} (ho : f.offset = off) (hs : P.cellsOf f.type = d.sz) (h : Opn P f.type d wf) (hr : OpnF P fs (off + d.sz) d' wf') :
    OpnF P (f :: fs) off (Kd.pair d d') (fun x => wf x.1 ∧ wf' x.2) := by
  intro H enc w held fuel cs hx
  obtain ⟨y, hy⟩ := hx f List.mem_cons_self
  rw [ho, hs] at hy
  obtain ⟨a, ha, hwa⟩ := h H enc w held fuel _ y hy
  obtain ⟨b, hb, hwb⟩ := hr H enc w held fuel cs (fun g hg => hx g (List.mem_cons_of_mem _ hg))
  refine ⟨(a, b), ⟨_, _, ?_, ha, hb⟩, hwa, hwb⟩
  show (cs.drop off).take (d.sz + d'.sz) = _
  rw [List.take_add, List.drop_drop]
theorem Opn.struct {α : Type} {P : Program} {t : TypeId} {fs : Array Field} {d : Kd α} {wf : α → Prop} (ht : P.underlying t = some (.struct fs)) (hs : P.cellsOf t = d.sz) (h : OpnF P fs.toList 0 d wf) : Opn P t d wf := by
  intro H enc w held fuel cs x hx
  obtain ⟨xs, n, _, _, hl, hxl, hm⟩ := DataW.trod_struct ht hx
  obtain ⟨a, ha, hw⟩ := h H enc w held n cs (fun f hf => by
    obtain ⟨i, hi, rfl⟩ := List.mem_iff_getElem.1 hf
    have hi' : i < fs.size := by simpa using hi
    have h1 := hm i fs[i] (by rw [Array.getElem?_eq_getElem hi'])
    refine ⟨xs[i]'(by omega), ?_⟩
    rw [Array.getElem_toList, h1, List.getElem?_eq_getElem (by omega)])
  rw [List.drop_zero, ← hs, ← hl, List.take_length] at ha
  exact ⟨a, ha, hw⟩
end Go.Proofs.YtfpcngoonfbphaaDoor

/- For every input the call of mailbaglaw18.HeadFolds returns true: the row, and the tied card. -/
set_option linter.unusedVariables false
set_option linter.unusedSimpArgs false
namespace Go.Proofs.YtfpcngoonfbphaaDoor.headFolds
open Go.ChangeShapes Go.WideShapes Go.ChangeAt Go.RowKit Go.Proofs.YtfpcngoonfbphaaDoor Go.Proofs.YtfpcngoonfbphaaDoorW.PrintWords
open Go.ChangeMaps (open_string shut_string)
open Go.Proofs.YtfpcngoonfbphaaDoor.XH

theorem own : ownKnob Tryd.prog.godebug = none := by kernel_rfl
theorem laidOut : laidOutB Tryd.prog = true := by kernel_rfl
def IsRow (k : IntKind) (w : World) (a : Option Addr) (len cap : Nat) (zs : List Int) : Prop :=
  (a = none ∧ len = 0 ∧ cap = 0 ∧ zs = []) ∨
  ∃ x, a = some x ∧ len ≤ cap ∧ cap ≤ maxLen ∧ zs.length = cap ∧ (∀ i, i < zs.length → w.cell? (x.add i) = some (.int k (zs.getD i 0))) ∧ ∀ n ∈ zs, (Lit.int k n).wf = true
set_option maxRecDepth 100000 in
theorem lifted (os : Os) (started : os.Started) (H : Type) (enc : TypeId × Value → H) :
    ReturnsInHanded {} Tryd.checked os 4 .any (fun w args => (Rows.headFoldsSpec.pre enc Tryd.prog Tryd.f4 [] false w args ∧ laidMetH Tryd.prog Rows.headFoldsRow.laid w) ∧ sizedMet enc Tryd.prog Tryd.f4 (OpenSpec.ofChange Rows.headFoldsSpec) false w args)
      (Rows.headFoldsSpec.post enc Tryd.prog Tryd.f4 false true false false) := by
  refine wrapLaidShaped (C := Tryd.checked) (X := fun w _ => laidMetH Tryd.prog Rows.headFoldsRow.laid w) (fun _ _ _ hh h => h.of_heap hh) own started (by kernel_rfl) Tryd.func4
    (ChangeSpec.witness_at (enc := enc) (C := Tryd.checked) (os := os) (X := fun w _ => laidMetH Tryd.prog Rows.headFoldsRow.laid w) false (World.laidAll Tryd.prog os Rows.headFoldsRow.laid) #[.slice none 0 0, .slice none 0 0, .int .i64 0] 8 (World.laidAll_os _ _ _) (by kernel_rfl) (by kernel_rfl) (by kernel_rfl) (by kernel_rfl) (by kernel_rfl)
      (by rw [MakeChecks.laidMetH_plain _ _ _ (by kernel_rfl)]; exact laidMet_laidAll _ (by kernel_rfl) (by kernel_rfl))) ?_
  intro W base args ds gs before hval0 hW hsh
  have hval : ∀ (j : Nat) t v, Tryd.f4.params[j]? = some t → args[j]? = some v → Value.okWide Tryd.prog W .any base t v := hval0
  have hW' := hW
  obtain ⟨p, q, hA0, hV, rfl, hfz, hnd⟩ := hW
  have hA : DataW.TrodAll enc Tryd.prog W 0 (fun _ => true) true Tryd.f4.params.toList args.toList ds p := hA0
  rw [Tryd.params4] at hA hval
  obtain ⟨v0, vs0, d0, ds0, p0, q0, hargs, rfl, rfl, h0, r0⟩ := trodAll_cons hA
  obtain ⟨v1, vs1, d1, ds1, p1, q1, rfl, rfl, rfl, h1, r1⟩ := trodAll_cons r0
  obtain ⟨v2, vs2, d2, ds2, p2, q2, rfl, rfl, rfl, h2, r2⟩ := trodAll_cons r1
  obtain ⟨rfl, rfl, rfl⟩ := trodAll_nil r2
  obtain rfl : args = #[v0, v1, v2] := by cases args; simp_all
  obtain ⟨rfl, rfl⟩ := trodVars_none hV
  obtain ⟨a0, len0, cap0, rfl⟩ := okWide_slice Tryd.underlying25 (hval 0 25 v0 rfl rfl)
  have kk0 := h0
  have lt0 : ∀ x ∈ p0, x.block < W.heap.size := by obtain ⟨m, hm⟩ := kk0; exact DataW.trod_lt m _ _ _ hm
  obtain ⟨fuel0, hf0⟩ := h0
  obtain ⟨l0, ⟨A0, c0, e0, hc0, hr0⟩, hw0⟩ := (Opn.slice Tryd.underlying25 (by kernel_rfl) (Opn.slice Tryd.underlying26 (by kernel_rfl) (Opn.int Tryd.underlying5))) _ _ _ _ _ _ _ hf0
  obtain ⟨rfl, rfl, rfl⟩ : a0 = A0 ∧ len0 = l0.length ∧ cap0 = c0 := by simpa [Value.cells] using e0
  obtain ⟨a1, len1, cap1, rfl⟩ := okWide_slice Tryd.underlying26 (hval 1 26 v1 rfl rfl)
  have k1 := h1
  have lt1 : ∀ x ∈ p1, x.block < W.heap.size := by obtain ⟨m, hm⟩ := k1; exact DataW.trod_lt m _ _ _ hm
  obtain ⟨z1, w1⟩ : ∃ zs, IsRow .u8 W a1 len1 cap1 zs := by
    obtain ⟨fuel, hf⟩ := h1
    rcases open_ints Tryd.underlying26 Tryd.underlying5 (by kernel_rfl) hf with ⟨hcs, _⟩ | ⟨x, l, c, zs, hcs, _, hl, hm, hz, _, hcell, hwz⟩
    · simp [Value.cells] at hcs
      obtain ⟨rfl, rfl, rfl⟩ := hcs
      exact ⟨[], .inl ⟨rfl, rfl, rfl, rfl⟩⟩
    · simp [Value.cells] at hcs
      obtain ⟨rfl, rfl, rfl⟩ := hcs
      exact ⟨zs, .inr ⟨_, rfl, hl, hm, by simpa using hz, hcell, hwz⟩⟩
  obtain ⟨l1, rfl, hr1, hm1, hw1, hc1⟩ := ReadsInt.ofRowC w1
  obtain ⟨a2, rfl, rfl, rfl, w2⟩ := open_int Tryd.underlying3 (hval 2 3 v2 rfl rfl) h2
  clear hA0 hval0
  simp only [List.append_nil] at hW'
  refine (headFolds_walk a0 cap0 l0 a1 cap1 l1 a2 W hr0 hc0 hw0 hr1 hc1 hw1 w2 hsh).mono fun e W' ⟨he, bel⟩ => ?_
  subst he
  exact ⟨_, rfl, _, _, _, [], _, [], hW', trodAll_mk1 (shut_bool Tryd.underlying4 _), (trodAll_cons_mk (Below.trod laidOut (by kernel_rfl) (of_decide_eq_true (by kernel_rfl)) kk0 bel lt0) (trodAll_cons_mk (Below.trod laidOut (by kernel_rfl) (of_decide_eq_true (by kernel_rfl)) k1 bel lt1) (trodAll_cons_mk (shut_int Tryd.underlying3 w2) trodAll_mk0))), rfl, bel.frame _, fun h => by cases h⟩

theorem over : Rows.HeadFoldsSaid :=
  OpenClaim.holds_of_wide 4 Tryd.f4 rfl rfl rfl rfl rfl rfl rfl ⟨rfl, rfl, rfl, rfl, rfl⟩ rfl rfl rfl rfl rfl (by kernel_rfl) Tryd.func4 (by kernel_rfl)
    (of_decide_eq_true (by kernel_rfl)) (by unfold Func.isWrapper; first | (rw [if_pos (by decide +kernel)]; kernel_rfl) | (rw [if_neg (by decide +kernel)]; exact ⟨rfl, rfl⟩))
    (fun os started H enc _ => lifted os started H enc)
theorem card_holds : Rows.HeadFoldsCardSaid :=
  Claim7.holds_tied_plain_at .later [] [.data, .data, .data] true (true, "53321d94958a09d6170073ef5c025a8fb87484b0e5c84b1449e03d45018f4388") true
    over (fun _ h => by cases h) (by kernel_rfl) (fun _ h => by cases h) headFolds_row_tie rfl ⟨rfl, rfl⟩ (by kernel_rfl) rfl
    (fun f fn hf hfn => by
      obtain rfl : f = 4 := Option.some.inj ((show Tryd.prog.funcNamed "mailbag/mailbaglaw18.HeadFolds" = some 4 by kernel_rfl).symm.trans hf) |>.symm
      obtain rfl : fn = Tryd.f4 := (Option.some.inj (Tryd.func4.symm.trans hfn)).symm
      exact ⟨by kernel_rfl, fun j t ht => by
        rw [Tryd.params4] at ht
        have hm : t ∈ [25, 26, 3] := by simpa using Array.mem_of_getElem? ht
        have hall : ([25, 26, 3].all fun u => !Tryd.prog.wantsStandIn u) = true := by kernel_rfl
        exact (show Tryd.prog.wantsStandIn t = false by simpa using List.all_eq_true.1 hall t hm)⟩)
    (by kernel_rfl)
end Go.Proofs.YtfpcngoonfbphaaDoor.headFolds
namespace Go.Proofs.YtfpcngoonfbphaaDoor
/-- THE STATEMENT. -/
theorem headFolds_holds : Rows.HeadFoldsCardSaid := headFolds.card_holds
end Go.Proofs.YtfpcngoonfbphaaDoor
#print axioms Go.Proofs.YtfpcngoonfbphaaDoor.headFolds_holds
