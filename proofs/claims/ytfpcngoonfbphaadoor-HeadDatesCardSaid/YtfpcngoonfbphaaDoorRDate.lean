-- Taken by wip/ext.py from what print.sh printed for this seat.
import Derived.Test.YtfpcngoonfbphaaDoorProg
import Derived.Below
import Derived.Deep.Draws
import Derived.Deep.AppendLies
import Derived.Maps.AppendAt
import Derived.OwnWalk
import Derived.Laws.BytesArg
import Derived.Laws.MakeOwn
import Derived.Laws.OwnMore
import Derived.Deep.OwnRows
import Derived.Tactics
import Derived.Lib.ConvBytes
import Derived.Laws.Slices
import Derived.WalkKit
import Derived.KernelRfl
import Derived.RowKit3
import Derived.Deep.LoopGhost
import Derived.Deep.QuietTactic
import Derived.BigQuiet
import Derived.WideLaws
import Derived.Deep.DeepCutAuto
import Derived.Deep.CutBlock
import Derived.Deep.RegionHeld3
import Derived.Laws.Rows
import Derived.Lib.AppendStr
import Derived.ArgAppend
import Derived.Laws.IdiomCopy
import Derived.OrdersHeld
import Derived.Laws.BitsLemmas
import Derived.RowKit
import Derived.Test.YtfpcngoonfbphaaDoorWWords
import Derived.Test.YtfpcngoonfbphaaDoorWLast
import Derived.Test.YtfpcngoonfbphaaDoorWTab
import Derived.Test.YtfpcngoonfbphaaDoorWFour
import Derived.Test.YtfpcngoonfbphaaDoorWQPut
import Derived.Test.YtfpcngoonfbphaaDoorWApart
import Derived.Test.YtfpcngoonfbphaaDoorWArr
import Derived.Test.YtfpcngoonfbphaaDoorWZeros
import Derived.Test.YtfpcngoonfbphaaDoorWFoot
import Derived.Test.YtfpcngoonfbphaaDoorWKept
import Derived.Test.YtfpcngoonfbphaaDoorWShare
import Derived.Test.YtfpcngoonfbphaaDoorWN
import Derived.Test.YtfpcngoonfbphaaDoorWFootNe
import Derived.Test.YtfpcngoonfbphaaDoorWAt
import Derived.Test.YtfpcngoonfbphaaDoorWEqStruct
import Derived.Test.YtfpcngoonfbphaaDoorWRepsOne
import Derived.Test.YtfpcngoonfbphaaDoorWInv
import Derived.Test.YtfpcngoonfbphaaDoorWInvWords
import Derived.Test.YtfpcngoonfbphaaDoorWGuard
import Derived.Test.YtfpcngoonfbphaaDoorWNEv
import Derived.Test.YtfpcngoonfbphaaDoorWMore
namespace Go.Proofs.YtfpcngoonfbphaaDoor.RDate
open Go.RowKit Go.Proofs.YtfpcngoonfbphaaDoorW.PrintWords Go.Proofs.YtfpcngoonfbphaaDoorW.PrintLast Go.Proofs.YtfpcngoonfbphaaDoorW.PrintMore
attribute [local go_sem] max2_int min2_int max_two min_two max_three min_three max_four min_four   -- for this text's walks alone
set_option linter.unusedVariables false
set_option linter.unusedSimpArgs false



def errW : Option Int → Value
  | none => .nilIface
  | some c => .iface 0 (.int .i64 c)
theorem errW_none : errW none = .nilIface := rfl
theorem errW_some (c : Int) : errW (some c) = .iface 0 (.int .i64 c) := rfl

theorem info3 : (Tryd.prog.info? 3).map (fun i => (i.zero, i.size, i.bytes)) = some (some (.int .i64 0), 1, 8) := by kernel_rfl
theorem info5 : (Tryd.prog.info? 5).map (fun i => (i.zero, i.size, i.bytes)) = some (some (.int .u8 0), 1, 1) := by kernel_rfl
theorem info9 : (Tryd.prog.info? 9).map (fun i => (i.zero, i.size, i.bytes)) = some (some (.string ⟨#[]⟩), 1, 16) := by kernel_rfl
-- the values' own types
def rd_L1 (xs : List (List Int)) (i : Int) : (List Int) := xs.getD i.toNat ([] : List Int)
theorem at_L1 {w : World} {A : Option Addr} {n : Nat} {xs : List (List Int)} (h : Kd.C (Kd.slice 5 (Kd.int .u8)) w A n xs) (i : Int) (h0 : 0 ≤ i) (h1 : i < n) : ∃ ad A0 c0, A = some ad ∧ w.cell? (ad.add i.toNat) = some (.slice A0 (rd_L1 xs i).length c0) ∧ (rd_L1 xs i).length ≤ c0 ∧ (Kd.int .u8).C w A0 (rd_L1 xs i).length (rd_L1 xs i) := by
  obtain ⟨ad, c, e, _, hK, hc0⟩ := Kd.C_get h ([] : List Int) i h0 h1
  have hc : ∀ j u, c[j]? = some u → w.cell? (ad.add (i.toNat * 1 + j)) = some u := hc0
  obtain ⟨A0, c0, rfl, l0, g0⟩ := hK
  exact ⟨ad, A0, c0, e, by have hq := hc 0 _ rfl; rwa [Nat.mul_one, Nat.add_zero] at hq, l0, g0⟩

/-! #### struct type 34 -/
structure S34 where
  f0 : ByteArray
  f1 : ByteArray
def z34 : S34 := ⟨(⟨#[]⟩ : ByteArray), (⟨#[]⟩ : ByteArray)⟩
def k34 : Kd S34 := Kd.iso (Kd.pair Kd.string Kd.string) (fun x : S34 => (x.f0, x.f1))
theorem k34_open {w : World} {x : S34} {cs : List Value} (h : k34.K w x cs) : cs = [.string x.f0, .string x.f1] := by
  obtain ⟨_, _, rfl, rfl, rfl⟩ := h
  exact rfl
theorem k34_openM {w : World} {base : Nat} {ok : Nat → Prop} {x : S34} {cs : List Value} (h : k34.M w base ok x cs) : cs = [.string x.f0, .string x.f1] := by
  obtain ⟨_, _, rfl, rfl, rfl⟩ := h
  exact rfl
theorem k34_mk (w : World) (x : S34)  : k34.K w x [.string x.f0, .string x.f1] := ⟨[.string x.f0], [.string x.f1], rfl, rfl, rfl⟩
theorem k34_mkM (w : World) (base : Nat) (ok : Nat → Prop) (x : S34)  : k34.M w base ok x [.string x.f0, .string x.f1] := ⟨[.string x.f0], [.string x.f1], rfl, rfl, rfl⟩
def rd_T34 (xs : List S34) (i : Int) : S34 := xs.getD i.toNat z34
theorem at_T34 {w : World} {A : Option Addr} {n : Nat} {xs : List S34} (h : Kd.C k34 w A n xs) (i : Int) (h0 : 0 ≤ i) (h1 : i < n) : ∃ ad , A = some ad ∧ w.cell? (ad.add (i.toNat * 2)) = some (.string (rd_T34 xs i).f0) ∧ w.cell? ⟨(ad.add (i.toNat * 2)).block, (ad.add (i.toNat * 2)).off + 1, none⟩ = some (.string (rd_T34 xs i).f1) := by
  obtain ⟨ad, c, e, _, hK, hc0⟩ := Kd.C_get h z34 i h0 h1
  have hc : ∀ j u, c[j]? = some u → w.cell? (ad.add (i.toNat * 2 + j)) = some u := hc0
  obtain rfl := k34_open hK
  exact ⟨ad, e, hc 0 _ rfl, by rw [← add_field _ _ 1 (by omega)]; exact hc 1 _ rfl⟩

theorem szlit0 : (⟨#[44, 32]⟩ : ByteArray).size = 2 := rfl
theorem szlit1 : (⟨#[32]⟩ : ByteArray).size = 1 := rfl
theorem szlit2 : (⟨#[58]⟩ : ByteArray).size = 1 := rfl
theorem szlit3 : (⟨#[32, 43, 48, 48, 48, 48]⟩ : ByteArray).size = 6 := rfl
theorem szlit4 : (⟨#[13, 10]⟩ : ByteArray).size = 2 := rfl
/-! ### mailbagref18_leap: function 41 -/
def mailbagref18_leap.f (a0 : Int) : Option (Bool) := if (Int.tmod a0 4) = 0 then (if (Int.tmod a0 100) = 0 then (some ((Int.tmod a0 400) == 0)) else (some true)) else (some false)
set_option maxHeartbeats 8000000 in
set_option maxRecDepth 100000 in
theorem mailbagref18_leap.calls (a0 : Int) (r : Bool) (w : World) (h : mailbagref18_leap.f a0 = some r) :
    Calls Tryd.prog 41 #[.int .i64 a0] w fun e w' => e = .returned (.bool r) ∧ Drawn0 w w' := by
  have H : (if (Int.tmod a0 4) = 0 then (if (Int.tmod a0 100) = 0 then (some ((Int.tmod a0 400) == 0)) else (some true)) else (some false)) = some r := h
  clear h
  by_cases c2 : (Int.tmod a0 4) = 0
  · rw [if_pos c2] at H
    have c2b0 : ((Int.tmod a0 4) == 0) = true := beq_iff_eq.mpr c2
    have c2b1 : ((Int.tmod a0 4) != 0) = false := bne_eq_false_iff_eq.mpr c2
    clear c2
    by_cases c3 : (Int.tmod a0 100) = 0
    · rw [if_pos c3] at H
      have c3b0 : ((Int.tmod a0 100) == 0) = true := beq_iff_eq.mpr c3
      have c3b1 : ((Int.tmod a0 100) != 0) = false := bne_eq_false_iff_eq.mpr c3
      clear c3
      obtain rfl := Option.some.inj H
      go_enter Tryd.func41, Tryd.ntmps41
      go_wp2
      go_ret
      exact ⟨by first | rfl | (simp; done) | (simp [*]; done), by repeat (first | exact Drawn0.refl _ | apply Drawn0.step)⟩
    · rw [if_neg c3] at H
      have c3b0 : ((Int.tmod a0 100) == 0) = false := beq_eq_false_iff_ne.mpr c3
      have c3b1 : ((Int.tmod a0 100) != 0) = true := bne_iff_ne.mpr c3
      obtain rfl := Option.some.inj H
      go_enter Tryd.func41, Tryd.ntmps41
      go_wp2
      go_ret
      exact ⟨by first | rfl | (simp; done) | (simp [*]; done), by repeat (first | exact Drawn0.refl _ | apply Drawn0.step)⟩
  · rw [if_neg c2] at H
    have c2b0 : ((Int.tmod a0 4) == 0) = false := beq_eq_false_iff_ne.mpr c2
    have c2b1 : ((Int.tmod a0 4) != 0) = true := bne_iff_ne.mpr c2
    obtain rfl := Option.some.inj H
    go_enter Tryd.func41, Tryd.ntmps41
    go_wp2
    go_ret
    exact ⟨by first | rfl | (simp; done) | (simp [*]; done), by repeat (first | exact Drawn0.refl _ | apply Drawn0.step)⟩

/-! ### mailbagref18_days: function 42 -/
def mailbagref18_days.f (a0 : Int) (a1 : Int) : Option (Int) := (some (([31, 28, 31, 30, 31, 30, 31, 31, 30, 31, 30, 31] : List Int) : List Int)).bind fun y134 => (if a0 = 1 then ((mailbagref18_leap.f a1).bind fun t137 => (if t137 = true then (some 29) else (if 0 ≤ a0 then (if a0 < (y134.length : Int) then (some (rd y134 a0)) else (none)) else (none)))) else (if 0 ≤ a0 then (if a0 < (y134.length : Int) then (some (rd y134 a0)) else (none)) else (none)))
set_option maxHeartbeats 8000000 in
set_option maxRecDepth 100000 in
theorem mailbagref18_days.calls (a0 : Int) (a1 : Int) (r : Int) (w : World) (h : mailbagref18_days.f a0 a1 = some r) :
    Calls Tryd.prog 42 #[.int .i64 a0, .int .i64 a1] w fun e w' => e = .returned (.int .i64 r) ∧ Below w.heap.size w w' := by
  have HB := Aside0.mk (Below.refl w.heap.size w)
  have H : ((some (([31, 28, 31, 30, 31, 30, 31, 31, 30, 31, 30, 31] : List Int) : List Int)).bind fun y134 => (if a0 = 1 then ((mailbagref18_leap.f a1).bind fun t137 => (if t137 = true then (some 29) else (if 0 ≤ a0 then (if a0 < (y134.length : Int) then (some (rd y134 a0)) else (none)) else (none)))) else (if 0 ≤ a0 then (if a0 < (y134.length : Int) then (some (rd y134 a0)) else (none)) else (none)))) = some r := h
  clear h
  obtain ⟨y134, hy134⟩ : ∃ y_ : List Int, y_ = (([31, 28, 31, 30, 31, 30, 31, 31, 30, 31, 30, 31] : List Int)) := ⟨_, rfl⟩
  replace H : (if a0 = 1 then ((mailbagref18_leap.f a1).bind fun t137 => (if t137 = true then (some 29) else (if 0 ≤ a0 then (if a0 < (y134.length : Int) then (some (rd y134 a0)) else (none)) else (none)))) else (if 0 ≤ a0 then (if a0 < (y134.length : Int) then (some (rd y134 a0)) else (none)) else (none))) = some r := by first | (rw [hy134]; with_reducible exact H) | (have H2_ := (Option.bind_some _ _).symm.trans H; rw [hy134]; with_reducible exact H2_) | (have H2_ := (Option.bind_some _ _).symm.trans H; with_reducible exact H2_) | with_reducible exact H | (rw [hy134]; exact H) | exact H
  have Ny134 := Aside0.mk hy134
  clear hy134
  by_cases c3 : a0 = 1
  · rw [if_pos c3] at H
    have c3b0 : (a0 == 1) = true := beq_iff_eq.mpr c3
    have c3b1 : (a0 != 1) = false := bne_eq_false_iff_eq.mpr c3
    clear c3
    replace H := Option.bind_eq_some_iff.mp H
    obtain ⟨t137, A40, H⟩ := H
    replace H : (if t137 = true then (some 29) else (if 0 ≤ a0 then (if a0 < (y134.length : Int) then (some (rd y134 a0)) else (none)) else (none))) = some r := H
    have A4 := Aside0.mk A40
    clear A40
    by_cases c5 : t137 = true
    · subst c5
      have H1 : (some 29) = some r := by rw [if_pos rfl] at H; exact H
      clear H
      have H := H1
      clear H1
      obtain rfl := Option.some.inj H
      go_enter Tryd.func42, Tryd.ntmps42
      go_wp2_with (first | ((with_reducible refine gate_dst (N := 6) rfl ?_); refine Kd.R_lit (Kd.int .i64) _ 3 ?hg (N := 6) ?hd (xs := ([31, 28, 31, 30, 31, 30, 31, 31, 30, 31, 30, 31] : List Int)) (inner := [.int .i64 31, .int .i64 28, .int .i64 31, .int .i64 30, .int .i64 31, .int .i64 30, .int .i64 31, .int .i64 31, .int .i64 30, .int .i64 31, .int .i64 30, .int .i64 31]) (ok := fun _ => True) (okp := fun _ => True) ?hr ?hp (fun _ hk => hk) trivial (Below.refl _ _) (Nat.le_refl _) (by simp) ?_; (case hd => rfl); (case hg => rfl); (case hr => first | (go_simp; done) | (go_simp; rfl)); (case hp => exact (Reps.one (show Kd.M (Kd.int .i64) _ _ _ 31 [.int .i64 31] from rfl) (Reps.one (show Kd.M (Kd.int .i64) _ _ _ 28 [.int .i64 28] from rfl) (Reps.one (show Kd.M (Kd.int .i64) _ _ _ 31 [.int .i64 31] from rfl) (Reps.one (show Kd.M (Kd.int .i64) _ _ _ 30 [.int .i64 30] from rfl) (Reps.one (show Kd.M (Kd.int .i64) _ _ _ 31 [.int .i64 31] from rfl) (Reps.one (show Kd.M (Kd.int .i64) _ _ _ 30 [.int .i64 30] from rfl) (Reps.one (show Kd.M (Kd.int .i64) _ _ _ 31 [.int .i64 31] from rfl) (Reps.one (show Kd.M (Kd.int .i64) _ _ _ 31 [.int .i64 31] from rfl) (Reps.one (show Kd.M (Kd.int .i64) _ _ _ 30 [.int .i64 30] from rfl) (Reps.one (show Kd.M (Kd.int .i64) _ _ _ 31 [.int .i64 31] from rfl) (Reps.one (show Kd.M (Kd.int .i64) _ _ _ 30 [.int .i64 30] from rfl) (Reps.one (show Kd.M (Kd.int .i64) _ _ _ 31 [.int .i64 31] from rfl) (Reps.none _ _)))))))))))))); intro v135 w6 ho7 hb hg_ hnew_; clear hg_ hnew_; (first | rw [← Ny134.out] at ho7 | (simp only [Int.reduceToNat] at ho7; rw [← Ny134.out] at ho7)); have n0_ := Aside0.mk (Kd.R_lower ho7 (below_size (by repeat (first | (with_reducible first | exact HB.out | apply below_alloc | apply pw_below_drewN | apply below_drew1) | exact HB.out)))); have n1_ := Aside0.mk (below_step (by repeat (first | (with_reducible first | exact HB.out | apply below_alloc | apply pw_below_drewN | apply below_drew1) | exact HB.out)) hb); clear HB; have HO136 := n0_; have HB := n1_; clear n0_ n1_; clear hb ho7) | (go_at_call 41; (with_reducible refine (mailbagref18_leap.calls a1 true _ A4.out).mono ?_); rintro e w' ⟨rfl, ⟨nd, rfl⟩⟩))
      go_ret
      exact ⟨by first | rfl | (simp [errW_none, errW_some] <;> rfl) | (simp [*, errW_none, errW_some] <;> rfl), by repeat (first | (with_reducible first | exact HB.out | apply below_alloc | apply pw_below_drewN | apply below_drew1) | exact HB.out)⟩
    · replace c5 := Bool.eq_false_iff.mpr c5
      subst c5
      have H1 : (if 0 ≤ a0 then (if a0 < (y134.length : Int) then (some (rd y134 a0)) else (none)) else (none)) = some r := by rw [if_neg (show ¬ (false = true) by decide)] at H; exact H
      clear H
      have H := H1
      clear H1
      by_cases c8 : 0 ≤ a0
      · rw [if_pos c8] at H
        have c8b0 : decide (0 ≤ a0) = true := decide_eq_true c8
        clear c8
        by_cases c9 : a0 < (y134.length : Int)
        · rw [if_pos c9] at H
          have c9b0 : decide (a0 < (y134.length : Int)) = true := decide_eq_true c9
          clear c9
          obtain rfl := Option.some.inj H
          go_enter Tryd.func42, Tryd.ntmps42
          go_wp2_with (first | ((with_reducible refine gate_dst (N := 6) rfl ?_); refine Kd.R_lit (Kd.int .i64) _ 3 ?hg (N := 6) ?hd (xs := ([31, 28, 31, 30, 31, 30, 31, 31, 30, 31, 30, 31] : List Int)) (inner := [.int .i64 31, .int .i64 28, .int .i64 31, .int .i64 30, .int .i64 31, .int .i64 30, .int .i64 31, .int .i64 31, .int .i64 30, .int .i64 31, .int .i64 30, .int .i64 31]) (ok := fun _ => True) (okp := fun _ => True) ?hr ?hp (fun _ hk => hk) trivial (Below.refl _ _) (Nat.le_refl _) (by simp) ?_; (case hd => rfl); (case hg => rfl); (case hr => first | (go_simp; done) | (go_simp; rfl)); (case hp => exact (Reps.one (show Kd.M (Kd.int .i64) _ _ _ 31 [.int .i64 31] from rfl) (Reps.one (show Kd.M (Kd.int .i64) _ _ _ 28 [.int .i64 28] from rfl) (Reps.one (show Kd.M (Kd.int .i64) _ _ _ 31 [.int .i64 31] from rfl) (Reps.one (show Kd.M (Kd.int .i64) _ _ _ 30 [.int .i64 30] from rfl) (Reps.one (show Kd.M (Kd.int .i64) _ _ _ 31 [.int .i64 31] from rfl) (Reps.one (show Kd.M (Kd.int .i64) _ _ _ 30 [.int .i64 30] from rfl) (Reps.one (show Kd.M (Kd.int .i64) _ _ _ 31 [.int .i64 31] from rfl) (Reps.one (show Kd.M (Kd.int .i64) _ _ _ 31 [.int .i64 31] from rfl) (Reps.one (show Kd.M (Kd.int .i64) _ _ _ 30 [.int .i64 30] from rfl) (Reps.one (show Kd.M (Kd.int .i64) _ _ _ 31 [.int .i64 31] from rfl) (Reps.one (show Kd.M (Kd.int .i64) _ _ _ 30 [.int .i64 30] from rfl) (Reps.one (show Kd.M (Kd.int .i64) _ _ _ 31 [.int .i64 31] from rfl) (Reps.none _ _)))))))))))))); intro v135 w10 ho11 hb hg_ hnew_; clear hg_ hnew_; (first | rw [← Ny134.out] at ho11 | (simp only [Int.reduceToNat] at ho11; rw [← Ny134.out] at ho11)); have n0_ := Aside0.mk (Kd.R_lower ho11 (below_size (by repeat (first | (with_reducible first | exact HB.out | apply below_alloc | apply pw_below_drewN | apply below_drew1) | exact HB.out)))); have n1_ := Aside0.mk (below_step (by repeat (first | (with_reducible first | exact HB.out | apply below_alloc | apply pw_below_drewN | apply below_drew1) | exact HB.out)) hb); clear HB; have HO136 := n0_; have HB := n1_; clear n0_ n1_; clear hb ho11) | (go_at_call 41; (with_reducible refine (mailbagref18_leap.calls a1 false _ A4.out).mono ?_); rintro e w' ⟨rfl, ⟨nd, rfl⟩⟩; obtain ⟨Ao12, co12, eo12⟩ := Kd.R_slice HO136.out; subst eo12; have p138 : 0 ≤ (a0 : Int) := of_decide_eq_true (by first | (with_reducible assumption) | assumption); have q138 : a0 < (y134.length : Int) := of_decide_eq_true (by first | (with_reducible assumption) | assumption); obtain ⟨ad138, e138, hx138_0⟩ := Kd.at_int (Kd.R_reads' HO136.out).2.2 a0 p138 q138; cases e138; replace p138 := eq_true p138; replace q138 := eq_true q138))
          go_ret
          exact ⟨by first | rfl | (simp [errW_none, errW_some] <;> rfl) | (simp [*, errW_none, errW_some] <;> rfl), by repeat (first | (with_reducible first | exact HB.out | apply below_alloc | apply pw_below_drewN | apply below_drew1) | exact HB.out)⟩
        · rw [if_neg c9] at H
          exact absurd H (by simp)
      · rw [if_neg c8] at H
        exact absurd H (by simp)
  · rw [if_neg c3] at H
    have c3b0 : (a0 == 1) = false := beq_eq_false_iff_ne.mpr c3
    have c3b1 : (a0 != 1) = true := bne_iff_ne.mpr c3
    by_cases c13 : 0 ≤ a0
    · rw [if_pos c13] at H
      have c13b0 : decide (0 ≤ a0) = true := decide_eq_true c13
      clear c13
      by_cases c14 : a0 < (y134.length : Int)
      · rw [if_pos c14] at H
        have c14b0 : decide (a0 < (y134.length : Int)) = true := decide_eq_true c14
        clear c14
        obtain rfl := Option.some.inj H
        go_enter Tryd.func42, Tryd.ntmps42
        go_wp2_with (first | ((with_reducible refine gate_dst (N := 6) rfl ?_); refine Kd.R_lit (Kd.int .i64) _ 3 ?hg (N := 6) ?hd (xs := ([31, 28, 31, 30, 31, 30, 31, 31, 30, 31, 30, 31] : List Int)) (inner := [.int .i64 31, .int .i64 28, .int .i64 31, .int .i64 30, .int .i64 31, .int .i64 30, .int .i64 31, .int .i64 31, .int .i64 30, .int .i64 31, .int .i64 30, .int .i64 31]) (ok := fun _ => True) (okp := fun _ => True) ?hr ?hp (fun _ hk => hk) trivial (Below.refl _ _) (Nat.le_refl _) (by simp) ?_; (case hd => rfl); (case hg => rfl); (case hr => first | (go_simp; done) | (go_simp; rfl)); (case hp => exact (Reps.one (show Kd.M (Kd.int .i64) _ _ _ 31 [.int .i64 31] from rfl) (Reps.one (show Kd.M (Kd.int .i64) _ _ _ 28 [.int .i64 28] from rfl) (Reps.one (show Kd.M (Kd.int .i64) _ _ _ 31 [.int .i64 31] from rfl) (Reps.one (show Kd.M (Kd.int .i64) _ _ _ 30 [.int .i64 30] from rfl) (Reps.one (show Kd.M (Kd.int .i64) _ _ _ 31 [.int .i64 31] from rfl) (Reps.one (show Kd.M (Kd.int .i64) _ _ _ 30 [.int .i64 30] from rfl) (Reps.one (show Kd.M (Kd.int .i64) _ _ _ 31 [.int .i64 31] from rfl) (Reps.one (show Kd.M (Kd.int .i64) _ _ _ 31 [.int .i64 31] from rfl) (Reps.one (show Kd.M (Kd.int .i64) _ _ _ 30 [.int .i64 30] from rfl) (Reps.one (show Kd.M (Kd.int .i64) _ _ _ 31 [.int .i64 31] from rfl) (Reps.one (show Kd.M (Kd.int .i64) _ _ _ 30 [.int .i64 30] from rfl) (Reps.one (show Kd.M (Kd.int .i64) _ _ _ 31 [.int .i64 31] from rfl) (Reps.none _ _)))))))))))))); intro v135 w15 ho16 hb hg_ hnew_; clear hg_ hnew_; (first | rw [← Ny134.out] at ho16 | (simp only [Int.reduceToNat] at ho16; rw [← Ny134.out] at ho16)); have n0_ := Aside0.mk (Kd.R_lower ho16 (below_size (by repeat (first | (with_reducible first | exact HB.out | apply below_alloc | apply pw_below_drewN | apply below_drew1) | exact HB.out)))); have n1_ := Aside0.mk (below_step (by repeat (first | (with_reducible first | exact HB.out | apply below_alloc | apply pw_below_drewN | apply below_drew1) | exact HB.out)) hb); clear HB; have HO136 := n0_; have HB := n1_; clear n0_ n1_; clear hb ho16; obtain ⟨Ao17, co17, eo17⟩ := Kd.R_slice HO136.out; subst eo17; have p139 : 0 ≤ (a0 : Int) := of_decide_eq_true (by first | (with_reducible assumption) | assumption); have q139 : a0 < (y134.length : Int) := of_decide_eq_true (by first | (with_reducible assumption) | assumption); obtain ⟨ad139, e139, hx139_0⟩ := Kd.at_int (Kd.R_reads' HO136.out).2.2 a0 p139 q139; cases e139; replace p139 := eq_true p139; replace q139 := eq_true q139))
        go_ret
        exact ⟨by first | rfl | (simp [errW_none, errW_some] <;> rfl) | (simp [*, errW_none, errW_some] <;> rfl), by repeat (first | (with_reducible first | exact HB.out | apply below_alloc | apply pw_below_drewN | apply below_drew1) | exact HB.out)⟩
      · rw [if_neg c14] at H
        exact absurd H (by simp)
    · rw [if_neg c13] at H
      exact absurd H (by simp)

/-! ### mailbagref18_two: function 43 -/
def mailbagref18_two.f (a0 : Int) : Option (ByteArray) := some (strOfNums (([(wrap64 (48 + (Int.tmod (wrap64 (Int.tdiv a0 10)) 10))) % 256, (wrap64 (48 + (Int.tmod a0 10))) % 256] : List Int)))
set_option maxHeartbeats 8000000 in
set_option maxRecDepth 100000 in
theorem mailbagref18_two.calls (a0 : Int) (r : ByteArray) (w : World) (h : mailbagref18_two.f a0 = some r) :
    Calls Tryd.prog 43 #[.int .i64 a0] w fun e w' => e = .returned (.string r) ∧ Below w.heap.size w w' := by
  have HB := Aside0.mk (Below.refl w.heap.size w)
  have H : (some (strOfNums (([(wrap64 (48 + (Int.tmod (wrap64 (Int.tdiv a0 10)) 10))) % 256, (wrap64 (48 + (Int.tmod a0 10))) % 256] : List Int)))) = some r := h
  clear h
  obtain ⟨y140, hy140⟩ : ∃ y_ : List Int, y_ = (([(wrap64 (48 + (Int.tmod (wrap64 (Int.tdiv a0 10)) 10))) % 256, (wrap64 (48 + (Int.tmod a0 10))) % 256] : List Int)) := ⟨_, rfl⟩
  replace H : (some (strOfNums y140)) = some r := by first | (rw [hy140]; with_reducible exact H) | (have H2_ := (Option.bind_some _ _).symm.trans H; rw [hy140]; with_reducible exact H2_) | (have H2_ := (Option.bind_some _ _).symm.trans H; with_reducible exact H2_) | with_reducible exact H | (rw [hy140]; exact H) | exact H
  have Ny140 := Aside0.mk hy140
  clear hy140
  obtain rfl := Option.some.inj H
  go_enter Tryd.func43, Tryd.ntmps43
  go_wp2_with (first | ((with_reducible refine gate_dst (N := 12) rfl ?_); refine Kd.R_lit (Kd.int .u8) _ 5 ?hg (N := 12) ?hd (xs := ([(wrap64 (48 + (Int.tmod (wrap64 (Int.tdiv a0 10)) 10))) % 256, (wrap64 (48 + (Int.tmod a0 10))) % 256] : List Int)) (inner := [.int .u8 ((wrap64 (48 + (Int.tmod (wrap64 (Int.tdiv a0 10)) 10))) % 256), .int .u8 ((wrap64 (48 + (Int.tmod a0 10))) % 256)]) (ok := fun _ => True) (okp := fun _ => True) ?hr ?hp (fun _ hk => hk) trivial (Below.refl _ _) (Nat.le_refl _) (by simp) ?_; (case hd => rfl); (case hg => rfl); (case hr => first | (go_simp; done) | (go_simp; rfl)); (case hp => exact (Reps.one (show Kd.M (Kd.int .u8) _ _ _ ((wrap64 (48 + (Int.tmod (wrap64 (Int.tdiv a0 10)) 10))) % 256) [.int .u8 ((wrap64 (48 + (Int.tmod (wrap64 (Int.tdiv a0 10)) 10))) % 256)] from rfl) (Reps.one (show Kd.M (Kd.int .u8) _ _ _ ((wrap64 (48 + (Int.tmod a0 10))) % 256) [.int .u8 ((wrap64 (48 + (Int.tmod a0 10))) % 256)] from rfl) (Reps.none _ _)))); intro v141 w2 ho3 hb hg_ hnew_; clear hg_ hnew_; (first | rw [← Ny140.out] at ho3 | (simp only [Int.reduceToNat] at ho3; rw [← Ny140.out] at ho3)); have n0_ := Aside0.mk (Kd.R_lower ho3 (below_size (by repeat (first | (with_reducible first | exact HB.out | apply below_alloc | apply pw_below_drewN | apply below_drew1) | exact HB.out)))); have n1_ := Aside0.mk (below_step (by repeat (first | (with_reducible first | exact HB.out | apply below_alloc | apply pw_below_drewN | apply below_drew1) | exact HB.out)) hb); clear HB; have HO142 := n0_; have HB := n1_; clear n0_ n1_; clear hb ho3; have hcv4 := own_string (P := Tryd.prog) Tryd.underlying26 Tryd.underlying5 Tryd.underlying9 (Kd.own_of_R HO142.out)))
  go_ret
  exact ⟨by first | rfl | (simp [errW_none, errW_some] <;> rfl) | (simp [*, errW_none, errW_some] <;> rfl), by repeat (first | (with_reducible first | exact HB.out | apply below_alloc | apply pw_below_drewN | apply below_drew1) | exact HB.out)⟩

/-! ### mailbagref18_Date: function 11 -/
mutual
def mailbagref18_Date.j0 : Nat → Int → Option (ByteArray)
  | 0, _ => none
  | k + 1, x0 => if x0 > 253402300799 then (mailbagref18_Date.j1 k 253402300799) else (mailbagref18_Date.j1 k x0)
def mailbagref18_Date.j1 : Nat → Int → Option (ByteArray)
  | 0, _ => none
  | k + 1, x0 => (some (([(⟨#[84, 104, 117]⟩ : ByteArray), (⟨#[70, 114, 105]⟩ : ByteArray), (⟨#[83, 97, 116]⟩ : ByteArray), (⟨#[83, 117, 110]⟩ : ByteArray), (⟨#[77, 111, 110]⟩ : ByteArray), (⟨#[84, 117, 101]⟩ : ByteArray), (⟨#[87, 101, 100]⟩ : ByteArray)] : List ByteArray) : List ByteArray)).bind fun y143 => (if 0 ≤ (Int.tmod (wrap64 (Int.tdiv x0 86400)) 7) then (if (Int.tmod (wrap64 (Int.tdiv x0 86400)) 7) < (y143.length : Int) then (mailbagref18_Date.l0 k (Int.tmod (wrap64 (Int.tdiv x0 86400)) 146097) (Int.tmod x0 86400) (rdOf ByteArray.empty y143 (Int.tmod (wrap64 (Int.tdiv x0 86400)) 7)) (wrap64 (1970 + (wrap64 (400 * (wrap64 (Int.tdiv (wrap64 (Int.tdiv x0 86400)) 146097))))))) else (none)) else (none))
def mailbagref18_Date.j3 : Nat → Int → Int → ByteArray → Int → Option (ByteArray)
  | 0, _, _, _, _ => none
  | k + 1, x3, x4, x6, x7 => mailbagref18_Date.l1 k x3 x4 x6 x7 0
def mailbagref18_Date.l1 : Nat → Int → Int → ByteArray → Int → Int → Option (ByteArray)
  | 0, _, _, _, _, _ => none
  | k + 1, x3, x4, x6, x7, x9 => (mailbagref18_days.f x9 x7).bind fun t148 => (if x3 ≥ t148 then ((mailbagref18_days.f x9 x7).bind fun t149 => (mailbagref18_Date.l1 k (wrap64 (x3 - t149)) x4 x6 x7 (wrap64 (x9 + 1)))) else ((some (([(⟨#[74, 97, 110]⟩ : ByteArray), (⟨#[70, 101, 98]⟩ : ByteArray), (⟨#[77, 97, 114]⟩ : ByteArray), (⟨#[65, 112, 114]⟩ : ByteArray), (⟨#[77, 97, 121]⟩ : ByteArray), (⟨#[74, 117, 110]⟩ : ByteArray), (⟨#[74, 117, 108]⟩ : ByteArray), (⟨#[65, 117, 103]⟩ : ByteArray), (⟨#[83, 101, 112]⟩ : ByteArray), (⟨#[79, 99, 116]⟩ : ByteArray), (⟨#[78, 111, 118]⟩ : ByteArray), (⟨#[68, 101, 99]⟩ : ByteArray)] : List ByteArray) : List ByteArray)).bind fun y150 => (if x6.size + 2 ≤ 9223372036854775807 then ((mailbagref18_two.f (wrap64 (x3 + 1))).bind fun t153 => (if (x6 ++ (⟨#[44, 32]⟩ : ByteArray)).size + t153.size ≤ 9223372036854775807 then (if ((x6 ++ (⟨#[44, 32]⟩ : ByteArray)) ++ t153).size + 1 ≤ 9223372036854775807 then (if 0 ≤ x9 then (if x9 < (y150.length : Int) then (if (((x6 ++ (⟨#[44, 32]⟩ : ByteArray)) ++ t153) ++ (⟨#[32]⟩ : ByteArray)).size + (rdOf ByteArray.empty y150 x9).size ≤ 9223372036854775807 then (if ((((x6 ++ (⟨#[44, 32]⟩ : ByteArray)) ++ t153) ++ (⟨#[32]⟩ : ByteArray)) ++ (rdOf ByteArray.empty y150 x9)).size + 1 ≤ 9223372036854775807 then ((mailbagref18_two.f (wrap64 (Int.tdiv x7 100))).bind fun t155 => (if (((((x6 ++ (⟨#[44, 32]⟩ : ByteArray)) ++ t153) ++ (⟨#[32]⟩ : ByteArray)) ++ (rdOf ByteArray.empty y150 x9)) ++ (⟨#[32]⟩ : ByteArray)).size + t155.size ≤ 9223372036854775807 then ((mailbagref18_two.f x7).bind fun t156 => (if ((((((x6 ++ (⟨#[44, 32]⟩ : ByteArray)) ++ t153) ++ (⟨#[32]⟩ : ByteArray)) ++ (rdOf ByteArray.empty y150 x9)) ++ (⟨#[32]⟩ : ByteArray)) ++ t155).size + t156.size ≤ 9223372036854775807 then (if (((((((x6 ++ (⟨#[44, 32]⟩ : ByteArray)) ++ t153) ++ (⟨#[32]⟩ : ByteArray)) ++ (rdOf ByteArray.empty y150 x9)) ++ (⟨#[32]⟩ : ByteArray)) ++ t155) ++ t156).size + 1 ≤ 9223372036854775807 then ((mailbagref18_two.f (wrap64 (Int.tdiv x4 3600))).bind fun t157 => (if ((((((((x6 ++ (⟨#[44, 32]⟩ : ByteArray)) ++ t153) ++ (⟨#[32]⟩ : ByteArray)) ++ (rdOf ByteArray.empty y150 x9)) ++ (⟨#[32]⟩ : ByteArray)) ++ t155) ++ t156) ++ (⟨#[32]⟩ : ByteArray)).size + t157.size ≤ 9223372036854775807 then (if (((((((((x6 ++ (⟨#[44, 32]⟩ : ByteArray)) ++ t153) ++ (⟨#[32]⟩ : ByteArray)) ++ (rdOf ByteArray.empty y150 x9)) ++ (⟨#[32]⟩ : ByteArray)) ++ t155) ++ t156) ++ (⟨#[32]⟩ : ByteArray)) ++ t157).size + 1 ≤ 9223372036854775807 then ((mailbagref18_two.f (Int.tmod (wrap64 (Int.tdiv x4 60)) 60)).bind fun t158 => (if ((((((((((x6 ++ (⟨#[44, 32]⟩ : ByteArray)) ++ t153) ++ (⟨#[32]⟩ : ByteArray)) ++ (rdOf ByteArray.empty y150 x9)) ++ (⟨#[32]⟩ : ByteArray)) ++ t155) ++ t156) ++ (⟨#[32]⟩ : ByteArray)) ++ t157) ++ (⟨#[58]⟩ : ByteArray)).size + t158.size ≤ 9223372036854775807 then (if (((((((((((x6 ++ (⟨#[44, 32]⟩ : ByteArray)) ++ t153) ++ (⟨#[32]⟩ : ByteArray)) ++ (rdOf ByteArray.empty y150 x9)) ++ (⟨#[32]⟩ : ByteArray)) ++ t155) ++ t156) ++ (⟨#[32]⟩ : ByteArray)) ++ t157) ++ (⟨#[58]⟩ : ByteArray)) ++ t158).size + 1 ≤ 9223372036854775807 then ((mailbagref18_two.f (Int.tmod x4 60)).bind fun t159 => (if ((((((((((((x6 ++ (⟨#[44, 32]⟩ : ByteArray)) ++ t153) ++ (⟨#[32]⟩ : ByteArray)) ++ (rdOf ByteArray.empty y150 x9)) ++ (⟨#[32]⟩ : ByteArray)) ++ t155) ++ t156) ++ (⟨#[32]⟩ : ByteArray)) ++ t157) ++ (⟨#[58]⟩ : ByteArray)) ++ t158) ++ (⟨#[58]⟩ : ByteArray)).size + t159.size ≤ 9223372036854775807 then (if (((((((((((((x6 ++ (⟨#[44, 32]⟩ : ByteArray)) ++ t153) ++ (⟨#[32]⟩ : ByteArray)) ++ (rdOf ByteArray.empty y150 x9)) ++ (⟨#[32]⟩ : ByteArray)) ++ t155) ++ t156) ++ (⟨#[32]⟩ : ByteArray)) ++ t157) ++ (⟨#[58]⟩ : ByteArray)) ++ t158) ++ (⟨#[58]⟩ : ByteArray)) ++ t159).size + 6 ≤ 9223372036854775807 then (some ((((((((((((((x6 ++ (⟨#[44, 32]⟩ : ByteArray)) ++ t153) ++ (⟨#[32]⟩ : ByteArray)) ++ (rdOf ByteArray.empty y150 x9)) ++ (⟨#[32]⟩ : ByteArray)) ++ t155) ++ t156) ++ (⟨#[32]⟩ : ByteArray)) ++ t157) ++ (⟨#[58]⟩ : ByteArray)) ++ t158) ++ (⟨#[58]⟩ : ByteArray)) ++ t159) ++ (⟨#[32, 43, 48, 48, 48, 48]⟩ : ByteArray))) else (none)) else (none))) else (none)) else (none))) else (none)) else (none))) else (none)) else (none))) else (none))) else (none)) else (none)) else (none)) else (none)) else (none)) else (none))) else (none))))
def mailbagref18_Date.l0 : Nat → Int → Int → ByteArray → Int → Option (ByteArray)
  | 0, _, _, _, _ => none
  | k + 1, x3, x4, x6, x7 => (mailbagref18_leap.f x7).bind fun t147 => (if t147 = true then (if x3 < 366 then (mailbagref18_Date.j3 k x3 x4 x6 x7) else (mailbagref18_Date.l0 k (wrap64 (x3 - 366)) x4 x6 (wrap64 (x7 + 1)))) else (if x3 < 365 then (mailbagref18_Date.j3 k x3 x4 x6 x7) else (mailbagref18_Date.l0 k (wrap64 (x3 - 365)) x4 x6 (wrap64 (x7 + 1)))))
end
def mailbagref18_Date.f (k : Nat) (a0 : Int) : Option (ByteArray) := if a0 < 0 then (mailbagref18_Date.j0 k 0) else (mailbagref18_Date.j0 k a0)
theorem mailbagref18_Date.mono_l : ∀ k, (∀ y0, LeO (mailbagref18_Date.j0 k y0) (mailbagref18_Date.j0 (k + 1) y0)) ∧ (∀ y0, LeO (mailbagref18_Date.j1 k y0) (mailbagref18_Date.j1 (k + 1) y0)) ∧ (∀ y0 y1 y2 y3, LeO (mailbagref18_Date.j3 k y0 y1 y2 y3) (mailbagref18_Date.j3 (k + 1) y0 y1 y2 y3)) ∧ (∀ y0 y1 y2 y3 y4, LeO (mailbagref18_Date.l1 k y0 y1 y2 y3 y4) (mailbagref18_Date.l1 (k + 1) y0 y1 y2 y3 y4)) ∧ (∀ y0 y1 y2 y3, LeO (mailbagref18_Date.l0 k y0 y1 y2 y3) (mailbagref18_Date.l0 (k + 1) y0 y1 y2 y3))
  | 0 => ⟨fun _ r h => by simp [mailbagref18_Date.j0] at h, fun _ r h => by simp [mailbagref18_Date.j1] at h, fun _ _ _ _ r h => by simp [mailbagref18_Date.j3] at h, fun _ _ _ _ _ r h => by simp [mailbagref18_Date.l1] at h, fun _ _ _ _ r h => by simp [mailbagref18_Date.l0] at h⟩
  | k + 1 => by
    obtain ⟨ih0, ih1, ih2, ih3, ih4⟩ := mailbagref18_Date.mono_l k
    refine ⟨?_, ?_, ?_, ?_, ?_⟩
    · intro y0
      unfold mailbagref18_Date.j0
      repeat' first
      | (with_reducible exact ih0 _)
      | (with_reducible exact ih1 _)
      | (with_reducible exact ih2 _ _ _ _)
      | (with_reducible exact ih3 _ _ _ _ _)
      | (with_reducible exact ih4 _ _ _ _)
      | (with_reducible exact LeO.refl _)
      | (with_reducible exact LeO.none _)
      | (with_reducible refine LeO.ite ?_ ?_)
      | (with_reducible refine LeO.bind ?_ (fun _ => ?_))
      | exact ih0 _
      | exact ih1 _
      | exact ih2 _ _ _ _
      | exact ih3 _ _ _ _ _
      | exact ih4 _ _ _ _
      | exact LeO.none _
      | refine LeO.ite ?_ ?_
      | refine LeO.bind ?_ (fun _ => ?_)
    · intro y0
      unfold mailbagref18_Date.j1
      repeat' first
      | (with_reducible exact ih0 _)
      | (with_reducible exact ih1 _)
      | (with_reducible exact ih2 _ _ _ _)
      | (with_reducible exact ih3 _ _ _ _ _)
      | (with_reducible exact ih4 _ _ _ _)
      | (with_reducible exact LeO.refl _)
      | (with_reducible exact LeO.none _)
      | (with_reducible refine LeO.ite ?_ ?_)
      | (with_reducible refine LeO.bind ?_ (fun _ => ?_))
      | exact ih0 _
      | exact ih1 _
      | exact ih2 _ _ _ _
      | exact ih3 _ _ _ _ _
      | exact ih4 _ _ _ _
      | exact LeO.none _
      | refine LeO.ite ?_ ?_
      | refine LeO.bind ?_ (fun _ => ?_)
    · intro y0 y1 y2 y3
      unfold mailbagref18_Date.j3
      repeat' first
      | (with_reducible exact ih0 _)
      | (with_reducible exact ih1 _)
      | (with_reducible exact ih2 _ _ _ _)
      | (with_reducible exact ih3 _ _ _ _ _)
      | (with_reducible exact ih4 _ _ _ _)
      | (with_reducible exact LeO.refl _)
      | (with_reducible exact LeO.none _)
      | (with_reducible refine LeO.ite ?_ ?_)
      | (with_reducible refine LeO.bind ?_ (fun _ => ?_))
      | exact ih0 _
      | exact ih1 _
      | exact ih2 _ _ _ _
      | exact ih3 _ _ _ _ _
      | exact ih4 _ _ _ _
      | exact LeO.none _
      | refine LeO.ite ?_ ?_
      | refine LeO.bind ?_ (fun _ => ?_)
    · intro y0 y1 y2 y3 y4
      unfold mailbagref18_Date.l1
      repeat' first
      | (with_reducible exact ih0 _)
      | (with_reducible exact ih1 _)
      | (with_reducible exact ih2 _ _ _ _)
      | (with_reducible exact ih3 _ _ _ _ _)
      | (with_reducible exact ih4 _ _ _ _)
      | (with_reducible exact LeO.refl _)
      | (with_reducible exact LeO.none _)
      | (with_reducible refine LeO.ite ?_ ?_)
      | (with_reducible refine LeO.bind ?_ (fun _ => ?_))
      | exact ih0 _
      | exact ih1 _
      | exact ih2 _ _ _ _
      | exact ih3 _ _ _ _ _
      | exact ih4 _ _ _ _
      | exact LeO.none _
      | refine LeO.ite ?_ ?_
      | refine LeO.bind ?_ (fun _ => ?_)
    · intro y0 y1 y2 y3
      unfold mailbagref18_Date.l0
      repeat' first
      | (with_reducible exact ih0 _)
      | (with_reducible exact ih1 _)
      | (with_reducible exact ih2 _ _ _ _)
      | (with_reducible exact ih3 _ _ _ _ _)
      | (with_reducible exact ih4 _ _ _ _)
      | (with_reducible exact LeO.refl _)
      | (with_reducible exact LeO.none _)
      | (with_reducible refine LeO.ite ?_ ?_)
      | (with_reducible refine LeO.bind ?_ (fun _ => ?_))
      | exact ih0 _
      | exact ih1 _
      | exact ih2 _ _ _ _
      | exact ih3 _ _ _ _ _
      | exact ih4 _ _ _ _
      | exact LeO.none _
      | refine LeO.ite ?_ ?_
      | refine LeO.bind ?_ (fun _ => ?_)
theorem mailbagref18_Date.mono : ∀ a0 k, LeO (mailbagref18_Date.f k a0) (mailbagref18_Date.f (k + 1) a0) := by
  intro a0 k
  obtain ⟨ih0, ih1, ih2, ih3, ih4⟩ := mailbagref18_Date.mono_l k
  unfold mailbagref18_Date.f
  repeat' first
      | (with_reducible exact ih0 _)
      | (with_reducible exact ih1 _)
      | (with_reducible exact ih2 _ _ _ _)
      | (with_reducible exact ih3 _ _ _ _ _)
      | (with_reducible exact ih4 _ _ _ _)
      | (with_reducible exact LeO.refl _)
      | (with_reducible exact LeO.none _)
      | (with_reducible refine LeO.ite ?_ ?_)
      | (with_reducible refine LeO.bind ?_ (fun _ => ?_))
      | exact ih0 _
      | exact ih1 _
      | exact ih2 _ _ _ _
      | exact ih3 _ _ _ _ _
      | exact ih4 _ _ _ _
      | exact LeO.none _
      | refine LeO.ite ?_ ?_
      | refine LeO.bind ?_ (fun _ => ?_)
def mailbagref18_Date.T22 : Bool × List (List Nat × List Nat) := (true, [([], []), ([0], [0]), ([], []), ([2], [2]), ([3], [3]), ([1, 4], [1, 4]), ([5], [5]), ([], []), ([], []), ([7, 8], [7, 8]), ([9], [9]), ([6, 10], [6, 10]), ([11], [11]), ([], []), ([13], [13]), ([14, 4], [14]), ([12, 15], [12, 15]), ([], []), ([17, 15], [17]), ([16, 18], [16, 18]), ([19], [19]), ([], []), ([21], [21]), ([22, 18], [22]), ([20, 23], [20, 23]), ([24], [24]), ([], []), ([26], [26]), ([27], [27]), ([28, 23], [28]), ([25, 29], [25, 29]), ([30], [30]), ([], []), ([32], [32]), ([33, 29], [33]), ([31, 34], [31, 34]), ([35], [35]), ([36, 34, 0, 1, 2, 3, 4, 5, 6, 7, 8, 9, 10, 11, 12, 13, 14, 15, 16, 17, 18, 19, 20, 21, 22, 23, 24, 25, 26, 27, 28, 29, 30, 31, 32, 33, 34, 35, 36], [36])])
def mailbagref18_Date.B22 : List Nat := [0, 1, 0, 4, 12, 31, 63, 0, 0, 384, 896, 2047, 4095, 0, 8192, 24604, 65535, 0, 188444, 524287, 1048575, 0, 2097152, 6742044, 16777215, 33554431, 0, 67108864, 201326592, 484892700, 1073741823, 2147483647, 0, 4294967296, 13906665500, 34359738367, 68719476735, 137438953471]
theorem mailbagref18_Date.tab22 : rtab .any (opsOf Tryd.f11 22) = mailbagref18_Date.T22 := by kernel_rfl
theorem mailbagref18_Date.bits22 : waitsOk mailbagref18_Date.T22.2 mailbagref18_Date.B22 = true := by kernel_rfl
set_option maxHeartbeats 8000000 in
set_option maxRecDepth 100000 in
theorem mailbagref18_Date.calls (k : Nat) (a0 : Int) (r : ByteArray) (w : World) (h : mailbagref18_Date.f k a0 = some r) :
    Calls Tryd.prog 11 #[.int .i64 a0] w fun e w' => e = .returned (.string r) ∧ Below w.heap.size w w' := by
  have HB := Aside0.mk (Below.refl w.heap.size w)
  have H : (if a0 < 0 then (mailbagref18_Date.j0 k 0) else (mailbagref18_Date.j0 k a0)) = some r := h
  clear h
  have HC2 := Aside0.mk H
  clear H
  go_enter Tryd.func11, Tryd.ntmps11
  go_upto_if 12 with (fail)
  go_cut [0] (fun v0 wc => ∃ (kq : Nat) (x0_1 : Int), v0 = .int .i64 x0_1 ∧ Aside0 (mailbagref18_Date.j0 kq x0_1 = some r) ∧ Aside0 (kq ≤ k) ∧ Aside0 (Below w.heap.size w wc))
  case first =>
    have H := HC2.out
    clear HC2
    by_cases c3 : a0 < 0
    · rw [if_pos c3] at H
      have c3b0 : decide (a0 < 0) = true := decide_eq_true c3
      clear c3
      (first | rw [c3b0] | (simp only [i64_w, i32_w]; rw [c3b0]) | skip)
      have H' := Aside0.mk H
      clear H
      go_wp2
      go_meet
      case rel => exact ⟨_, (0), (by first | rfl | (simp; done) | (simp [*]; done)), H', ⟨by first | omega | exact Nat.le_refl _⟩, ⟨by repeat (first | (with_reducible first | exact HB.out | apply below_alloc | apply pw_below_drewN | apply below_drew1) | exact HB.out)⟩⟩
    · rw [if_neg c3] at H
      have c3b0 : decide (a0 < 0) = false := decide_eq_false c3
      clear c3
      (first | rw [c3b0] | (simp only [i64_w, i32_w]; rw [c3b0]) | skip)
      have H' := Aside0.mk H
      clear H
      go_wp2
      go_meet
      case rel => exact ⟨_, (a0), (by first | rfl | (simp; done) | (simp [*]; done)), H', ⟨by first | omega | exact Nat.le_refl _⟩, ⟨by repeat (first | (with_reducible first | exact HB.out | apply below_alloc | apply pw_below_drewN | apply below_drew1) | exact HB.out)⟩⟩
  case rest =>
    clear HC2
    try clear c1
    try clear p2
    try clear c3
    try clear c3b0
    obtain ⟨kq, x0_1, rfl, HA, HJ1, HB⟩ := hcut
    cases kq with
    | zero => exact absurd HA.out (by simp [mailbagref18_Date.j0])
    | succ kj1 =>
      have H := HA.out
      clear HA
      simp only [mailbagref18_Date.j0] at H
      have HC4 := Aside0.mk H
      clear H
      go_upto_if 14 with (fail)
      go_cut [0] (fun v0 wc => ∃ (kq : Nat) (x0_3 : Int), v0 = .int .i64 x0_3 ∧ Aside0 (mailbagref18_Date.j1 kq x0_3 = some r) ∧ Aside0 (kq ≤ kj1) ∧ Aside0 (Below w.heap.size w wc))
      case first =>
        have H := HC4.out
        clear HC4
        by_cases c5 : x0_1 > 253402300799
        · rw [if_pos c5] at H
          have c5b0 : decide (253402300799 < x0_1) = true := decide_eq_true c5
          clear c5
          (first | rw [c5b0] | (simp only [i64_w, i32_w]; rw [c5b0]) | skip)
          have H' := Aside0.mk H
          clear H
          go_wp2
          go_meet
          case rel => exact ⟨_, (253402300799), (by first | rfl | (simp; done) | (simp [*]; done)), H', ⟨by have := HJ1.out; first | omega | exact Nat.le_refl _⟩, ⟨by repeat (first | (with_reducible first | exact HB.out | apply below_alloc | apply pw_below_drewN | apply below_drew1) | exact HB.out)⟩⟩
        · rw [if_neg c5] at H
          have c5b0 : decide (253402300799 < x0_1) = false := decide_eq_false c5
          clear c5
          (first | rw [c5b0] | (simp only [i64_w, i32_w]; rw [c5b0]) | skip)
          have H' := Aside0.mk H
          clear H
          go_wp2
          go_meet
          case rel => exact ⟨_, (x0_1), (by first | rfl | (simp; done) | (simp [*]; done)), H', ⟨by have := HJ1.out; first | omega | exact Nat.le_refl _⟩, ⟨by repeat (first | (with_reducible first | exact HB.out | apply below_alloc | apply pw_below_drewN | apply below_drew1) | exact HB.out)⟩⟩
      case rest =>
        clear HC4
        try clear c1
        try clear p2
        try clear c3
        try clear c3b0
        try clear c5
        try clear c5b0
        try clear p2
        obtain ⟨kq, x0_3, rfl, HA, HJ3, HB⟩ := hcut
        cases kq with
        | zero => exact absurd HA.out (by simp [mailbagref18_Date.j1])
        | succ kj3 =>
          have H := HA.out
          clear HA
          simp only [mailbagref18_Date.j1] at H
          obtain ⟨y143, hy143⟩ : ∃ y_ : List ByteArray, y_ = (([(⟨#[84, 104, 117]⟩ : ByteArray), (⟨#[70, 114, 105]⟩ : ByteArray), (⟨#[83, 97, 116]⟩ : ByteArray), (⟨#[83, 117, 110]⟩ : ByteArray), (⟨#[77, 111, 110]⟩ : ByteArray), (⟨#[84, 117, 101]⟩ : ByteArray), (⟨#[87, 101, 100]⟩ : ByteArray)] : List ByteArray)) := ⟨_, rfl⟩
          replace H : (if 0 ≤ (Int.tmod (wrap64 (Int.tdiv x0_3 86400)) 7) then (if (Int.tmod (wrap64 (Int.tdiv x0_3 86400)) 7) < (y143.length : Int) then (mailbagref18_Date.l0 kj3 (Int.tmod (wrap64 (Int.tdiv x0_3 86400)) 146097) (Int.tmod x0_3 86400) (rdOf ByteArray.empty y143 (Int.tmod (wrap64 (Int.tdiv x0_3 86400)) 7)) (wrap64 (1970 + (wrap64 (400 * (wrap64 (Int.tdiv (wrap64 (Int.tdiv x0_3 86400)) 146097))))))) else (none)) else (none)) = some r := by first | (rw [hy143]; with_reducible exact H) | (have H2_ := (Option.bind_some _ _).symm.trans H; rw [hy143]; with_reducible exact H2_) | (have H2_ := (Option.bind_some _ _).symm.trans H; with_reducible exact H2_) | with_reducible exact H | (rw [hy143]; exact H) | exact H
          have Ny143 := Aside0.mk hy143
          clear hy143
          obtain ⟨ji6, hji6⟩ : ∃ j_ : Int, (Int.tmod (wrap64 (Int.tdiv x0_3 86400)) 7) = j_ := ⟨_, rfl⟩
          replace H : (if 0 ≤ (ji6) then (if (ji6) < (y143.length : Int) then (mailbagref18_Date.l0 kj3 (Int.tmod (wrap64 (Int.tdiv x0_3 86400)) 146097) (Int.tmod x0_3 86400) (rdOf ByteArray.empty y143 (ji6)) (wrap64 (1970 + (wrap64 (400 * (wrap64 (Int.tdiv (wrap64 (Int.tdiv x0_3 86400)) 146097))))))) else (none)) else (none)) = some r := by first | (rw [hji6] at H; exact H) | (simp only [hji6] at H ⊢; exact H)
          by_cases c7 : 0 ≤ (ji6)
          · rw [if_pos c7] at H
            have c7b0 : decide (0 ≤ (ji6)) = true := decide_eq_true c7
            clear c7
            by_cases c8 : (ji6) < (y143.length : Int)
            · rw [if_pos c8] at H
              have c8b0 : decide ((ji6) < (y143.length : Int)) = true := decide_eq_true c8
              clear c8
              have HC9 := Aside0.mk H
              clear H
              go_upto_block 0 with (first | ((with_reducible refine gate_dst (N := 19) rfl ?_); refine Kd.R_lit Kd.string _ 9 ?hg (N := 19) ?hd (xs := ([(⟨#[84, 104, 117]⟩ : ByteArray), (⟨#[70, 114, 105]⟩ : ByteArray), (⟨#[83, 97, 116]⟩ : ByteArray), (⟨#[83, 117, 110]⟩ : ByteArray), (⟨#[77, 111, 110]⟩ : ByteArray), (⟨#[84, 117, 101]⟩ : ByteArray), (⟨#[87, 101, 100]⟩ : ByteArray)] : List ByteArray)) (inner := [.string (⟨#[84, 104, 117]⟩ : ByteArray), .string (⟨#[70, 114, 105]⟩ : ByteArray), .string (⟨#[83, 97, 116]⟩ : ByteArray), .string (⟨#[83, 117, 110]⟩ : ByteArray), .string (⟨#[77, 111, 110]⟩ : ByteArray), .string (⟨#[84, 117, 101]⟩ : ByteArray), .string (⟨#[87, 101, 100]⟩ : ByteArray)]) (ok := fun _ => True) (okp := fun _ => True) ?hr ?hp (fun _ hk => hk) trivial (Below.refl _ _) (Nat.le_refl _) (by simp) ?_; (case hd => rfl); (case hg => rfl); (case hr => first | (go_simp; done) | (go_simp; rfl)); (case hp => exact (Reps.one (show Kd.M Kd.string _ _ _ (⟨#[84, 104, 117]⟩ : ByteArray) [.string (⟨#[84, 104, 117]⟩ : ByteArray)] from rfl) (Reps.one (show Kd.M Kd.string _ _ _ (⟨#[70, 114, 105]⟩ : ByteArray) [.string (⟨#[70, 114, 105]⟩ : ByteArray)] from rfl) (Reps.one (show Kd.M Kd.string _ _ _ (⟨#[83, 97, 116]⟩ : ByteArray) [.string (⟨#[83, 97, 116]⟩ : ByteArray)] from rfl) (Reps.one (show Kd.M Kd.string _ _ _ (⟨#[83, 117, 110]⟩ : ByteArray) [.string (⟨#[83, 117, 110]⟩ : ByteArray)] from rfl) (Reps.one (show Kd.M Kd.string _ _ _ (⟨#[77, 111, 110]⟩ : ByteArray) [.string (⟨#[77, 111, 110]⟩ : ByteArray)] from rfl) (Reps.one (show Kd.M Kd.string _ _ _ (⟨#[84, 117, 101]⟩ : ByteArray) [.string (⟨#[84, 117, 101]⟩ : ByteArray)] from rfl) (Reps.one (show Kd.M Kd.string _ _ _ (⟨#[87, 101, 100]⟩ : ByteArray) [.string (⟨#[87, 101, 100]⟩ : ByteArray)] from rfl) (Reps.none _ _))))))))); intro v144 w10 ho11 hb hg_ hnew_; clear hg_ hnew_; (first | rw [← Ny143.out] at ho11 | (simp only [Int.reduceToNat] at ho11; rw [← Ny143.out] at ho11)); have n0_ := Aside0.mk (Kd.R_lower ho11 (below_size (by repeat (first | (with_reducible first | exact HB.out | apply below_alloc | apply pw_below_drewN | apply below_drew1) | exact HB.out)))); have n1_ := Aside0.mk (below_step (by repeat (first | (with_reducible first | exact HB.out | apply below_alloc | apply pw_below_drewN | apply below_drew1) | exact HB.out)) hb); clear HB; have HO145 := n0_; have HB := n1_; clear n0_ n1_; clear hb ho11; obtain ⟨Ao12, co12, eo12⟩ := Kd.R_slice HO145.out; subst eo12; have p146 : 0 ≤ ((ji6) : Int) := of_decide_eq_true (by first | (with_reducible assumption) | assumption); have q146 : (ji6) < (y143.length : Int) := of_decide_eq_true (by first | (with_reducible assumption) | assumption); obtain ⟨ad146, e146, hx146_0⟩ := Kd.at_string (Kd.R_reads' HO145.out).2.2 (ji6) p146 q146; cases e146; replace p146 := eq_true p146; replace q146 := eq_true q146))
              (try simp only [Act.put, List.setIfInBounds_toArray, List.set_cons_zero, List.set_cons_succ])
              go_cut [3, 7] (fun v3 v7 wc => ∃ (kq : Nat) (x3_8 : Int) (x7_8 : Int), v3 = .int .i64 x3_8 ∧ v7 = .int .i64 x7_8 ∧ Aside0 (mailbagref18_Date.j3 kq x3_8 (Int.tmod x0_3 86400) (rdOf ByteArray.empty y143 (ji6)) x7_8 = some r) ∧ Aside0 (kq ≤ kj3) ∧ Aside0 (Below w.heap.size w wc))
              case first =>
                have H := HC9.out
                clear HC9
                have H' := Aside0.mk H
                clear H
                go_wp2
                go_loopg [3, 7] kj3 (fun kq v3 v7 w' => ∃ (x3_3 : Int) (x7_3 : Int), v3 = .int .i64 x3_3 ∧ v7 = .int .i64 x7_3 ∧ Aside0 (mailbagref18_Date.l0 kq x3_3 (Int.tmod x0_3 86400) (rdOf ByteArray.empty y143 (ji6)) x7_3 = some r) ∧ Aside0 (kq ≤ kj3) ∧ Aside0 (Below w.heap.size w w'))
                case atStart => exact ⟨(Int.tmod (wrap64 (Int.tdiv x0_3 86400)) 146097), (wrap64 (1970 + (wrap64 (400 * (wrap64 (Int.tdiv (wrap64 (Int.tdiv x0_3 86400)) 146097)))))), (by first | rfl | (simp; done) | (simp [*]; done)), (by first | rfl | (simp; done) | (simp [*]; done)), H', ⟨Nat.le_refl _⟩, ⟨by repeat (first | (with_reducible first | exact HB.out | apply below_alloc | apply pw_below_drewN | apply below_drew1) | exact HB.out)⟩⟩
                case round =>
                  clear H'
                  try clear c1
                  try clear p1
                  try clear q1
                  try clear hx1
                  try clear p2
                  try clear c3
                  try clear c3b0
                  try clear c5
                  try clear c5b0
                  try clear p6
                  try clear c7
                  try clear c7b0
                  try clear c8
                  try clear c8b0
                  try clear c11
                  try clear hx146_0
                  try clear p146
                  try clear p2
                  try clear q146
                  obtain ⟨x3_3, x7_3, rfl, rfl, HA, HK3, HB⟩ := hrel
                  cases gk with
                  | zero => exact absurd HA.out (by simp [mailbagref18_Date.l0])
                  | succ k3 =>
                    have H := HA.out
                    clear HA
                    simp only [mailbagref18_Date.l0] at H
                    replace H := Option.bind_eq_some_iff.mp H
                    obtain ⟨t147, A130, H⟩ := H
                    replace H : (if t147 = true then (if x3_3 < 366 then (mailbagref18_Date.j3 k3 x3_3 (Int.tmod x0_3 86400) (rdOf ByteArray.empty y143 (ji6)) x7_3) else (mailbagref18_Date.l0 k3 (wrap64 (x3_3 - 366)) (Int.tmod x0_3 86400) (rdOf ByteArray.empty y143 (ji6)) (wrap64 (x7_3 + 1)))) else (if x3_3 < 365 then (mailbagref18_Date.j3 k3 x3_3 (Int.tmod x0_3 86400) (rdOf ByteArray.empty y143 (ji6)) x7_3) else (mailbagref18_Date.l0 k3 (wrap64 (x3_3 - 365)) (Int.tmod x0_3 86400) (rdOf ByteArray.empty y143 (ji6)) (wrap64 (x7_3 + 1))))) = some r := H
                    have A13 := Aside0.mk A130
                    clear A130
                    by_cases c14 : t147 = true
                    · subst c14
                      have H1 : (if x3_3 < 366 then (mailbagref18_Date.j3 k3 x3_3 (Int.tmod x0_3 86400) (rdOf ByteArray.empty y143 (ji6)) x7_3) else (mailbagref18_Date.l0 k3 (wrap64 (x3_3 - 366)) (Int.tmod x0_3 86400) (rdOf ByteArray.empty y143 (ji6)) (wrap64 (x7_3 + 1)))) = some r := by rw [if_pos rfl] at H; exact H
                      clear H
                      have H := H1
                      clear H1
                      by_cases c15 : x3_3 < 366
                      · rw [if_pos c15] at H
                        have c15b0 : decide (x3_3 < 366) = true := decide_eq_true c15
                        clear c15
                        (first | rw [c15b0] | (simp only [i64_w, i32_w]; rw [c15b0]) | skip)
                        have H' := Aside0.mk H
                        clear H
                        go_wp2_with (first | ((with_reducible refine gate_callee (f := 41) rfl ?_); refine goesL_ (some 32) rfl rfl Tryd.func41 (by kernel_rfl) rfl #[.int .i64 x7_3] rfl (by (try simp only [List.map_toArray, List.map_cons, List.map_nil]); first | done | rfl | (simp only [List.length_drop, List.length_take]; rfl)) ?_; (with_reducible refine (mailbagref18_leap.calls x7_3 true _ A13.out).mono ?_); rintro e w' ⟨rfl, ⟨nd, rfl⟩⟩; refine ⟨_, rfl, ?_⟩))
                        go_meet
                        case rel => exact ⟨_, (x3_3), (x7_3), (by first | rfl | (simp; done) | (simp [*]; done)), (by first | rfl | (simp; done) | (simp [*]; done)), H', ⟨by have := HJ1.out; have := HJ3.out; have := HK3.out; first | omega | exact Nat.le_refl _⟩, ⟨by repeat (first | (with_reducible first | exact HB.out | apply below_alloc | apply pw_below_drewN | apply below_drew1) | exact HB.out)⟩⟩
                      · rw [if_neg c15] at H
                        have c15b0 : decide (x3_3 < 366) = false := decide_eq_false c15
                        clear c15
                        (first | rw [c15b0] | (simp only [i64_w, i32_w]; rw [c15b0]) | skip)
                        have H' := Aside0.mk H
                        clear H
                        go_wp2_with (first | ((with_reducible refine gate_callee (f := 41) rfl ?_); refine goesL_ (some 32) rfl rfl Tryd.func41 (by kernel_rfl) rfl #[.int .i64 x7_3] rfl (by (try simp only [List.map_toArray, List.map_cons, List.map_nil]); first | done | rfl | (simp only [List.length_drop, List.length_take]; rfl)) ?_; (with_reducible refine (mailbagref18_leap.calls x7_3 true _ A13.out).mono ?_); rintro e w' ⟨rfl, ⟨nd, rfl⟩⟩; refine ⟨_, rfl, ?_⟩))
                        go_roundg k3
                        case measure => have := HJ1.out; have := HJ3.out; have := HK3.out; omega
                        case rel => exact ⟨(wrap64 (x3_3 - 366)), (wrap64 (x7_3 + 1)), (by first | rfl | (simp; done) | (simp [*]; done)), (by first | rfl | (simp; done) | (simp [*]; done)), H', ⟨by have := HJ1.out; have := HJ3.out; have := HK3.out; omega⟩, ⟨by repeat (first | (with_reducible first | exact HB.out | apply below_alloc | apply pw_below_drewN | apply below_drew1) | exact HB.out)⟩⟩
                    · replace c14 := Bool.eq_false_iff.mpr c14
                      subst c14
                      have H1 : (if x3_3 < 365 then (mailbagref18_Date.j3 k3 x3_3 (Int.tmod x0_3 86400) (rdOf ByteArray.empty y143 (ji6)) x7_3) else (mailbagref18_Date.l0 k3 (wrap64 (x3_3 - 365)) (Int.tmod x0_3 86400) (rdOf ByteArray.empty y143 (ji6)) (wrap64 (x7_3 + 1)))) = some r := by rw [if_neg (show ¬ (false = true) by decide)] at H; exact H
                      clear H
                      have H := H1
                      clear H1
                      by_cases c16 : x3_3 < 365
                      · rw [if_pos c16] at H
                        have c16b0 : decide (x3_3 < 365) = true := decide_eq_true c16
                        clear c16
                        have H' := Aside0.mk H
                        clear H
                        go_wp2_with (first | ((with_reducible refine gate_callee (f := 41) rfl ?_); refine goesL_ (some 32) rfl rfl Tryd.func41 (by kernel_rfl) rfl #[.int .i64 x7_3] rfl (by (try simp only [List.map_toArray, List.map_cons, List.map_nil]); first | done | rfl | (simp only [List.length_drop, List.length_take]; rfl)) ?_; (with_reducible refine (mailbagref18_leap.calls x7_3 false _ A13.out).mono ?_); rintro e w' ⟨rfl, ⟨nd, rfl⟩⟩; refine ⟨_, rfl, ?_⟩))
                        go_meet
                        case rel => exact ⟨_, (x3_3), (x7_3), (by first | rfl | (simp; done) | (simp [*]; done)), (by first | rfl | (simp; done) | (simp [*]; done)), H', ⟨by have := HJ1.out; have := HJ3.out; have := HK3.out; first | omega | exact Nat.le_refl _⟩, ⟨by repeat (first | (with_reducible first | exact HB.out | apply below_alloc | apply pw_below_drewN | apply below_drew1) | exact HB.out)⟩⟩
                      · rw [if_neg c16] at H
                        have c16b0 : decide (x3_3 < 365) = false := decide_eq_false c16
                        clear c16
                        have H' := Aside0.mk H
                        clear H
                        go_wp2_with (first | ((with_reducible refine gate_callee (f := 41) rfl ?_); refine goesL_ (some 32) rfl rfl Tryd.func41 (by kernel_rfl) rfl #[.int .i64 x7_3] rfl (by (try simp only [List.map_toArray, List.map_cons, List.map_nil]); first | done | rfl | (simp only [List.length_drop, List.length_take]; rfl)) ?_; (with_reducible refine (mailbagref18_leap.calls x7_3 false _ A13.out).mono ?_); rintro e w' ⟨rfl, ⟨nd, rfl⟩⟩; refine ⟨_, rfl, ?_⟩))
                        go_roundg k3
                        case measure => have := HJ1.out; have := HJ3.out; have := HK3.out; omega
                        case rel => exact ⟨(wrap64 (x3_3 - 365)), (wrap64 (x7_3 + 1)), (by first | rfl | (simp; done) | (simp [*]; done)), (by first | rfl | (simp; done) | (simp [*]; done)), H', ⟨by have := HJ1.out; have := HJ3.out; have := HK3.out; omega⟩, ⟨by repeat (first | (with_reducible first | exact HB.out | apply below_alloc | apply pw_below_drewN | apply below_drew1) | exact HB.out)⟩⟩
              case rest =>
                clear HC9
                try clear c1
                try clear p1
                try clear q1
                try clear hx1
                try clear p2
                try clear c3
                try clear c3b0
                try clear c4
                try clear c5
                try clear c5b0
                try clear p6
                try clear c7
                try clear c7b0
                try clear c8
                try clear c8b0
                try clear c11
                try clear c14
                try clear p14
                try clear q14
                try clear hx14
                try clear c15
                try clear c15b0
                try clear c16
                try clear c16b0
                try clear hx146_0
                try clear p1
                try clear p146
                try clear p2
                try clear p6
                try clear q1
                try clear q146
                obtain ⟨kq, x3_8, x7_8, rfl, rfl, HA, HJ8, HB⟩ := hcut
                cases kq with
                | zero => exact absurd HA.out (by simp [mailbagref18_Date.j3])
                | succ kj8 =>
                  have H := HA.out
                  clear HA
                  simp only [mailbagref18_Date.j3] at H
                  have H' := Aside0.mk H
                  clear H
                  go_wp2
                  go_loopg [3, 9] kj8 (fun kq v3 v9 w' => ∃ (x3_4 : Int) (x9_4 : Int), v3 = .int .i64 x3_4 ∧ v9 = .int .i64 x9_4 ∧ Aside0 (mailbagref18_Date.l1 kq x3_4 (Int.tmod x0_3 86400) (rdOf ByteArray.empty y143 (ji6)) x7_8 x9_4 = some r) ∧ Aside0 (kq ≤ kj8) ∧ Aside0 (Below w.heap.size w w'))
                  case atStart => exact ⟨(x3_8), (0), (by first | rfl | (simp; done) | (simp [*]; done)), (by first | rfl | (simp; done) | (simp [*]; done)), H', ⟨Nat.le_refl _⟩, ⟨by repeat (first | (with_reducible first | exact HB.out | apply below_alloc | apply pw_below_drewN | apply below_drew1) | exact HB.out)⟩⟩
                  case round =>
                    clear H'
                    try clear c1
                    try clear p1
                    try clear q1
                    try clear hx1
                    try clear p2
                    try clear c3
                    try clear c3b0
                    try clear c4
                    try clear c5
                    try clear c5b0
                    try clear p6
                    try clear c7
                    try clear c7b0
                    try clear c8
                    try clear c8b0
                    try clear c11
                    try clear c14
                    try clear p14
                    try clear q14
                    try clear hx14
                    try clear c15
                    try clear c15b0
                    try clear c16
                    try clear c16b0
                    try clear hx146_0
                    try clear p1
                    try clear p14
                    try clear p146
                    try clear p2
                    try clear p6
                    try clear q1
                    try clear q14
                    try clear q146
                    obtain ⟨x3_4, x9_4, rfl, rfl, HA, HK4, HB⟩ := hrel
                    cases gk with
                    | zero => exact absurd HA.out (by simp [mailbagref18_Date.l1])
                    | succ k4 =>
                      have H := HA.out
                      clear HA
                      simp only [mailbagref18_Date.l1] at H
                      replace H := Option.bind_eq_some_iff.mp H
                      obtain ⟨t148, A170, H⟩ := H
                      replace H : (if x3_4 ≥ t148 then ((mailbagref18_days.f x9_4 x7_8).bind fun t149 => (mailbagref18_Date.l1 k4 (wrap64 (x3_4 - t149)) (Int.tmod x0_3 86400) (rdOf ByteArray.empty y143 (ji6)) x7_8 (wrap64 (x9_4 + 1)))) else ((some (([(⟨#[74, 97, 110]⟩ : ByteArray), (⟨#[70, 101, 98]⟩ : ByteArray), (⟨#[77, 97, 114]⟩ : ByteArray), (⟨#[65, 112, 114]⟩ : ByteArray), (⟨#[77, 97, 121]⟩ : ByteArray), (⟨#[74, 117, 110]⟩ : ByteArray), (⟨#[74, 117, 108]⟩ : ByteArray), (⟨#[65, 117, 103]⟩ : ByteArray), (⟨#[83, 101, 112]⟩ : ByteArray), (⟨#[79, 99, 116]⟩ : ByteArray), (⟨#[78, 111, 118]⟩ : ByteArray), (⟨#[68, 101, 99]⟩ : ByteArray)] : List ByteArray) : List ByteArray)).bind fun y150 => (if (rdOf ByteArray.empty y143 (ji6)).size + 2 ≤ 9223372036854775807 then ((mailbagref18_two.f (wrap64 (x3_4 + 1))).bind fun t153 => (if ((rdOf ByteArray.empty y143 (ji6)) ++ (⟨#[44, 32]⟩ : ByteArray)).size + t153.size ≤ 9223372036854775807 then (if (((rdOf ByteArray.empty y143 (ji6)) ++ (⟨#[44, 32]⟩ : ByteArray)) ++ t153).size + 1 ≤ 9223372036854775807 then (if 0 ≤ x9_4 then (if x9_4 < (y150.length : Int) then (if ((((rdOf ByteArray.empty y143 (ji6)) ++ (⟨#[44, 32]⟩ : ByteArray)) ++ t153) ++ (⟨#[32]⟩ : ByteArray)).size + (rdOf ByteArray.empty y150 x9_4).size ≤ 9223372036854775807 then (if (((((rdOf ByteArray.empty y143 (ji6)) ++ (⟨#[44, 32]⟩ : ByteArray)) ++ t153) ++ (⟨#[32]⟩ : ByteArray)) ++ (rdOf ByteArray.empty y150 x9_4)).size + 1 ≤ 9223372036854775807 then ((mailbagref18_two.f (wrap64 (Int.tdiv x7_8 100))).bind fun t155 => (if ((((((rdOf ByteArray.empty y143 (ji6)) ++ (⟨#[44, 32]⟩ : ByteArray)) ++ t153) ++ (⟨#[32]⟩ : ByteArray)) ++ (rdOf ByteArray.empty y150 x9_4)) ++ (⟨#[32]⟩ : ByteArray)).size + t155.size ≤ 9223372036854775807 then ((mailbagref18_two.f x7_8).bind fun t156 => (if (((((((rdOf ByteArray.empty y143 (ji6)) ++ (⟨#[44, 32]⟩ : ByteArray)) ++ t153) ++ (⟨#[32]⟩ : ByteArray)) ++ (rdOf ByteArray.empty y150 x9_4)) ++ (⟨#[32]⟩ : ByteArray)) ++ t155).size + t156.size ≤ 9223372036854775807 then (if ((((((((rdOf ByteArray.empty y143 (ji6)) ++ (⟨#[44, 32]⟩ : ByteArray)) ++ t153) ++ (⟨#[32]⟩ : ByteArray)) ++ (rdOf ByteArray.empty y150 x9_4)) ++ (⟨#[32]⟩ : ByteArray)) ++ t155) ++ t156).size + 1 ≤ 9223372036854775807 then ((mailbagref18_two.f (wrap64 (Int.tdiv (Int.tmod x0_3 86400) 3600))).bind fun t157 => (if (((((((((rdOf ByteArray.empty y143 (ji6)) ++ (⟨#[44, 32]⟩ : ByteArray)) ++ t153) ++ (⟨#[32]⟩ : ByteArray)) ++ (rdOf ByteArray.empty y150 x9_4)) ++ (⟨#[32]⟩ : ByteArray)) ++ t155) ++ t156) ++ (⟨#[32]⟩ : ByteArray)).size + t157.size ≤ 9223372036854775807 then (if ((((((((((rdOf ByteArray.empty y143 (ji6)) ++ (⟨#[44, 32]⟩ : ByteArray)) ++ t153) ++ (⟨#[32]⟩ : ByteArray)) ++ (rdOf ByteArray.empty y150 x9_4)) ++ (⟨#[32]⟩ : ByteArray)) ++ t155) ++ t156) ++ (⟨#[32]⟩ : ByteArray)) ++ t157).size + 1 ≤ 9223372036854775807 then ((mailbagref18_two.f (Int.tmod (wrap64 (Int.tdiv (Int.tmod x0_3 86400) 60)) 60)).bind fun t158 => (if (((((((((((rdOf ByteArray.empty y143 (ji6)) ++ (⟨#[44, 32]⟩ : ByteArray)) ++ t153) ++ (⟨#[32]⟩ : ByteArray)) ++ (rdOf ByteArray.empty y150 x9_4)) ++ (⟨#[32]⟩ : ByteArray)) ++ t155) ++ t156) ++ (⟨#[32]⟩ : ByteArray)) ++ t157) ++ (⟨#[58]⟩ : ByteArray)).size + t158.size ≤ 9223372036854775807 then (if ((((((((((((rdOf ByteArray.empty y143 (ji6)) ++ (⟨#[44, 32]⟩ : ByteArray)) ++ t153) ++ (⟨#[32]⟩ : ByteArray)) ++ (rdOf ByteArray.empty y150 x9_4)) ++ (⟨#[32]⟩ : ByteArray)) ++ t155) ++ t156) ++ (⟨#[32]⟩ : ByteArray)) ++ t157) ++ (⟨#[58]⟩ : ByteArray)) ++ t158).size + 1 ≤ 9223372036854775807 then ((mailbagref18_two.f (Int.tmod (Int.tmod x0_3 86400) 60)).bind fun t159 => (if (((((((((((((rdOf ByteArray.empty y143 (ji6)) ++ (⟨#[44, 32]⟩ : ByteArray)) ++ t153) ++ (⟨#[32]⟩ : ByteArray)) ++ (rdOf ByteArray.empty y150 x9_4)) ++ (⟨#[32]⟩ : ByteArray)) ++ t155) ++ t156) ++ (⟨#[32]⟩ : ByteArray)) ++ t157) ++ (⟨#[58]⟩ : ByteArray)) ++ t158) ++ (⟨#[58]⟩ : ByteArray)).size + t159.size ≤ 9223372036854775807 then (if ((((((((((((((rdOf ByteArray.empty y143 (ji6)) ++ (⟨#[44, 32]⟩ : ByteArray)) ++ t153) ++ (⟨#[32]⟩ : ByteArray)) ++ (rdOf ByteArray.empty y150 x9_4)) ++ (⟨#[32]⟩ : ByteArray)) ++ t155) ++ t156) ++ (⟨#[32]⟩ : ByteArray)) ++ t157) ++ (⟨#[58]⟩ : ByteArray)) ++ t158) ++ (⟨#[58]⟩ : ByteArray)) ++ t159).size + 6 ≤ 9223372036854775807 then (some (((((((((((((((rdOf ByteArray.empty y143 (ji6)) ++ (⟨#[44, 32]⟩ : ByteArray)) ++ t153) ++ (⟨#[32]⟩ : ByteArray)) ++ (rdOf ByteArray.empty y150 x9_4)) ++ (⟨#[32]⟩ : ByteArray)) ++ t155) ++ t156) ++ (⟨#[32]⟩ : ByteArray)) ++ t157) ++ (⟨#[58]⟩ : ByteArray)) ++ t158) ++ (⟨#[58]⟩ : ByteArray)) ++ t159) ++ (⟨#[32, 43, 48, 48, 48, 48]⟩ : ByteArray))) else (none)) else (none))) else (none)) else (none))) else (none)) else (none))) else (none)) else (none))) else (none))) else (none)) else (none)) else (none)) else (none)) else (none)) else (none))) else (none)))) = some r := H
                      have A17 := Aside0.mk A170
                      clear A170
                      by_cases c18 : x3_4 ≥ t148
                      · rw [if_pos c18] at H
                        have c18b0 : decide (t148 ≤ x3_4) = true := decide_eq_true c18
                        clear c18
                        replace H := Option.bind_eq_some_iff.mp H
                        obtain ⟨t149, A190, H⟩ := H
                        replace H : (mailbagref18_Date.l1 k4 (wrap64 (x3_4 - t149)) (Int.tmod x0_3 86400) (rdOf ByteArray.empty y143 (ji6)) x7_8 (wrap64 (x9_4 + 1))) = some r := H
                        have A19 := Aside0.mk A190
                        clear A190
                        have H' := Aside0.mk H
                        clear H
                        go_wp2_with (first | ((with_reducible refine gate_callee (f := 42) rfl ?_); refine goesL_ (some 44) rfl rfl Tryd.func42 (by kernel_rfl) rfl #[.int .i64 x9_4, .int .i64 x7_8] rfl (by (try simp only [List.map_toArray, List.map_cons, List.map_nil]); first | done | rfl | (simp only [List.length_drop, List.length_take]; rfl)) ?_; (with_reducible refine (mailbagref18_days.calls x9_4 x7_8 t148 _ A17.out).mono ?_); rintro e w20 ⟨rfl, hb⟩; refine ⟨_, rfl, ?_⟩; have n0_ := Aside0.mk (below_step (by repeat (first | (with_reducible first | exact HB.out | apply below_alloc | apply pw_below_drewN | apply below_drew1) | exact HB.out)) hb); clear HB; have HB := n0_; clear n0_; (try clear hb); (try clear hb2); (try clear hk); (try clear hi)) | ((with_reducible refine gate_callee (f := 42) rfl ?_); refine goesL_ (some 49) rfl rfl Tryd.func42 (by kernel_rfl) rfl #[.int .i64 x9_4, .int .i64 x7_8] rfl (by (try simp only [List.map_toArray, List.map_cons, List.map_nil]); first | done | rfl | (simp only [List.length_drop, List.length_take]; rfl)) ?_; (with_reducible refine (mailbagref18_days.calls x9_4 x7_8 t149 _ A19.out).mono ?_); rintro e w21 ⟨rfl, hb⟩; refine ⟨_, rfl, ?_⟩; have n0_ := Aside0.mk (below_step (by repeat (first | (with_reducible first | exact HB.out | apply below_alloc | apply pw_below_drewN | apply below_drew1) | exact HB.out)) hb); clear HB; have HB := n0_; clear n0_; (try clear hb); (try clear hb2); (try clear hk); (try clear hi)))
                        go_roundg k4
                        case measure => have := HJ1.out; have := HJ3.out; have := HJ8.out; have := HK4.out; omega
                        case rel => exact ⟨(wrap64 (x3_4 - t149)), (wrap64 (x9_4 + 1)), (by first | rfl | (simp; done) | (simp [*]; done)), (by first | rfl | (simp; done) | (simp [*]; done)), H', ⟨by have := HJ1.out; have := HJ3.out; have := HJ8.out; have := HK4.out; omega⟩, ⟨by repeat (first | (with_reducible first | exact HB.out | apply below_alloc | apply pw_below_drewN | apply below_drew1) | exact HB.out)⟩⟩
                      · rw [if_neg c18] at H
                        have c18b0 : decide (t148 ≤ x3_4) = false := decide_eq_false c18
                        clear c18
                        obtain ⟨y150, hy150⟩ : ∃ y_ : List ByteArray, y_ = (([(⟨#[74, 97, 110]⟩ : ByteArray), (⟨#[70, 101, 98]⟩ : ByteArray), (⟨#[77, 97, 114]⟩ : ByteArray), (⟨#[65, 112, 114]⟩ : ByteArray), (⟨#[77, 97, 121]⟩ : ByteArray), (⟨#[74, 117, 110]⟩ : ByteArray), (⟨#[74, 117, 108]⟩ : ByteArray), (⟨#[65, 117, 103]⟩ : ByteArray), (⟨#[83, 101, 112]⟩ : ByteArray), (⟨#[79, 99, 116]⟩ : ByteArray), (⟨#[78, 111, 118]⟩ : ByteArray), (⟨#[68, 101, 99]⟩ : ByteArray)] : List ByteArray)) := ⟨_, rfl⟩
                        replace H : (if (rdOf ByteArray.empty y143 (ji6)).size + 2 ≤ 9223372036854775807 then ((mailbagref18_two.f (wrap64 (x3_4 + 1))).bind fun t153 => (if ((rdOf ByteArray.empty y143 (ji6)) ++ (⟨#[44, 32]⟩ : ByteArray)).size + t153.size ≤ 9223372036854775807 then (if (((rdOf ByteArray.empty y143 (ji6)) ++ (⟨#[44, 32]⟩ : ByteArray)) ++ t153).size + 1 ≤ 9223372036854775807 then (if 0 ≤ x9_4 then (if x9_4 < (y150.length : Int) then (if ((((rdOf ByteArray.empty y143 (ji6)) ++ (⟨#[44, 32]⟩ : ByteArray)) ++ t153) ++ (⟨#[32]⟩ : ByteArray)).size + (rdOf ByteArray.empty y150 x9_4).size ≤ 9223372036854775807 then (if (((((rdOf ByteArray.empty y143 (ji6)) ++ (⟨#[44, 32]⟩ : ByteArray)) ++ t153) ++ (⟨#[32]⟩ : ByteArray)) ++ (rdOf ByteArray.empty y150 x9_4)).size + 1 ≤ 9223372036854775807 then ((mailbagref18_two.f (wrap64 (Int.tdiv x7_8 100))).bind fun t155 => (if ((((((rdOf ByteArray.empty y143 (ji6)) ++ (⟨#[44, 32]⟩ : ByteArray)) ++ t153) ++ (⟨#[32]⟩ : ByteArray)) ++ (rdOf ByteArray.empty y150 x9_4)) ++ (⟨#[32]⟩ : ByteArray)).size + t155.size ≤ 9223372036854775807 then ((mailbagref18_two.f x7_8).bind fun t156 => (if (((((((rdOf ByteArray.empty y143 (ji6)) ++ (⟨#[44, 32]⟩ : ByteArray)) ++ t153) ++ (⟨#[32]⟩ : ByteArray)) ++ (rdOf ByteArray.empty y150 x9_4)) ++ (⟨#[32]⟩ : ByteArray)) ++ t155).size + t156.size ≤ 9223372036854775807 then (if ((((((((rdOf ByteArray.empty y143 (ji6)) ++ (⟨#[44, 32]⟩ : ByteArray)) ++ t153) ++ (⟨#[32]⟩ : ByteArray)) ++ (rdOf ByteArray.empty y150 x9_4)) ++ (⟨#[32]⟩ : ByteArray)) ++ t155) ++ t156).size + 1 ≤ 9223372036854775807 then ((mailbagref18_two.f (wrap64 (Int.tdiv (Int.tmod x0_3 86400) 3600))).bind fun t157 => (if (((((((((rdOf ByteArray.empty y143 (ji6)) ++ (⟨#[44, 32]⟩ : ByteArray)) ++ t153) ++ (⟨#[32]⟩ : ByteArray)) ++ (rdOf ByteArray.empty y150 x9_4)) ++ (⟨#[32]⟩ : ByteArray)) ++ t155) ++ t156) ++ (⟨#[32]⟩ : ByteArray)).size + t157.size ≤ 9223372036854775807 then (if ((((((((((rdOf ByteArray.empty y143 (ji6)) ++ (⟨#[44, 32]⟩ : ByteArray)) ++ t153) ++ (⟨#[32]⟩ : ByteArray)) ++ (rdOf ByteArray.empty y150 x9_4)) ++ (⟨#[32]⟩ : ByteArray)) ++ t155) ++ t156) ++ (⟨#[32]⟩ : ByteArray)) ++ t157).size + 1 ≤ 9223372036854775807 then ((mailbagref18_two.f (Int.tmod (wrap64 (Int.tdiv (Int.tmod x0_3 86400) 60)) 60)).bind fun t158 => (if (((((((((((rdOf ByteArray.empty y143 (ji6)) ++ (⟨#[44, 32]⟩ : ByteArray)) ++ t153) ++ (⟨#[32]⟩ : ByteArray)) ++ (rdOf ByteArray.empty y150 x9_4)) ++ (⟨#[32]⟩ : ByteArray)) ++ t155) ++ t156) ++ (⟨#[32]⟩ : ByteArray)) ++ t157) ++ (⟨#[58]⟩ : ByteArray)).size + t158.size ≤ 9223372036854775807 then (if ((((((((((((rdOf ByteArray.empty y143 (ji6)) ++ (⟨#[44, 32]⟩ : ByteArray)) ++ t153) ++ (⟨#[32]⟩ : ByteArray)) ++ (rdOf ByteArray.empty y150 x9_4)) ++ (⟨#[32]⟩ : ByteArray)) ++ t155) ++ t156) ++ (⟨#[32]⟩ : ByteArray)) ++ t157) ++ (⟨#[58]⟩ : ByteArray)) ++ t158).size + 1 ≤ 9223372036854775807 then ((mailbagref18_two.f (Int.tmod (Int.tmod x0_3 86400) 60)).bind fun t159 => (if (((((((((((((rdOf ByteArray.empty y143 (ji6)) ++ (⟨#[44, 32]⟩ : ByteArray)) ++ t153) ++ (⟨#[32]⟩ : ByteArray)) ++ (rdOf ByteArray.empty y150 x9_4)) ++ (⟨#[32]⟩ : ByteArray)) ++ t155) ++ t156) ++ (⟨#[32]⟩ : ByteArray)) ++ t157) ++ (⟨#[58]⟩ : ByteArray)) ++ t158) ++ (⟨#[58]⟩ : ByteArray)).size + t159.size ≤ 9223372036854775807 then (if ((((((((((((((rdOf ByteArray.empty y143 (ji6)) ++ (⟨#[44, 32]⟩ : ByteArray)) ++ t153) ++ (⟨#[32]⟩ : ByteArray)) ++ (rdOf ByteArray.empty y150 x9_4)) ++ (⟨#[32]⟩ : ByteArray)) ++ t155) ++ t156) ++ (⟨#[32]⟩ : ByteArray)) ++ t157) ++ (⟨#[58]⟩ : ByteArray)) ++ t158) ++ (⟨#[58]⟩ : ByteArray)) ++ t159).size + 6 ≤ 9223372036854775807 then (some (((((((((((((((rdOf ByteArray.empty y143 (ji6)) ++ (⟨#[44, 32]⟩ : ByteArray)) ++ t153) ++ (⟨#[32]⟩ : ByteArray)) ++ (rdOf ByteArray.empty y150 x9_4)) ++ (⟨#[32]⟩ : ByteArray)) ++ t155) ++ t156) ++ (⟨#[32]⟩ : ByteArray)) ++ t157) ++ (⟨#[58]⟩ : ByteArray)) ++ t158) ++ (⟨#[58]⟩ : ByteArray)) ++ t159) ++ (⟨#[32, 43, 48, 48, 48, 48]⟩ : ByteArray))) else (none)) else (none))) else (none)) else (none))) else (none)) else (none))) else (none)) else (none))) else (none))) else (none)) else (none)) else (none)) else (none)) else (none)) else (none))) else (none)) = some r := by first | (rw [hy150]; with_reducible exact H) | (have H2_ := (Option.bind_some _ _).symm.trans H; rw [hy150]; with_reducible exact H2_) | (have H2_ := (Option.bind_some _ _).symm.trans H; with_reducible exact H2_) | with_reducible exact H | (rw [hy150]; exact H) | exact H
                        have Ny150 := Aside0.mk hy150
                        clear hy150
                        by_cases c22 : (rdOf ByteArray.empty y143 (ji6)).size + 2 ≤ 9223372036854775807
                        · rw [if_pos c22] at H
                          have c22b0 := eq_true c22
                          have c22b1 : decide ((rdOf ByteArray.empty y143 (ji6)).size + 2 ≤ 9223372036854775807) = true := decide_eq_true c22
                          try have c22b2 : (9223372036854775807 < (rdOf ByteArray.empty y143 (ji6)).size + 2) = False := eq_false (Nat.not_lt.2 c22)
                          try (have c22b3 := c22b2; simp only [ByteArray.size_append, szlit0, szlit1, szlit2, szlit3, szlit4] at c22b3)
                          replace H := Option.bind_eq_some_iff.mp H
                          obtain ⟨t153, A230, H⟩ := H
                          replace H : (if ((rdOf ByteArray.empty y143 (ji6)) ++ (⟨#[44, 32]⟩ : ByteArray)).size + t153.size ≤ 9223372036854775807 then (if (((rdOf ByteArray.empty y143 (ji6)) ++ (⟨#[44, 32]⟩ : ByteArray)) ++ t153).size + 1 ≤ 9223372036854775807 then (if 0 ≤ x9_4 then (if x9_4 < (y150.length : Int) then (if ((((rdOf ByteArray.empty y143 (ji6)) ++ (⟨#[44, 32]⟩ : ByteArray)) ++ t153) ++ (⟨#[32]⟩ : ByteArray)).size + (rdOf ByteArray.empty y150 x9_4).size ≤ 9223372036854775807 then (if (((((rdOf ByteArray.empty y143 (ji6)) ++ (⟨#[44, 32]⟩ : ByteArray)) ++ t153) ++ (⟨#[32]⟩ : ByteArray)) ++ (rdOf ByteArray.empty y150 x9_4)).size + 1 ≤ 9223372036854775807 then ((mailbagref18_two.f (wrap64 (Int.tdiv x7_8 100))).bind fun t155 => (if ((((((rdOf ByteArray.empty y143 (ji6)) ++ (⟨#[44, 32]⟩ : ByteArray)) ++ t153) ++ (⟨#[32]⟩ : ByteArray)) ++ (rdOf ByteArray.empty y150 x9_4)) ++ (⟨#[32]⟩ : ByteArray)).size + t155.size ≤ 9223372036854775807 then ((mailbagref18_two.f x7_8).bind fun t156 => (if (((((((rdOf ByteArray.empty y143 (ji6)) ++ (⟨#[44, 32]⟩ : ByteArray)) ++ t153) ++ (⟨#[32]⟩ : ByteArray)) ++ (rdOf ByteArray.empty y150 x9_4)) ++ (⟨#[32]⟩ : ByteArray)) ++ t155).size + t156.size ≤ 9223372036854775807 then (if ((((((((rdOf ByteArray.empty y143 (ji6)) ++ (⟨#[44, 32]⟩ : ByteArray)) ++ t153) ++ (⟨#[32]⟩ : ByteArray)) ++ (rdOf ByteArray.empty y150 x9_4)) ++ (⟨#[32]⟩ : ByteArray)) ++ t155) ++ t156).size + 1 ≤ 9223372036854775807 then ((mailbagref18_two.f (wrap64 (Int.tdiv (Int.tmod x0_3 86400) 3600))).bind fun t157 => (if (((((((((rdOf ByteArray.empty y143 (ji6)) ++ (⟨#[44, 32]⟩ : ByteArray)) ++ t153) ++ (⟨#[32]⟩ : ByteArray)) ++ (rdOf ByteArray.empty y150 x9_4)) ++ (⟨#[32]⟩ : ByteArray)) ++ t155) ++ t156) ++ (⟨#[32]⟩ : ByteArray)).size + t157.size ≤ 9223372036854775807 then (if ((((((((((rdOf ByteArray.empty y143 (ji6)) ++ (⟨#[44, 32]⟩ : ByteArray)) ++ t153) ++ (⟨#[32]⟩ : ByteArray)) ++ (rdOf ByteArray.empty y150 x9_4)) ++ (⟨#[32]⟩ : ByteArray)) ++ t155) ++ t156) ++ (⟨#[32]⟩ : ByteArray)) ++ t157).size + 1 ≤ 9223372036854775807 then ((mailbagref18_two.f (Int.tmod (wrap64 (Int.tdiv (Int.tmod x0_3 86400) 60)) 60)).bind fun t158 => (if (((((((((((rdOf ByteArray.empty y143 (ji6)) ++ (⟨#[44, 32]⟩ : ByteArray)) ++ t153) ++ (⟨#[32]⟩ : ByteArray)) ++ (rdOf ByteArray.empty y150 x9_4)) ++ (⟨#[32]⟩ : ByteArray)) ++ t155) ++ t156) ++ (⟨#[32]⟩ : ByteArray)) ++ t157) ++ (⟨#[58]⟩ : ByteArray)).size + t158.size ≤ 9223372036854775807 then (if ((((((((((((rdOf ByteArray.empty y143 (ji6)) ++ (⟨#[44, 32]⟩ : ByteArray)) ++ t153) ++ (⟨#[32]⟩ : ByteArray)) ++ (rdOf ByteArray.empty y150 x9_4)) ++ (⟨#[32]⟩ : ByteArray)) ++ t155) ++ t156) ++ (⟨#[32]⟩ : ByteArray)) ++ t157) ++ (⟨#[58]⟩ : ByteArray)) ++ t158).size + 1 ≤ 9223372036854775807 then ((mailbagref18_two.f (Int.tmod (Int.tmod x0_3 86400) 60)).bind fun t159 => (if (((((((((((((rdOf ByteArray.empty y143 (ji6)) ++ (⟨#[44, 32]⟩ : ByteArray)) ++ t153) ++ (⟨#[32]⟩ : ByteArray)) ++ (rdOf ByteArray.empty y150 x9_4)) ++ (⟨#[32]⟩ : ByteArray)) ++ t155) ++ t156) ++ (⟨#[32]⟩ : ByteArray)) ++ t157) ++ (⟨#[58]⟩ : ByteArray)) ++ t158) ++ (⟨#[58]⟩ : ByteArray)).size + t159.size ≤ 9223372036854775807 then (if ((((((((((((((rdOf ByteArray.empty y143 (ji6)) ++ (⟨#[44, 32]⟩ : ByteArray)) ++ t153) ++ (⟨#[32]⟩ : ByteArray)) ++ (rdOf ByteArray.empty y150 x9_4)) ++ (⟨#[32]⟩ : ByteArray)) ++ t155) ++ t156) ++ (⟨#[32]⟩ : ByteArray)) ++ t157) ++ (⟨#[58]⟩ : ByteArray)) ++ t158) ++ (⟨#[58]⟩ : ByteArray)) ++ t159).size + 6 ≤ 9223372036854775807 then (some (((((((((((((((rdOf ByteArray.empty y143 (ji6)) ++ (⟨#[44, 32]⟩ : ByteArray)) ++ t153) ++ (⟨#[32]⟩ : ByteArray)) ++ (rdOf ByteArray.empty y150 x9_4)) ++ (⟨#[32]⟩ : ByteArray)) ++ t155) ++ t156) ++ (⟨#[32]⟩ : ByteArray)) ++ t157) ++ (⟨#[58]⟩ : ByteArray)) ++ t158) ++ (⟨#[58]⟩ : ByteArray)) ++ t159) ++ (⟨#[32, 43, 48, 48, 48, 48]⟩ : ByteArray))) else (none)) else (none))) else (none)) else (none))) else (none)) else (none))) else (none)) else (none))) else (none))) else (none)) else (none)) else (none)) else (none)) else (none)) else (none)) = some r := H
                          have A23 := Aside0.mk A230
                          clear A230
                          by_cases c24 : ((rdOf ByteArray.empty y143 (ji6)) ++ (⟨#[44, 32]⟩ : ByteArray)).size + t153.size ≤ 9223372036854775807
                          · rw [if_pos c24] at H
                            have c24b0 := eq_true c24
                            have c24b1 : decide (((rdOf ByteArray.empty y143 (ji6)) ++ (⟨#[44, 32]⟩ : ByteArray)).size + t153.size ≤ 9223372036854775807) = true := decide_eq_true c24
                            try have c24b2 : (9223372036854775807 < ((rdOf ByteArray.empty y143 (ji6)) ++ (⟨#[44, 32]⟩ : ByteArray)).size + t153.size) = False := eq_false (Nat.not_lt.2 c24)
                            try (have c24b3 := c24b2; simp only [ByteArray.size_append, szlit0, szlit1, szlit2, szlit3, szlit4] at c24b3)
                            by_cases c25 : (((rdOf ByteArray.empty y143 (ji6)) ++ (⟨#[44, 32]⟩ : ByteArray)) ++ t153).size + 1 ≤ 9223372036854775807
                            · rw [if_pos c25] at H
                              have c25b0 := eq_true c25
                              have c25b1 : decide ((((rdOf ByteArray.empty y143 (ji6)) ++ (⟨#[44, 32]⟩ : ByteArray)) ++ t153).size + 1 ≤ 9223372036854775807) = true := decide_eq_true c25
                              try have c25b2 : (9223372036854775807 < (((rdOf ByteArray.empty y143 (ji6)) ++ (⟨#[44, 32]⟩ : ByteArray)) ++ t153).size + 1) = False := eq_false (Nat.not_lt.2 c25)
                              try (have c25b3 := c25b2; simp only [ByteArray.size_append, szlit0, szlit1, szlit2, szlit3, szlit4] at c25b3)
                              by_cases c26 : 0 ≤ x9_4
                              · rw [if_pos c26] at H
                                have c26b0 : decide (0 ≤ x9_4) = true := decide_eq_true c26
                                clear c26
                                by_cases c27 : x9_4 < (y150.length : Int)
                                · rw [if_pos c27] at H
                                  have c27b0 : decide (x9_4 < (y150.length : Int)) = true := decide_eq_true c27
                                  clear c27
                                  by_cases c28 : ((((rdOf ByteArray.empty y143 (ji6)) ++ (⟨#[44, 32]⟩ : ByteArray)) ++ t153) ++ (⟨#[32]⟩ : ByteArray)).size + (rdOf ByteArray.empty y150 x9_4).size ≤ 9223372036854775807
                                  · rw [if_pos c28] at H
                                    have c28b0 := eq_true c28
                                    have c28b1 : decide (((((rdOf ByteArray.empty y143 (ji6)) ++ (⟨#[44, 32]⟩ : ByteArray)) ++ t153) ++ (⟨#[32]⟩ : ByteArray)).size + (rdOf ByteArray.empty y150 x9_4).size ≤ 9223372036854775807) = true := decide_eq_true c28
                                    try have c28b2 : (9223372036854775807 < ((((rdOf ByteArray.empty y143 (ji6)) ++ (⟨#[44, 32]⟩ : ByteArray)) ++ t153) ++ (⟨#[32]⟩ : ByteArray)).size + (rdOf ByteArray.empty y150 x9_4).size) = False := eq_false (Nat.not_lt.2 c28)
                                    try (have c28b3 := c28b2; simp only [ByteArray.size_append, szlit0, szlit1, szlit2, szlit3, szlit4] at c28b3)
                                    by_cases c29 : (((((rdOf ByteArray.empty y143 (ji6)) ++ (⟨#[44, 32]⟩ : ByteArray)) ++ t153) ++ (⟨#[32]⟩ : ByteArray)) ++ (rdOf ByteArray.empty y150 x9_4)).size + 1 ≤ 9223372036854775807
                                    · rw [if_pos c29] at H
                                      have c29b0 := eq_true c29
                                      have c29b1 : decide ((((((rdOf ByteArray.empty y143 (ji6)) ++ (⟨#[44, 32]⟩ : ByteArray)) ++ t153) ++ (⟨#[32]⟩ : ByteArray)) ++ (rdOf ByteArray.empty y150 x9_4)).size + 1 ≤ 9223372036854775807) = true := decide_eq_true c29
                                      try have c29b2 : (9223372036854775807 < (((((rdOf ByteArray.empty y143 (ji6)) ++ (⟨#[44, 32]⟩ : ByteArray)) ++ t153) ++ (⟨#[32]⟩ : ByteArray)) ++ (rdOf ByteArray.empty y150 x9_4)).size + 1) = False := eq_false (Nat.not_lt.2 c29)
                                      try (have c29b3 := c29b2; simp only [ByteArray.size_append, szlit0, szlit1, szlit2, szlit3, szlit4] at c29b3)
                                      replace H := Option.bind_eq_some_iff.mp H
                                      obtain ⟨t155, A300, H⟩ := H
                                      replace H : (if ((((((rdOf ByteArray.empty y143 (ji6)) ++ (⟨#[44, 32]⟩ : ByteArray)) ++ t153) ++ (⟨#[32]⟩ : ByteArray)) ++ (rdOf ByteArray.empty y150 x9_4)) ++ (⟨#[32]⟩ : ByteArray)).size + t155.size ≤ 9223372036854775807 then ((mailbagref18_two.f x7_8).bind fun t156 => (if (((((((rdOf ByteArray.empty y143 (ji6)) ++ (⟨#[44, 32]⟩ : ByteArray)) ++ t153) ++ (⟨#[32]⟩ : ByteArray)) ++ (rdOf ByteArray.empty y150 x9_4)) ++ (⟨#[32]⟩ : ByteArray)) ++ t155).size + t156.size ≤ 9223372036854775807 then (if ((((((((rdOf ByteArray.empty y143 (ji6)) ++ (⟨#[44, 32]⟩ : ByteArray)) ++ t153) ++ (⟨#[32]⟩ : ByteArray)) ++ (rdOf ByteArray.empty y150 x9_4)) ++ (⟨#[32]⟩ : ByteArray)) ++ t155) ++ t156).size + 1 ≤ 9223372036854775807 then ((mailbagref18_two.f (wrap64 (Int.tdiv (Int.tmod x0_3 86400) 3600))).bind fun t157 => (if (((((((((rdOf ByteArray.empty y143 (ji6)) ++ (⟨#[44, 32]⟩ : ByteArray)) ++ t153) ++ (⟨#[32]⟩ : ByteArray)) ++ (rdOf ByteArray.empty y150 x9_4)) ++ (⟨#[32]⟩ : ByteArray)) ++ t155) ++ t156) ++ (⟨#[32]⟩ : ByteArray)).size + t157.size ≤ 9223372036854775807 then (if ((((((((((rdOf ByteArray.empty y143 (ji6)) ++ (⟨#[44, 32]⟩ : ByteArray)) ++ t153) ++ (⟨#[32]⟩ : ByteArray)) ++ (rdOf ByteArray.empty y150 x9_4)) ++ (⟨#[32]⟩ : ByteArray)) ++ t155) ++ t156) ++ (⟨#[32]⟩ : ByteArray)) ++ t157).size + 1 ≤ 9223372036854775807 then ((mailbagref18_two.f (Int.tmod (wrap64 (Int.tdiv (Int.tmod x0_3 86400) 60)) 60)).bind fun t158 => (if (((((((((((rdOf ByteArray.empty y143 (ji6)) ++ (⟨#[44, 32]⟩ : ByteArray)) ++ t153) ++ (⟨#[32]⟩ : ByteArray)) ++ (rdOf ByteArray.empty y150 x9_4)) ++ (⟨#[32]⟩ : ByteArray)) ++ t155) ++ t156) ++ (⟨#[32]⟩ : ByteArray)) ++ t157) ++ (⟨#[58]⟩ : ByteArray)).size + t158.size ≤ 9223372036854775807 then (if ((((((((((((rdOf ByteArray.empty y143 (ji6)) ++ (⟨#[44, 32]⟩ : ByteArray)) ++ t153) ++ (⟨#[32]⟩ : ByteArray)) ++ (rdOf ByteArray.empty y150 x9_4)) ++ (⟨#[32]⟩ : ByteArray)) ++ t155) ++ t156) ++ (⟨#[32]⟩ : ByteArray)) ++ t157) ++ (⟨#[58]⟩ : ByteArray)) ++ t158).size + 1 ≤ 9223372036854775807 then ((mailbagref18_two.f (Int.tmod (Int.tmod x0_3 86400) 60)).bind fun t159 => (if (((((((((((((rdOf ByteArray.empty y143 (ji6)) ++ (⟨#[44, 32]⟩ : ByteArray)) ++ t153) ++ (⟨#[32]⟩ : ByteArray)) ++ (rdOf ByteArray.empty y150 x9_4)) ++ (⟨#[32]⟩ : ByteArray)) ++ t155) ++ t156) ++ (⟨#[32]⟩ : ByteArray)) ++ t157) ++ (⟨#[58]⟩ : ByteArray)) ++ t158) ++ (⟨#[58]⟩ : ByteArray)).size + t159.size ≤ 9223372036854775807 then (if ((((((((((((((rdOf ByteArray.empty y143 (ji6)) ++ (⟨#[44, 32]⟩ : ByteArray)) ++ t153) ++ (⟨#[32]⟩ : ByteArray)) ++ (rdOf ByteArray.empty y150 x9_4)) ++ (⟨#[32]⟩ : ByteArray)) ++ t155) ++ t156) ++ (⟨#[32]⟩ : ByteArray)) ++ t157) ++ (⟨#[58]⟩ : ByteArray)) ++ t158) ++ (⟨#[58]⟩ : ByteArray)) ++ t159).size + 6 ≤ 9223372036854775807 then (some (((((((((((((((rdOf ByteArray.empty y143 (ji6)) ++ (⟨#[44, 32]⟩ : ByteArray)) ++ t153) ++ (⟨#[32]⟩ : ByteArray)) ++ (rdOf ByteArray.empty y150 x9_4)) ++ (⟨#[32]⟩ : ByteArray)) ++ t155) ++ t156) ++ (⟨#[32]⟩ : ByteArray)) ++ t157) ++ (⟨#[58]⟩ : ByteArray)) ++ t158) ++ (⟨#[58]⟩ : ByteArray)) ++ t159) ++ (⟨#[32, 43, 48, 48, 48, 48]⟩ : ByteArray))) else (none)) else (none))) else (none)) else (none))) else (none)) else (none))) else (none)) else (none))) else (none)) = some r := H
                                      have A30 := Aside0.mk A300
                                      clear A300
                                      by_cases c31 : ((((((rdOf ByteArray.empty y143 (ji6)) ++ (⟨#[44, 32]⟩ : ByteArray)) ++ t153) ++ (⟨#[32]⟩ : ByteArray)) ++ (rdOf ByteArray.empty y150 x9_4)) ++ (⟨#[32]⟩ : ByteArray)).size + t155.size ≤ 9223372036854775807
                                      · rw [if_pos c31] at H
                                        have c31b0 := eq_true c31
                                        have c31b1 : decide (((((((rdOf ByteArray.empty y143 (ji6)) ++ (⟨#[44, 32]⟩ : ByteArray)) ++ t153) ++ (⟨#[32]⟩ : ByteArray)) ++ (rdOf ByteArray.empty y150 x9_4)) ++ (⟨#[32]⟩ : ByteArray)).size + t155.size ≤ 9223372036854775807) = true := decide_eq_true c31
                                        try have c31b2 : (9223372036854775807 < ((((((rdOf ByteArray.empty y143 (ji6)) ++ (⟨#[44, 32]⟩ : ByteArray)) ++ t153) ++ (⟨#[32]⟩ : ByteArray)) ++ (rdOf ByteArray.empty y150 x9_4)) ++ (⟨#[32]⟩ : ByteArray)).size + t155.size) = False := eq_false (Nat.not_lt.2 c31)
                                        try (have c31b3 := c31b2; simp only [ByteArray.size_append, szlit0, szlit1, szlit2, szlit3, szlit4] at c31b3)
                                        replace H := Option.bind_eq_some_iff.mp H
                                        obtain ⟨t156, A320, H⟩ := H
                                        replace H : (if (((((((rdOf ByteArray.empty y143 (ji6)) ++ (⟨#[44, 32]⟩ : ByteArray)) ++ t153) ++ (⟨#[32]⟩ : ByteArray)) ++ (rdOf ByteArray.empty y150 x9_4)) ++ (⟨#[32]⟩ : ByteArray)) ++ t155).size + t156.size ≤ 9223372036854775807 then (if ((((((((rdOf ByteArray.empty y143 (ji6)) ++ (⟨#[44, 32]⟩ : ByteArray)) ++ t153) ++ (⟨#[32]⟩ : ByteArray)) ++ (rdOf ByteArray.empty y150 x9_4)) ++ (⟨#[32]⟩ : ByteArray)) ++ t155) ++ t156).size + 1 ≤ 9223372036854775807 then ((mailbagref18_two.f (wrap64 (Int.tdiv (Int.tmod x0_3 86400) 3600))).bind fun t157 => (if (((((((((rdOf ByteArray.empty y143 (ji6)) ++ (⟨#[44, 32]⟩ : ByteArray)) ++ t153) ++ (⟨#[32]⟩ : ByteArray)) ++ (rdOf ByteArray.empty y150 x9_4)) ++ (⟨#[32]⟩ : ByteArray)) ++ t155) ++ t156) ++ (⟨#[32]⟩ : ByteArray)).size + t157.size ≤ 9223372036854775807 then (if ((((((((((rdOf ByteArray.empty y143 (ji6)) ++ (⟨#[44, 32]⟩ : ByteArray)) ++ t153) ++ (⟨#[32]⟩ : ByteArray)) ++ (rdOf ByteArray.empty y150 x9_4)) ++ (⟨#[32]⟩ : ByteArray)) ++ t155) ++ t156) ++ (⟨#[32]⟩ : ByteArray)) ++ t157).size + 1 ≤ 9223372036854775807 then ((mailbagref18_two.f (Int.tmod (wrap64 (Int.tdiv (Int.tmod x0_3 86400) 60)) 60)).bind fun t158 => (if (((((((((((rdOf ByteArray.empty y143 (ji6)) ++ (⟨#[44, 32]⟩ : ByteArray)) ++ t153) ++ (⟨#[32]⟩ : ByteArray)) ++ (rdOf ByteArray.empty y150 x9_4)) ++ (⟨#[32]⟩ : ByteArray)) ++ t155) ++ t156) ++ (⟨#[32]⟩ : ByteArray)) ++ t157) ++ (⟨#[58]⟩ : ByteArray)).size + t158.size ≤ 9223372036854775807 then (if ((((((((((((rdOf ByteArray.empty y143 (ji6)) ++ (⟨#[44, 32]⟩ : ByteArray)) ++ t153) ++ (⟨#[32]⟩ : ByteArray)) ++ (rdOf ByteArray.empty y150 x9_4)) ++ (⟨#[32]⟩ : ByteArray)) ++ t155) ++ t156) ++ (⟨#[32]⟩ : ByteArray)) ++ t157) ++ (⟨#[58]⟩ : ByteArray)) ++ t158).size + 1 ≤ 9223372036854775807 then ((mailbagref18_two.f (Int.tmod (Int.tmod x0_3 86400) 60)).bind fun t159 => (if (((((((((((((rdOf ByteArray.empty y143 (ji6)) ++ (⟨#[44, 32]⟩ : ByteArray)) ++ t153) ++ (⟨#[32]⟩ : ByteArray)) ++ (rdOf ByteArray.empty y150 x9_4)) ++ (⟨#[32]⟩ : ByteArray)) ++ t155) ++ t156) ++ (⟨#[32]⟩ : ByteArray)) ++ t157) ++ (⟨#[58]⟩ : ByteArray)) ++ t158) ++ (⟨#[58]⟩ : ByteArray)).size + t159.size ≤ 9223372036854775807 then (if ((((((((((((((rdOf ByteArray.empty y143 (ji6)) ++ (⟨#[44, 32]⟩ : ByteArray)) ++ t153) ++ (⟨#[32]⟩ : ByteArray)) ++ (rdOf ByteArray.empty y150 x9_4)) ++ (⟨#[32]⟩ : ByteArray)) ++ t155) ++ t156) ++ (⟨#[32]⟩ : ByteArray)) ++ t157) ++ (⟨#[58]⟩ : ByteArray)) ++ t158) ++ (⟨#[58]⟩ : ByteArray)) ++ t159).size + 6 ≤ 9223372036854775807 then (some (((((((((((((((rdOf ByteArray.empty y143 (ji6)) ++ (⟨#[44, 32]⟩ : ByteArray)) ++ t153) ++ (⟨#[32]⟩ : ByteArray)) ++ (rdOf ByteArray.empty y150 x9_4)) ++ (⟨#[32]⟩ : ByteArray)) ++ t155) ++ t156) ++ (⟨#[32]⟩ : ByteArray)) ++ t157) ++ (⟨#[58]⟩ : ByteArray)) ++ t158) ++ (⟨#[58]⟩ : ByteArray)) ++ t159) ++ (⟨#[32, 43, 48, 48, 48, 48]⟩ : ByteArray))) else (none)) else (none))) else (none)) else (none))) else (none)) else (none))) else (none)) else (none)) = some r := H
                                        have A32 := Aside0.mk A320
                                        clear A320
                                        by_cases c33 : (((((((rdOf ByteArray.empty y143 (ji6)) ++ (⟨#[44, 32]⟩ : ByteArray)) ++ t153) ++ (⟨#[32]⟩ : ByteArray)) ++ (rdOf ByteArray.empty y150 x9_4)) ++ (⟨#[32]⟩ : ByteArray)) ++ t155).size + t156.size ≤ 9223372036854775807
                                        · rw [if_pos c33] at H
                                          have c33b0 := eq_true c33
                                          have c33b1 : decide ((((((((rdOf ByteArray.empty y143 (ji6)) ++ (⟨#[44, 32]⟩ : ByteArray)) ++ t153) ++ (⟨#[32]⟩ : ByteArray)) ++ (rdOf ByteArray.empty y150 x9_4)) ++ (⟨#[32]⟩ : ByteArray)) ++ t155).size + t156.size ≤ 9223372036854775807) = true := decide_eq_true c33
                                          try have c33b2 : (9223372036854775807 < (((((((rdOf ByteArray.empty y143 (ji6)) ++ (⟨#[44, 32]⟩ : ByteArray)) ++ t153) ++ (⟨#[32]⟩ : ByteArray)) ++ (rdOf ByteArray.empty y150 x9_4)) ++ (⟨#[32]⟩ : ByteArray)) ++ t155).size + t156.size) = False := eq_false (Nat.not_lt.2 c33)
                                          try (have c33b3 := c33b2; simp only [ByteArray.size_append, szlit0, szlit1, szlit2, szlit3, szlit4] at c33b3)
                                          by_cases c34 : ((((((((rdOf ByteArray.empty y143 (ji6)) ++ (⟨#[44, 32]⟩ : ByteArray)) ++ t153) ++ (⟨#[32]⟩ : ByteArray)) ++ (rdOf ByteArray.empty y150 x9_4)) ++ (⟨#[32]⟩ : ByteArray)) ++ t155) ++ t156).size + 1 ≤ 9223372036854775807
                                          · rw [if_pos c34] at H
                                            have c34b0 := eq_true c34
                                            have c34b1 : decide (((((((((rdOf ByteArray.empty y143 (ji6)) ++ (⟨#[44, 32]⟩ : ByteArray)) ++ t153) ++ (⟨#[32]⟩ : ByteArray)) ++ (rdOf ByteArray.empty y150 x9_4)) ++ (⟨#[32]⟩ : ByteArray)) ++ t155) ++ t156).size + 1 ≤ 9223372036854775807) = true := decide_eq_true c34
                                            try have c34b2 : (9223372036854775807 < ((((((((rdOf ByteArray.empty y143 (ji6)) ++ (⟨#[44, 32]⟩ : ByteArray)) ++ t153) ++ (⟨#[32]⟩ : ByteArray)) ++ (rdOf ByteArray.empty y150 x9_4)) ++ (⟨#[32]⟩ : ByteArray)) ++ t155) ++ t156).size + 1) = False := eq_false (Nat.not_lt.2 c34)
                                            try (have c34b3 := c34b2; simp only [ByteArray.size_append, szlit0, szlit1, szlit2, szlit3, szlit4] at c34b3)
                                            replace H := Option.bind_eq_some_iff.mp H
                                            obtain ⟨t157, A350, H⟩ := H
                                            replace H : (if (((((((((rdOf ByteArray.empty y143 (ji6)) ++ (⟨#[44, 32]⟩ : ByteArray)) ++ t153) ++ (⟨#[32]⟩ : ByteArray)) ++ (rdOf ByteArray.empty y150 x9_4)) ++ (⟨#[32]⟩ : ByteArray)) ++ t155) ++ t156) ++ (⟨#[32]⟩ : ByteArray)).size + t157.size ≤ 9223372036854775807 then (if ((((((((((rdOf ByteArray.empty y143 (ji6)) ++ (⟨#[44, 32]⟩ : ByteArray)) ++ t153) ++ (⟨#[32]⟩ : ByteArray)) ++ (rdOf ByteArray.empty y150 x9_4)) ++ (⟨#[32]⟩ : ByteArray)) ++ t155) ++ t156) ++ (⟨#[32]⟩ : ByteArray)) ++ t157).size + 1 ≤ 9223372036854775807 then ((mailbagref18_two.f (Int.tmod (wrap64 (Int.tdiv (Int.tmod x0_3 86400) 60)) 60)).bind fun t158 => (if (((((((((((rdOf ByteArray.empty y143 (ji6)) ++ (⟨#[44, 32]⟩ : ByteArray)) ++ t153) ++ (⟨#[32]⟩ : ByteArray)) ++ (rdOf ByteArray.empty y150 x9_4)) ++ (⟨#[32]⟩ : ByteArray)) ++ t155) ++ t156) ++ (⟨#[32]⟩ : ByteArray)) ++ t157) ++ (⟨#[58]⟩ : ByteArray)).size + t158.size ≤ 9223372036854775807 then (if ((((((((((((rdOf ByteArray.empty y143 (ji6)) ++ (⟨#[44, 32]⟩ : ByteArray)) ++ t153) ++ (⟨#[32]⟩ : ByteArray)) ++ (rdOf ByteArray.empty y150 x9_4)) ++ (⟨#[32]⟩ : ByteArray)) ++ t155) ++ t156) ++ (⟨#[32]⟩ : ByteArray)) ++ t157) ++ (⟨#[58]⟩ : ByteArray)) ++ t158).size + 1 ≤ 9223372036854775807 then ((mailbagref18_two.f (Int.tmod (Int.tmod x0_3 86400) 60)).bind fun t159 => (if (((((((((((((rdOf ByteArray.empty y143 (ji6)) ++ (⟨#[44, 32]⟩ : ByteArray)) ++ t153) ++ (⟨#[32]⟩ : ByteArray)) ++ (rdOf ByteArray.empty y150 x9_4)) ++ (⟨#[32]⟩ : ByteArray)) ++ t155) ++ t156) ++ (⟨#[32]⟩ : ByteArray)) ++ t157) ++ (⟨#[58]⟩ : ByteArray)) ++ t158) ++ (⟨#[58]⟩ : ByteArray)).size + t159.size ≤ 9223372036854775807 then (if ((((((((((((((rdOf ByteArray.empty y143 (ji6)) ++ (⟨#[44, 32]⟩ : ByteArray)) ++ t153) ++ (⟨#[32]⟩ : ByteArray)) ++ (rdOf ByteArray.empty y150 x9_4)) ++ (⟨#[32]⟩ : ByteArray)) ++ t155) ++ t156) ++ (⟨#[32]⟩ : ByteArray)) ++ t157) ++ (⟨#[58]⟩ : ByteArray)) ++ t158) ++ (⟨#[58]⟩ : ByteArray)) ++ t159).size + 6 ≤ 9223372036854775807 then (some (((((((((((((((rdOf ByteArray.empty y143 (ji6)) ++ (⟨#[44, 32]⟩ : ByteArray)) ++ t153) ++ (⟨#[32]⟩ : ByteArray)) ++ (rdOf ByteArray.empty y150 x9_4)) ++ (⟨#[32]⟩ : ByteArray)) ++ t155) ++ t156) ++ (⟨#[32]⟩ : ByteArray)) ++ t157) ++ (⟨#[58]⟩ : ByteArray)) ++ t158) ++ (⟨#[58]⟩ : ByteArray)) ++ t159) ++ (⟨#[32, 43, 48, 48, 48, 48]⟩ : ByteArray))) else (none)) else (none))) else (none)) else (none))) else (none)) else (none)) = some r := H
                                            have A35 := Aside0.mk A350
                                            clear A350
                                            by_cases c36 : (((((((((rdOf ByteArray.empty y143 (ji6)) ++ (⟨#[44, 32]⟩ : ByteArray)) ++ t153) ++ (⟨#[32]⟩ : ByteArray)) ++ (rdOf ByteArray.empty y150 x9_4)) ++ (⟨#[32]⟩ : ByteArray)) ++ t155) ++ t156) ++ (⟨#[32]⟩ : ByteArray)).size + t157.size ≤ 9223372036854775807
                                            · rw [if_pos c36] at H
                                              have c36b0 := eq_true c36
                                              have c36b1 : decide ((((((((((rdOf ByteArray.empty y143 (ji6)) ++ (⟨#[44, 32]⟩ : ByteArray)) ++ t153) ++ (⟨#[32]⟩ : ByteArray)) ++ (rdOf ByteArray.empty y150 x9_4)) ++ (⟨#[32]⟩ : ByteArray)) ++ t155) ++ t156) ++ (⟨#[32]⟩ : ByteArray)).size + t157.size ≤ 9223372036854775807) = true := decide_eq_true c36
                                              try have c36b2 : (9223372036854775807 < (((((((((rdOf ByteArray.empty y143 (ji6)) ++ (⟨#[44, 32]⟩ : ByteArray)) ++ t153) ++ (⟨#[32]⟩ : ByteArray)) ++ (rdOf ByteArray.empty y150 x9_4)) ++ (⟨#[32]⟩ : ByteArray)) ++ t155) ++ t156) ++ (⟨#[32]⟩ : ByteArray)).size + t157.size) = False := eq_false (Nat.not_lt.2 c36)
                                              try (have c36b3 := c36b2; simp only [ByteArray.size_append, szlit0, szlit1, szlit2, szlit3, szlit4] at c36b3)
                                              by_cases c37 : ((((((((((rdOf ByteArray.empty y143 (ji6)) ++ (⟨#[44, 32]⟩ : ByteArray)) ++ t153) ++ (⟨#[32]⟩ : ByteArray)) ++ (rdOf ByteArray.empty y150 x9_4)) ++ (⟨#[32]⟩ : ByteArray)) ++ t155) ++ t156) ++ (⟨#[32]⟩ : ByteArray)) ++ t157).size + 1 ≤ 9223372036854775807
                                              · rw [if_pos c37] at H
                                                have c37b0 := eq_true c37
                                                have c37b1 : decide (((((((((((rdOf ByteArray.empty y143 (ji6)) ++ (⟨#[44, 32]⟩ : ByteArray)) ++ t153) ++ (⟨#[32]⟩ : ByteArray)) ++ (rdOf ByteArray.empty y150 x9_4)) ++ (⟨#[32]⟩ : ByteArray)) ++ t155) ++ t156) ++ (⟨#[32]⟩ : ByteArray)) ++ t157).size + 1 ≤ 9223372036854775807) = true := decide_eq_true c37
                                                try have c37b2 : (9223372036854775807 < ((((((((((rdOf ByteArray.empty y143 (ji6)) ++ (⟨#[44, 32]⟩ : ByteArray)) ++ t153) ++ (⟨#[32]⟩ : ByteArray)) ++ (rdOf ByteArray.empty y150 x9_4)) ++ (⟨#[32]⟩ : ByteArray)) ++ t155) ++ t156) ++ (⟨#[32]⟩ : ByteArray)) ++ t157).size + 1) = False := eq_false (Nat.not_lt.2 c37)
                                                try (have c37b3 := c37b2; simp only [ByteArray.size_append, szlit0, szlit1, szlit2, szlit3, szlit4] at c37b3)
                                                replace H := Option.bind_eq_some_iff.mp H
                                                obtain ⟨t158, A380, H⟩ := H
                                                replace H : (if (((((((((((rdOf ByteArray.empty y143 (ji6)) ++ (⟨#[44, 32]⟩ : ByteArray)) ++ t153) ++ (⟨#[32]⟩ : ByteArray)) ++ (rdOf ByteArray.empty y150 x9_4)) ++ (⟨#[32]⟩ : ByteArray)) ++ t155) ++ t156) ++ (⟨#[32]⟩ : ByteArray)) ++ t157) ++ (⟨#[58]⟩ : ByteArray)).size + t158.size ≤ 9223372036854775807 then (if ((((((((((((rdOf ByteArray.empty y143 (ji6)) ++ (⟨#[44, 32]⟩ : ByteArray)) ++ t153) ++ (⟨#[32]⟩ : ByteArray)) ++ (rdOf ByteArray.empty y150 x9_4)) ++ (⟨#[32]⟩ : ByteArray)) ++ t155) ++ t156) ++ (⟨#[32]⟩ : ByteArray)) ++ t157) ++ (⟨#[58]⟩ : ByteArray)) ++ t158).size + 1 ≤ 9223372036854775807 then ((mailbagref18_two.f (Int.tmod (Int.tmod x0_3 86400) 60)).bind fun t159 => (if (((((((((((((rdOf ByteArray.empty y143 (ji6)) ++ (⟨#[44, 32]⟩ : ByteArray)) ++ t153) ++ (⟨#[32]⟩ : ByteArray)) ++ (rdOf ByteArray.empty y150 x9_4)) ++ (⟨#[32]⟩ : ByteArray)) ++ t155) ++ t156) ++ (⟨#[32]⟩ : ByteArray)) ++ t157) ++ (⟨#[58]⟩ : ByteArray)) ++ t158) ++ (⟨#[58]⟩ : ByteArray)).size + t159.size ≤ 9223372036854775807 then (if ((((((((((((((rdOf ByteArray.empty y143 (ji6)) ++ (⟨#[44, 32]⟩ : ByteArray)) ++ t153) ++ (⟨#[32]⟩ : ByteArray)) ++ (rdOf ByteArray.empty y150 x9_4)) ++ (⟨#[32]⟩ : ByteArray)) ++ t155) ++ t156) ++ (⟨#[32]⟩ : ByteArray)) ++ t157) ++ (⟨#[58]⟩ : ByteArray)) ++ t158) ++ (⟨#[58]⟩ : ByteArray)) ++ t159).size + 6 ≤ 9223372036854775807 then (some (((((((((((((((rdOf ByteArray.empty y143 (ji6)) ++ (⟨#[44, 32]⟩ : ByteArray)) ++ t153) ++ (⟨#[32]⟩ : ByteArray)) ++ (rdOf ByteArray.empty y150 x9_4)) ++ (⟨#[32]⟩ : ByteArray)) ++ t155) ++ t156) ++ (⟨#[32]⟩ : ByteArray)) ++ t157) ++ (⟨#[58]⟩ : ByteArray)) ++ t158) ++ (⟨#[58]⟩ : ByteArray)) ++ t159) ++ (⟨#[32, 43, 48, 48, 48, 48]⟩ : ByteArray))) else (none)) else (none))) else (none)) else (none)) = some r := H
                                                have A38 := Aside0.mk A380
                                                clear A380
                                                by_cases c39 : (((((((((((rdOf ByteArray.empty y143 (ji6)) ++ (⟨#[44, 32]⟩ : ByteArray)) ++ t153) ++ (⟨#[32]⟩ : ByteArray)) ++ (rdOf ByteArray.empty y150 x9_4)) ++ (⟨#[32]⟩ : ByteArray)) ++ t155) ++ t156) ++ (⟨#[32]⟩ : ByteArray)) ++ t157) ++ (⟨#[58]⟩ : ByteArray)).size + t158.size ≤ 9223372036854775807
                                                · rw [if_pos c39] at H
                                                  have c39b0 := eq_true c39
                                                  have c39b1 : decide ((((((((((((rdOf ByteArray.empty y143 (ji6)) ++ (⟨#[44, 32]⟩ : ByteArray)) ++ t153) ++ (⟨#[32]⟩ : ByteArray)) ++ (rdOf ByteArray.empty y150 x9_4)) ++ (⟨#[32]⟩ : ByteArray)) ++ t155) ++ t156) ++ (⟨#[32]⟩ : ByteArray)) ++ t157) ++ (⟨#[58]⟩ : ByteArray)).size + t158.size ≤ 9223372036854775807) = true := decide_eq_true c39
                                                  try have c39b2 : (9223372036854775807 < (((((((((((rdOf ByteArray.empty y143 (ji6)) ++ (⟨#[44, 32]⟩ : ByteArray)) ++ t153) ++ (⟨#[32]⟩ : ByteArray)) ++ (rdOf ByteArray.empty y150 x9_4)) ++ (⟨#[32]⟩ : ByteArray)) ++ t155) ++ t156) ++ (⟨#[32]⟩ : ByteArray)) ++ t157) ++ (⟨#[58]⟩ : ByteArray)).size + t158.size) = False := eq_false (Nat.not_lt.2 c39)
                                                  try (have c39b3 := c39b2; simp only [ByteArray.size_append, szlit0, szlit1, szlit2, szlit3, szlit4] at c39b3)
                                                  by_cases c40 : ((((((((((((rdOf ByteArray.empty y143 (ji6)) ++ (⟨#[44, 32]⟩ : ByteArray)) ++ t153) ++ (⟨#[32]⟩ : ByteArray)) ++ (rdOf ByteArray.empty y150 x9_4)) ++ (⟨#[32]⟩ : ByteArray)) ++ t155) ++ t156) ++ (⟨#[32]⟩ : ByteArray)) ++ t157) ++ (⟨#[58]⟩ : ByteArray)) ++ t158).size + 1 ≤ 9223372036854775807
                                                  · rw [if_pos c40] at H
                                                    have c40b0 := eq_true c40
                                                    have c40b1 : decide (((((((((((((rdOf ByteArray.empty y143 (ji6)) ++ (⟨#[44, 32]⟩ : ByteArray)) ++ t153) ++ (⟨#[32]⟩ : ByteArray)) ++ (rdOf ByteArray.empty y150 x9_4)) ++ (⟨#[32]⟩ : ByteArray)) ++ t155) ++ t156) ++ (⟨#[32]⟩ : ByteArray)) ++ t157) ++ (⟨#[58]⟩ : ByteArray)) ++ t158).size + 1 ≤ 9223372036854775807) = true := decide_eq_true c40
                                                    try have c40b2 : (9223372036854775807 < ((((((((((((rdOf ByteArray.empty y143 (ji6)) ++ (⟨#[44, 32]⟩ : ByteArray)) ++ t153) ++ (⟨#[32]⟩ : ByteArray)) ++ (rdOf ByteArray.empty y150 x9_4)) ++ (⟨#[32]⟩ : ByteArray)) ++ t155) ++ t156) ++ (⟨#[32]⟩ : ByteArray)) ++ t157) ++ (⟨#[58]⟩ : ByteArray)) ++ t158).size + 1) = False := eq_false (Nat.not_lt.2 c40)
                                                    try (have c40b3 := c40b2; simp only [ByteArray.size_append, szlit0, szlit1, szlit2, szlit3, szlit4] at c40b3)
                                                    replace H := Option.bind_eq_some_iff.mp H
                                                    obtain ⟨t159, A410, H⟩ := H
                                                    replace H : (if (((((((((((((rdOf ByteArray.empty y143 (ji6)) ++ (⟨#[44, 32]⟩ : ByteArray)) ++ t153) ++ (⟨#[32]⟩ : ByteArray)) ++ (rdOf ByteArray.empty y150 x9_4)) ++ (⟨#[32]⟩ : ByteArray)) ++ t155) ++ t156) ++ (⟨#[32]⟩ : ByteArray)) ++ t157) ++ (⟨#[58]⟩ : ByteArray)) ++ t158) ++ (⟨#[58]⟩ : ByteArray)).size + t159.size ≤ 9223372036854775807 then (if ((((((((((((((rdOf ByteArray.empty y143 (ji6)) ++ (⟨#[44, 32]⟩ : ByteArray)) ++ t153) ++ (⟨#[32]⟩ : ByteArray)) ++ (rdOf ByteArray.empty y150 x9_4)) ++ (⟨#[32]⟩ : ByteArray)) ++ t155) ++ t156) ++ (⟨#[32]⟩ : ByteArray)) ++ t157) ++ (⟨#[58]⟩ : ByteArray)) ++ t158) ++ (⟨#[58]⟩ : ByteArray)) ++ t159).size + 6 ≤ 9223372036854775807 then (some (((((((((((((((rdOf ByteArray.empty y143 (ji6)) ++ (⟨#[44, 32]⟩ : ByteArray)) ++ t153) ++ (⟨#[32]⟩ : ByteArray)) ++ (rdOf ByteArray.empty y150 x9_4)) ++ (⟨#[32]⟩ : ByteArray)) ++ t155) ++ t156) ++ (⟨#[32]⟩ : ByteArray)) ++ t157) ++ (⟨#[58]⟩ : ByteArray)) ++ t158) ++ (⟨#[58]⟩ : ByteArray)) ++ t159) ++ (⟨#[32, 43, 48, 48, 48, 48]⟩ : ByteArray))) else (none)) else (none)) = some r := H
                                                    have A41 := Aside0.mk A410
                                                    clear A410
                                                    by_cases c42 : (((((((((((((rdOf ByteArray.empty y143 (ji6)) ++ (⟨#[44, 32]⟩ : ByteArray)) ++ t153) ++ (⟨#[32]⟩ : ByteArray)) ++ (rdOf ByteArray.empty y150 x9_4)) ++ (⟨#[32]⟩ : ByteArray)) ++ t155) ++ t156) ++ (⟨#[32]⟩ : ByteArray)) ++ t157) ++ (⟨#[58]⟩ : ByteArray)) ++ t158) ++ (⟨#[58]⟩ : ByteArray)).size + t159.size ≤ 9223372036854775807
                                                    · rw [if_pos c42] at H
                                                      have c42b0 := eq_true c42
                                                      have c42b1 : decide ((((((((((((((rdOf ByteArray.empty y143 (ji6)) ++ (⟨#[44, 32]⟩ : ByteArray)) ++ t153) ++ (⟨#[32]⟩ : ByteArray)) ++ (rdOf ByteArray.empty y150 x9_4)) ++ (⟨#[32]⟩ : ByteArray)) ++ t155) ++ t156) ++ (⟨#[32]⟩ : ByteArray)) ++ t157) ++ (⟨#[58]⟩ : ByteArray)) ++ t158) ++ (⟨#[58]⟩ : ByteArray)).size + t159.size ≤ 9223372036854775807) = true := decide_eq_true c42
                                                      try have c42b2 : (9223372036854775807 < (((((((((((((rdOf ByteArray.empty y143 (ji6)) ++ (⟨#[44, 32]⟩ : ByteArray)) ++ t153) ++ (⟨#[32]⟩ : ByteArray)) ++ (rdOf ByteArray.empty y150 x9_4)) ++ (⟨#[32]⟩ : ByteArray)) ++ t155) ++ t156) ++ (⟨#[32]⟩ : ByteArray)) ++ t157) ++ (⟨#[58]⟩ : ByteArray)) ++ t158) ++ (⟨#[58]⟩ : ByteArray)).size + t159.size) = False := eq_false (Nat.not_lt.2 c42)
                                                      try (have c42b3 := c42b2; simp only [ByteArray.size_append, szlit0, szlit1, szlit2, szlit3, szlit4] at c42b3)
                                                      by_cases c43 : ((((((((((((((rdOf ByteArray.empty y143 (ji6)) ++ (⟨#[44, 32]⟩ : ByteArray)) ++ t153) ++ (⟨#[32]⟩ : ByteArray)) ++ (rdOf ByteArray.empty y150 x9_4)) ++ (⟨#[32]⟩ : ByteArray)) ++ t155) ++ t156) ++ (⟨#[32]⟩ : ByteArray)) ++ t157) ++ (⟨#[58]⟩ : ByteArray)) ++ t158) ++ (⟨#[58]⟩ : ByteArray)) ++ t159).size + 6 ≤ 9223372036854775807
                                                      · rw [if_pos c43] at H
                                                        have c43b0 := eq_true c43
                                                        have c43b1 : decide (((((((((((((((rdOf ByteArray.empty y143 (ji6)) ++ (⟨#[44, 32]⟩ : ByteArray)) ++ t153) ++ (⟨#[32]⟩ : ByteArray)) ++ (rdOf ByteArray.empty y150 x9_4)) ++ (⟨#[32]⟩ : ByteArray)) ++ t155) ++ t156) ++ (⟨#[32]⟩ : ByteArray)) ++ t157) ++ (⟨#[58]⟩ : ByteArray)) ++ t158) ++ (⟨#[58]⟩ : ByteArray)) ++ t159).size + 6 ≤ 9223372036854775807) = true := decide_eq_true c43
                                                        try have c43b2 : (9223372036854775807 < ((((((((((((((rdOf ByteArray.empty y143 (ji6)) ++ (⟨#[44, 32]⟩ : ByteArray)) ++ t153) ++ (⟨#[32]⟩ : ByteArray)) ++ (rdOf ByteArray.empty y150 x9_4)) ++ (⟨#[32]⟩ : ByteArray)) ++ t155) ++ t156) ++ (⟨#[32]⟩ : ByteArray)) ++ t157) ++ (⟨#[58]⟩ : ByteArray)) ++ t158) ++ (⟨#[58]⟩ : ByteArray)) ++ t159).size + 6) = False := eq_false (Nat.not_lt.2 c43)
                                                        try (have c43b3 := c43b2; simp only [ByteArray.size_append, szlit0, szlit1, szlit2, szlit3, szlit4] at c43b3)
                                                        obtain rfl := Option.some.inj H
                                                        try go_wp2_with (first | ((with_reducible refine gate_callee (f := 42) rfl ?_); refine goesL_ (some 44) rfl rfl Tryd.func42 (by kernel_rfl) rfl #[.int .i64 x9_4, .int .i64 x7_8] rfl (by (try simp only [List.map_toArray, List.map_cons, List.map_nil]); first | done | rfl | (simp only [List.length_drop, List.length_take]; rfl)) ?_; (with_reducible refine (mailbagref18_days.calls x9_4 x7_8 t148 _ A17.out).mono ?_); rintro e w44 ⟨rfl, hb⟩; refine ⟨_, rfl, ?_⟩; have n0_ := Aside0.mk (below_step (by repeat (first | (with_reducible first | exact HB.out | apply below_alloc | apply pw_below_drewN | apply below_drew1) | exact HB.out)) hb); clear HB; have HB := n0_; clear n0_; (try clear hb); (try clear hb2); (try clear hk); (try clear hi)) | ((with_reducible refine gate_dst (N := 53) rfl ?_); refine Kd.R_lit Kd.string _ 9 ?hg (N := 53) ?hd (xs := ([(⟨#[74, 97, 110]⟩ : ByteArray), (⟨#[70, 101, 98]⟩ : ByteArray), (⟨#[77, 97, 114]⟩ : ByteArray), (⟨#[65, 112, 114]⟩ : ByteArray), (⟨#[77, 97, 121]⟩ : ByteArray), (⟨#[74, 117, 110]⟩ : ByteArray), (⟨#[74, 117, 108]⟩ : ByteArray), (⟨#[65, 117, 103]⟩ : ByteArray), (⟨#[83, 101, 112]⟩ : ByteArray), (⟨#[79, 99, 116]⟩ : ByteArray), (⟨#[78, 111, 118]⟩ : ByteArray), (⟨#[68, 101, 99]⟩ : ByteArray)] : List ByteArray)) (inner := [.string (⟨#[74, 97, 110]⟩ : ByteArray), .string (⟨#[70, 101, 98]⟩ : ByteArray), .string (⟨#[77, 97, 114]⟩ : ByteArray), .string (⟨#[65, 112, 114]⟩ : ByteArray), .string (⟨#[77, 97, 121]⟩ : ByteArray), .string (⟨#[74, 117, 110]⟩ : ByteArray), .string (⟨#[74, 117, 108]⟩ : ByteArray), .string (⟨#[65, 117, 103]⟩ : ByteArray), .string (⟨#[83, 101, 112]⟩ : ByteArray), .string (⟨#[79, 99, 116]⟩ : ByteArray), .string (⟨#[78, 111, 118]⟩ : ByteArray), .string (⟨#[68, 101, 99]⟩ : ByteArray)]) (ok := fun _ => True) (okp := fun _ => True) ?hr ?hp (fun _ hk => hk) trivial (Below.refl _ _) (Nat.le_refl _) (by simp) ?_; (case hd => rfl); (case hg => rfl); (case hr => first | (go_simp; done) | (go_simp; rfl)); (case hp => exact (Reps.one (show Kd.M Kd.string _ _ _ (⟨#[74, 97, 110]⟩ : ByteArray) [.string (⟨#[74, 97, 110]⟩ : ByteArray)] from rfl) (Reps.one (show Kd.M Kd.string _ _ _ (⟨#[70, 101, 98]⟩ : ByteArray) [.string (⟨#[70, 101, 98]⟩ : ByteArray)] from rfl) (Reps.one (show Kd.M Kd.string _ _ _ (⟨#[77, 97, 114]⟩ : ByteArray) [.string (⟨#[77, 97, 114]⟩ : ByteArray)] from rfl) (Reps.one (show Kd.M Kd.string _ _ _ (⟨#[65, 112, 114]⟩ : ByteArray) [.string (⟨#[65, 112, 114]⟩ : ByteArray)] from rfl) (Reps.one (show Kd.M Kd.string _ _ _ (⟨#[77, 97, 121]⟩ : ByteArray) [.string (⟨#[77, 97, 121]⟩ : ByteArray)] from rfl) (Reps.one (show Kd.M Kd.string _ _ _ (⟨#[74, 117, 110]⟩ : ByteArray) [.string (⟨#[74, 117, 110]⟩ : ByteArray)] from rfl) (Reps.one (show Kd.M Kd.string _ _ _ (⟨#[74, 117, 108]⟩ : ByteArray) [.string (⟨#[74, 117, 108]⟩ : ByteArray)] from rfl) (Reps.one (show Kd.M Kd.string _ _ _ (⟨#[65, 117, 103]⟩ : ByteArray) [.string (⟨#[65, 117, 103]⟩ : ByteArray)] from rfl) (Reps.one (show Kd.M Kd.string _ _ _ (⟨#[83, 101, 112]⟩ : ByteArray) [.string (⟨#[83, 101, 112]⟩ : ByteArray)] from rfl) (Reps.one (show Kd.M Kd.string _ _ _ (⟨#[79, 99, 116]⟩ : ByteArray) [.string (⟨#[79, 99, 116]⟩ : ByteArray)] from rfl) (Reps.one (show Kd.M Kd.string _ _ _ (⟨#[78, 111, 118]⟩ : ByteArray) [.string (⟨#[78, 111, 118]⟩ : ByteArray)] from rfl) (Reps.one (show Kd.M Kd.string _ _ _ (⟨#[68, 101, 99]⟩ : ByteArray) [.string (⟨#[68, 101, 99]⟩ : ByteArray)] from rfl) (Reps.none _ _)))))))))))))); intro v151 w45 ho46 hb hg_ hnew_; clear hg_ hnew_; (first | rw [← Ny150.out] at ho46 | (simp only [Int.reduceToNat] at ho46; rw [← Ny150.out] at ho46)); have n0_ := Aside0.mk (Kd.R_lower ho46 (below_size (by repeat (first | (with_reducible first | exact HB.out | apply below_alloc | apply pw_below_drewN | apply below_drew1) | exact HB.out)))); have n1_ := Aside0.mk (below_step (by repeat (first | (with_reducible first | exact HB.out | apply below_alloc | apply pw_below_drewN | apply below_drew1) | exact HB.out)) hb); clear HB; have HO152 := n0_; have HB := n1_; clear n0_ n1_; clear hb ho46))
                                                        have n0_ := Aside0.mk (Kd.R_drew HO152.out)
                                                        have n1_ := Aside0.mk (below_drew1 HB.out)
                                                        clear HO152
                                                        clear HB
                                                        have HO152 := n0_
                                                        have HB := n1_
                                                        clear n0_ n1_
                                                        obtain ⟨Ao48, co48, eo48⟩ := Kd.R_slice HO152.out
                                                        (first | subst eo48 | (injection eo48 with f1_ f2_ f3_; have f4_ := f1_.symm; have f5_ := f3_.symm; clear f1_ f2_ f3_; subst f4_; subst f5_))
                                                        have p154 : 0 ≤ (x9_4 : Int) := of_decide_eq_true (by first | (with_reducible assumption) | assumption)
                                                        have q154 : x9_4 < (y150.length : Int) := of_decide_eq_true (by first | (with_reducible assumption) | assumption)
                                                        obtain ⟨ad154, e154, hx154_0⟩ := Kd.at_string (Kd.R_reads' HO152.out).2.2 x9_4 p154 q154
                                                        cases e154
                                                        replace p154 := eq_true p154
                                                        replace q154 := eq_true q154
                                                        refine start_ (n := 38) (S := fun w' => w'.cell? (ad154.add (x9_4).toNat) = some (.string (rdOf ByteArray.empty y150 x9_4))) (ds := []) #[false, false, false, false, false, false, false, false, false, false, false, false, false, false, false, false, false, false, false, false, false, false, false, false, false, false, false, false, false, false, false, false, false, false, false, false, false, false] (by kernel_rfl) rfl rfl (hx154_0) (fun hHeld => ?_); refine with_tabW mailbagref18_Date.tab22 mailbagref18_Date.bits22 (fun HT_ HW_ => ?_)
                                                        generalize w45.drew = w47 at HO152 HB hx154_0 hHeld ⊢
                                                        refine pure_ (i := 0) (N := some 54) (v := ?_) (a' := ?_) #[true, false, false, false, false, false, false, false, false, false, false, false, false, false, false, false, false, false, false, false, false, false, false, false, false, false, false, false, false, false, false, false, false, false, false, false, false, false] rfl rfl (any_of HT_.out (by kernel_rfl)) (fun _ _ _ h => h) (Or.inl ⟨by rfl, ?_⟩) ?_ ?_
                                                        rotate_left
                                                        · intro w'
                                                          go_simp
                                                          with_reducible rfl
                                                        rotate_left
                                                        · simp only [Act.put, List.setIfInBounds_toArray, List.set_cons_zero, List.set_cons_succ, i64_w, i32_w]
                                                          rfl
                                                        refine pure_ (i := 1) (N := some 55) (v := ?_) (a' := ?_) #[true, true, false, false, false, false, false, false, false, false, false, false, false, false, false, false, false, false, false, false, false, false, false, false, false, false, false, false, false, false, false, false, false, false, false, false, false, false] rfl rfl (any_of HT_.out (by kernel_rfl)) (fun _ _ _ h => h) (Or.inl ⟨by rfl, ?_⟩) ?_ ?_
                                                        rotate_left
                                                        · intro w'
                                                          go_simp
                                                          with_reducible rfl
                                                        rotate_left
                                                        · simp only [Act.put, List.setIfInBounds_toArray, List.set_cons_zero, List.set_cons_succ, i64_w, i32_w]
                                                          rfl
                                                        refine pure_ (i := 2) (N := some 56) (v := ?_) (a' := ?_) #[true, true, true, false, false, false, false, false, false, false, false, false, false, false, false, false, false, false, false, false, false, false, false, false, false, false, false, false, false, false, false, false, false, false, false, false, false, false] rfl rfl (any_of HT_.out (by kernel_rfl)) (fun _ _ _ h => h) (Or.inl ⟨by rfl, ?_⟩) ?_ ?_
                                                        rotate_left
                                                        · intro w'
                                                          go_simp
                                                          with_reducible rfl
                                                        rotate_left
                                                        · simp only [Act.put, List.setIfInBounds_toArray, List.set_cons_zero, List.set_cons_succ, i64_w, i32_w]
                                                          rfl
                                                        refine pure_ (i := 3) (N := some 57) (v := ?_) (a' := ?_) #[true, true, true, true, false, false, false, false, false, false, false, false, false, false, false, false, false, false, false, false, false, false, false, false, false, false, false, false, false, false, false, false, false, false, false, false, false, false] rfl rfl (any_of HT_.out (by kernel_rfl)) (fun _ _ _ h => h) (Or.inl ⟨by rfl, ?_⟩) ?_ ?_
                                                        rotate_left
                                                        · intro w'
                                                          go_simp
                                                          with_reducible rfl
                                                        rotate_left
                                                        · simp only [Act.put, List.setIfInBounds_toArray, List.set_cons_zero, List.set_cons_succ, i64_w, i32_w]
                                                          rfl
                                                        refine pure_ (i := 7) (N := some 61) (v := ?_) (a' := ?_) #[true, true, true, true, false, false, false, true, false, false, false, false, false, false, false, false, false, false, false, false, false, false, false, false, false, false, false, false, false, false, false, false, false, false, false, false, false, false] rfl rfl (any_of HT_.out (by kernel_rfl)) (fun _ _ _ h => h) (Or.inl ⟨by rfl, ?_⟩) ?_ ?_
                                                        rotate_left
                                                        · intro w'
                                                          go_simp
                                                          with_reducible rfl
                                                        rotate_left
                                                        · simp only [Act.put, List.setIfInBounds_toArray, List.set_cons_zero, List.set_cons_succ, i64_w, i32_w]
                                                          rfl
                                                        refine pure_ (i := 8) (N := some 62) (v := ?_) (a' := ?_) #[true, true, true, true, false, false, false, true, true, false, false, false, false, false, false, false, false, false, false, false, false, false, false, false, false, false, false, false, false, false, false, false, false, false, false, false, false, false] rfl rfl (any_of HT_.out (by kernel_rfl)) (fun _ _ _ h => h) (Or.inl ⟨by rfl, ?_⟩) ?_ ?_
                                                        rotate_left
                                                        · intro w'
                                                          go_simp
                                                          with_reducible rfl
                                                        rotate_left
                                                        · simp only [Act.put, List.setIfInBounds_toArray, List.set_cons_zero, List.set_cons_succ, i64_w, i32_w]
                                                          rfl
                                                        refine pure_ (i := 9) (N := some 63) (v := ?_) (a' := ?_) #[true, true, true, true, false, false, false, true, true, true, false, false, false, false, false, false, false, false, false, false, false, false, false, false, false, false, false, false, false, false, false, false, false, false, false, false, false, false] rfl rfl (any_of HT_.out (by kernel_rfl)) (fun _ _ _ h => h) (Or.inl ⟨by rfl, ?_⟩) ?_ ?_
                                                        rotate_left
                                                        · intro w'
                                                          go_simp
                                                          with_reducible rfl
                                                        rotate_left
                                                        · simp only [Act.put, List.setIfInBounds_toArray, List.set_cons_zero, List.set_cons_succ, i64_w, i32_w]
                                                          rfl
                                                        refine pure_ (i := 13) (N := some 67) (v := ?_) (a' := ?_) #[true, true, true, true, false, false, false, true, true, true, false, false, false, true, false, false, false, false, false, false, false, false, false, false, false, false, false, false, false, false, false, false, false, false, false, false, false, false] rfl rfl (any_of HT_.out (by kernel_rfl)) (fun _ _ _ h => h) (Or.inl ⟨by rfl, ?_⟩) ?_ ?_
                                                        rotate_left
                                                        · intro w'
                                                          go_simp
                                                          with_reducible rfl
                                                        rotate_left
                                                        · simp only [Act.put, List.setIfInBounds_toArray, List.set_cons_zero, List.set_cons_succ, i64_w, i32_w]
                                                          rfl
                                                        refine pure_ (i := 14) (N := some 68) (v := ?_) (a' := ?_) #[true, true, true, true, false, false, false, true, true, true, false, false, false, true, true, false, false, false, false, false, false, false, false, false, false, false, false, false, false, false, false, false, false, false, false, false, false, false] rfl rfl (any_of HT_.out (by kernel_rfl)) (fun _ _ _ h => h) (Or.inl ⟨by rfl, ?_⟩) ?_ ?_
                                                        rotate_left
                                                        · intro w'
                                                          go_simp
                                                          with_reducible rfl
                                                        rotate_left
                                                        · simp only [Act.put, List.setIfInBounds_toArray, List.set_cons_zero, List.set_cons_succ, i64_w, i32_w]
                                                          rfl
                                                        refine pure_ (i := 17) (N := some 71) (v := ?_) (a' := ?_) #[true, true, true, true, false, false, false, true, true, true, false, false, false, true, true, false, false, true, false, false, false, false, false, false, false, false, false, false, false, false, false, false, false, false, false, false, false, false] rfl rfl (any_of HT_.out (by kernel_rfl)) (fun _ _ _ h => h) (Or.inl ⟨by rfl, ?_⟩) ?_ ?_
                                                        rotate_left
                                                        · intro w'
                                                          go_simp
                                                          with_reducible rfl
                                                        rotate_left
                                                        · simp only [Act.put, List.setIfInBounds_toArray, List.set_cons_zero, List.set_cons_succ, i64_w, i32_w]
                                                          rfl
                                                        refine pure_ (i := 21) (N := some 75) (v := ?_) (a' := ?_) #[true, true, true, true, false, false, false, true, true, true, false, false, false, true, true, false, false, true, false, false, false, true, false, false, false, false, false, false, false, false, false, false, false, false, false, false, false, false] rfl rfl (any_of HT_.out (by kernel_rfl)) (fun _ _ _ h => h) (Or.inl ⟨by rfl, ?_⟩) ?_ ?_
                                                        rotate_left
                                                        · intro w'
                                                          go_simp
                                                          with_reducible rfl
                                                        rotate_left
                                                        · simp only [Act.put, List.setIfInBounds_toArray, List.set_cons_zero, List.set_cons_succ, i64_w, i32_w]
                                                          rfl
                                                        refine pure_ (i := 22) (N := some 76) (v := ?_) (a' := ?_) #[true, true, true, true, false, false, false, true, true, true, false, false, false, true, true, false, false, true, false, false, false, true, true, false, false, false, false, false, false, false, false, false, false, false, false, false, false, false] rfl rfl (any_of HT_.out (by kernel_rfl)) (fun _ _ _ h => h) (Or.inl ⟨by rfl, ?_⟩) ?_ ?_
                                                        rotate_left
                                                        · intro w'
                                                          go_simp
                                                          with_reducible rfl
                                                        rotate_left
                                                        · simp only [Act.put, List.setIfInBounds_toArray, List.set_cons_zero, List.set_cons_succ, i64_w, i32_w]
                                                          rfl
                                                        refine pure_ (i := 26) (N := some 80) (v := ?_) (a' := ?_) #[true, true, true, true, false, false, false, true, true, true, false, false, false, true, true, false, false, true, false, false, false, true, true, false, false, false, true, false, false, false, false, false, false, false, false, false, false, false] rfl rfl (any_of HT_.out (by kernel_rfl)) (fun _ _ _ h => h) (Or.inl ⟨by rfl, ?_⟩) ?_ ?_
                                                        rotate_left
                                                        · intro w'
                                                          go_simp
                                                          with_reducible rfl
                                                        rotate_left
                                                        · simp only [Act.put, List.setIfInBounds_toArray, List.set_cons_zero, List.set_cons_succ, i64_w, i32_w]
                                                          rfl
                                                        refine pure_ (i := 27) (N := some 81) (v := ?_) (a' := ?_) #[true, true, true, true, false, false, false, true, true, true, false, false, false, true, true, false, false, true, false, false, false, true, true, false, false, false, true, true, false, false, false, false, false, false, false, false, false, false] rfl rfl (any_of HT_.out (by kernel_rfl)) (fun _ _ _ h => h) (Or.inl ⟨by rfl, ?_⟩) ?_ ?_
                                                        rotate_left
                                                        · intro w'
                                                          go_simp
                                                          with_reducible rfl
                                                        rotate_left
                                                        · simp only [Act.put, List.setIfInBounds_toArray, List.set_cons_zero, List.set_cons_succ, i64_w, i32_w]
                                                          rfl
                                                        refine pure_ (i := 28) (N := some 82) (v := ?_) (a' := ?_) #[true, true, true, true, false, false, false, true, true, true, false, false, false, true, true, false, false, true, false, false, false, true, true, false, false, false, true, true, true, false, false, false, false, false, false, false, false, false] rfl rfl (any_of HT_.out (by kernel_rfl)) (fun _ _ _ h => h) (Or.inl ⟨by rfl, ?_⟩) ?_ ?_
                                                        rotate_left
                                                        · intro w'
                                                          go_simp
                                                          with_reducible rfl
                                                        rotate_left
                                                        · simp only [Act.put, List.setIfInBounds_toArray, List.set_cons_zero, List.set_cons_succ, i64_w, i32_w]
                                                          rfl
                                                        refine pure_ (i := 32) (N := some 86) (v := ?_) (a' := ?_) #[true, true, true, true, false, false, false, true, true, true, false, false, false, true, true, false, false, true, false, false, false, true, true, false, false, false, true, true, true, false, false, false, true, false, false, false, false, false] rfl rfl (any_of HT_.out (by kernel_rfl)) (fun _ _ _ h => h) (Or.inl ⟨by rfl, ?_⟩) ?_ ?_
                                                        rotate_left
                                                        · intro w'
                                                          go_simp
                                                          with_reducible rfl
                                                        rotate_left
                                                        · simp only [Act.put, List.setIfInBounds_toArray, List.set_cons_zero, List.set_cons_succ, i64_w, i32_w]
                                                          rfl
                                                        refine pure_ (i := 33) (N := some 87) (v := ?_) (a' := ?_) #[true, true, true, true, false, false, false, true, true, true, false, false, false, true, true, false, false, true, false, false, false, true, true, false, false, false, true, true, true, false, false, false, true, true, false, false, false, false] rfl rfl (any_of HT_.out (by kernel_rfl)) (fun _ _ _ h => h) (Or.inl ⟨by rfl, ?_⟩) ?_ ?_
                                                        rotate_left
                                                        · intro w'
                                                          go_simp
                                                          with_reducible rfl
                                                        rotate_left
                                                        · simp only [Act.put, List.setIfInBounds_toArray, List.set_cons_zero, List.set_cons_succ, i64_w, i32_w]
                                                          rfl
                                                        refine take_ (i := 10) (N := some 64) (v := ?_) (a' := ?_) #[true, true, true, true, false, false, false, true, true, true, true, false, false, true, true, false, false, true, false, false, false, true, true, false, false, false, true, true, true, false, false, false, true, true, false, false, false, false] rfl rfl (take_ofW HT_.out HW_.out (by kernel_rfl)) (fun _ _ _ h => h) (Or.inl ⟨by rfl, ?_⟩) hHeld ?_ ?_
                                                        rotate_left
                                                        · intro w' s0
                                                          go_simp
                                                          with_reducible rfl
                                                        rotate_left
                                                        · simp only [Act.put, List.setIfInBounds_toArray, List.set_cons_zero, List.set_cons_succ, i64_w, i32_w]
                                                          rfl
                                                        refine one_ (i := 4) (N := some 58) #[true, true, true, true, true, false, false, true, true, true, true, false, false, true, true, false, false, true, false, false, false, true, true, false, false, false, true, true, true, false, false, false, true, true, false, false, false, false] rfl rfl (one_of HT_.out (by kernel_rfl)) (by decide) (fun K hK => ?_)
                                                        refine goes_ Tryd.func43 (by kernel_rfl) rfl #[.int .i64 (wrap64 (x3_4 + 1))] (by rfl) rfl rfl (by (try simp only [List.map_toArray, List.map_cons, List.map_nil]); first | done | rfl | (simp only [List.length_drop, List.length_take]; rfl)) ?_
                                                        with_reducible refine (mailbagref18_two.calls (wrap64 (x3_4 + 1)) t153 _ A23.out).mono ?_
                                                        rintro e w49 ⟨rfl, hb⟩
                                                        have HS0_ := (hb.cell (World.block_lt_of_cell? _ _ (hHeld))).trans (hHeld)
                                                        refine ⟨_, rfl, ?_⟩
                                                        have n0_ := Aside0.mk (Kd.R_below (by (with_reducible repeat (first | apply Kd.R_alloc | apply Kd.R_drewN | apply Kd.R_drew)); exact HO152.out) hb)
                                                        have n1_ := Aside0.mk (below_step (by repeat (first | (with_reducible first | exact HB.out | apply below_alloc | apply pw_below_drewN | apply below_drew1) | exact HB.out)) hb)
                                                        clear HO152
                                                        clear HB
                                                        have HO152 := n0_
                                                        have HB := n1_
                                                        clear n0_ n1_
                                                        (try clear hb)
                                                        (try clear hb2)
                                                        (try clear hk)
                                                        (try clear hi)
                                                        refine hK.out _ _ (HS0_) (fun hHeld => ?_)
                                                        clear hK K
                                                        refine norm_ (a' := ?_) ?_ ?_
                                                        rotate_left
                                                        · show Act.put _ (some 58) _ = _
                                                          simp only [Act.put, List.setIfInBounds_toArray, List.set_cons_zero, List.set_cons_succ, i64_w, i32_w]
                                                          rfl
                                                        refine pure_ (i := 5) (N := some 59) (v := ?_) (a' := ?_) #[true, true, true, true, true, true, false, true, true, true, true, false, false, true, true, false, false, true, false, false, false, true, true, false, false, false, true, true, true, false, false, false, true, true, false, false, false, false] rfl rfl (any_of HT_.out (by kernel_rfl)) (fun _ _ _ h => h) (Or.inl ⟨by rfl, ?_⟩) ?_ ?_
                                                        rotate_left
                                                        · intro w'
                                                          go_simp
                                                          with_reducible rfl
                                                        rotate_left
                                                        · simp only [Act.put, List.setIfInBounds_toArray, List.set_cons_zero, List.set_cons_succ, i64_w, i32_w]
                                                          rfl
                                                        refine pure_ (i := 6) (N := some 60) (v := ?_) (a' := ?_) #[true, true, true, true, true, true, true, true, true, true, true, false, false, true, true, false, false, true, false, false, false, true, true, false, false, false, true, true, true, false, false, false, true, true, false, false, false, false] rfl rfl (any_of HT_.out (by kernel_rfl)) (fun _ _ _ h => h) (Or.inl ⟨by rfl, ?_⟩) ?_ ?_
                                                        rotate_left
                                                        · intro w'
                                                          go_simp
                                                          with_reducible rfl
                                                        rotate_left
                                                        · simp only [Act.put, List.setIfInBounds_toArray, List.set_cons_zero, List.set_cons_succ, i64_w, i32_w]
                                                          rfl
                                                        refine pure_ (i := 11) (N := some 65) (v := ?_) (a' := ?_) #[true, true, true, true, true, true, true, true, true, true, true, true, false, true, true, false, false, true, false, false, false, true, true, false, false, false, true, true, true, false, false, false, true, true, false, false, false, false] rfl rfl (any_of HT_.out (by kernel_rfl)) (fun _ _ _ h => h) (Or.inl ⟨by rfl, ?_⟩) ?_ ?_
                                                        rotate_left
                                                        · intro w'
                                                          go_simp
                                                          with_reducible rfl
                                                        rotate_left
                                                        · simp only [Act.put, List.setIfInBounds_toArray, List.set_cons_zero, List.set_cons_succ, i64_w, i32_w]
                                                          rfl
                                                        refine pure_ (i := 12) (N := some 66) (v := ?_) (a' := ?_) #[true, true, true, true, true, true, true, true, true, true, true, true, true, true, true, false, false, true, false, false, false, true, true, false, false, false, true, true, true, false, false, false, true, true, false, false, false, false] rfl rfl (any_of HT_.out (by kernel_rfl)) (fun _ _ _ h => h) (Or.inl ⟨by rfl, ?_⟩) ?_ ?_
                                                        rotate_left
                                                        · intro w'
                                                          go_simp
                                                          with_reducible rfl
                                                        rotate_left
                                                        · simp only [Act.put, List.setIfInBounds_toArray, List.set_cons_zero, List.set_cons_succ, i64_w, i32_w]
                                                          rfl
                                                        refine one_ (i := 15) (N := some 69) #[true, true, true, true, true, true, true, true, true, true, true, true, true, true, true, true, false, true, false, false, false, true, true, false, false, false, true, true, true, false, false, false, true, true, false, false, false, false] rfl rfl (one_of HT_.out (by kernel_rfl)) (by decide) (fun K hK => ?_)
                                                        refine goes_ Tryd.func43 (by kernel_rfl) rfl #[.int .i64 (wrap64 (Int.tdiv x7_8 100))] (by rfl) rfl rfl (by (try simp only [List.map_toArray, List.map_cons, List.map_nil]); first | done | rfl | (simp only [List.length_drop, List.length_take]; rfl)) ?_
                                                        with_reducible refine (mailbagref18_two.calls (wrap64 (Int.tdiv x7_8 100)) t155 _ A30.out).mono ?_
                                                        rintro e w50 ⟨rfl, hb⟩
                                                        have HS0_ := (hb.cell (World.block_lt_of_cell? _ _ (hHeld))).trans (hHeld)
                                                        refine ⟨_, rfl, ?_⟩
                                                        have n0_ := Aside0.mk (Kd.R_below (by (with_reducible repeat (first | apply Kd.R_alloc | apply Kd.R_drewN | apply Kd.R_drew)); exact HO152.out) hb)
                                                        have n1_ := Aside0.mk (below_step (by repeat (first | (with_reducible first | exact HB.out | apply below_alloc | apply pw_below_drewN | apply below_drew1) | exact HB.out)) hb)
                                                        clear HO152
                                                        clear HB
                                                        have HO152 := n0_
                                                        have HB := n1_
                                                        clear n0_ n1_
                                                        (try clear hb)
                                                        (try clear hb2)
                                                        (try clear hk)
                                                        (try clear hi)
                                                        refine hK.out _ _ (HS0_) (fun hHeld => ?_)
                                                        clear hK K
                                                        refine norm_ (a' := ?_) ?_ ?_
                                                        rotate_left
                                                        · show Act.put _ (some 69) _ = _
                                                          simp only [Act.put, List.setIfInBounds_toArray, List.set_cons_zero, List.set_cons_succ, i64_w, i32_w]
                                                          rfl
                                                        refine pure_ (i := 16) (N := some 70) (v := ?_) (a' := ?_) #[true, true, true, true, true, true, true, true, true, true, true, true, true, true, true, true, true, true, false, false, false, true, true, false, false, false, true, true, true, false, false, false, true, true, false, false, false, false] rfl rfl (any_of HT_.out (by kernel_rfl)) (fun _ _ _ h => h) (Or.inl ⟨by rfl, ?_⟩) ?_ ?_
                                                        rotate_left
                                                        · intro w'
                                                          go_simp
                                                          with_reducible rfl
                                                        rotate_left
                                                        · simp only [Act.put, List.setIfInBounds_toArray, List.set_cons_zero, List.set_cons_succ, i64_w, i32_w]
                                                          rfl
                                                        refine one_ (i := 18) (N := some 72) #[true, true, true, true, true, true, true, true, true, true, true, true, true, true, true, true, true, true, true, false, false, true, true, false, false, false, true, true, true, false, false, false, true, true, false, false, false, false] rfl rfl (one_of HT_.out (by kernel_rfl)) (by decide) (fun K hK => ?_)
                                                        refine goes_ Tryd.func43 (by kernel_rfl) rfl #[.int .i64 x7_8] (by rfl) rfl rfl (by (try simp only [List.map_toArray, List.map_cons, List.map_nil]); first | done | rfl | (simp only [List.length_drop, List.length_take]; rfl)) ?_
                                                        with_reducible refine (mailbagref18_two.calls x7_8 t156 _ A32.out).mono ?_
                                                        rintro e w51 ⟨rfl, hb⟩
                                                        have HS0_ := (hb.cell (World.block_lt_of_cell? _ _ (hHeld))).trans (hHeld)
                                                        refine ⟨_, rfl, ?_⟩
                                                        have n0_ := Aside0.mk (Kd.R_below (by (with_reducible repeat (first | apply Kd.R_alloc | apply Kd.R_drewN | apply Kd.R_drew)); exact HO152.out) hb)
                                                        have n1_ := Aside0.mk (below_step (by repeat (first | (with_reducible first | exact HB.out | apply below_alloc | apply pw_below_drewN | apply below_drew1) | exact HB.out)) hb)
                                                        clear HO152
                                                        clear HB
                                                        have HO152 := n0_
                                                        have HB := n1_
                                                        clear n0_ n1_
                                                        (try clear hb)
                                                        (try clear hb2)
                                                        (try clear hk)
                                                        (try clear hi)
                                                        refine hK.out _ _ (HS0_) (fun hHeld => ?_)
                                                        clear hK K
                                                        refine norm_ (a' := ?_) ?_ ?_
                                                        rotate_left
                                                        · show Act.put _ (some 72) _ = _
                                                          simp only [Act.put, List.setIfInBounds_toArray, List.set_cons_zero, List.set_cons_succ, i64_w, i32_w]
                                                          rfl
                                                        refine pure_ (i := 19) (N := some 73) (v := ?_) (a' := ?_) #[true, true, true, true, true, true, true, true, true, true, true, true, true, true, true, true, true, true, true, true, false, true, true, false, false, false, true, true, true, false, false, false, true, true, false, false, false, false] rfl rfl (any_of HT_.out (by kernel_rfl)) (fun _ _ _ h => h) (Or.inl ⟨by rfl, ?_⟩) ?_ ?_
                                                        rotate_left
                                                        · intro w'
                                                          go_simp
                                                          with_reducible rfl
                                                        rotate_left
                                                        · simp only [Act.put, List.setIfInBounds_toArray, List.set_cons_zero, List.set_cons_succ, i64_w, i32_w]
                                                          rfl
                                                        refine pure_ (i := 20) (N := some 74) (v := ?_) (a' := ?_) #[true, true, true, true, true, true, true, true, true, true, true, true, true, true, true, true, true, true, true, true, true, true, true, false, false, false, true, true, true, false, false, false, true, true, false, false, false, false] rfl rfl (any_of HT_.out (by kernel_rfl)) (fun _ _ _ h => h) (Or.inl ⟨by rfl, ?_⟩) ?_ ?_
                                                        rotate_left
                                                        · intro w'
                                                          go_simp
                                                          with_reducible rfl
                                                        rotate_left
                                                        · simp only [Act.put, List.setIfInBounds_toArray, List.set_cons_zero, List.set_cons_succ, i64_w, i32_w]
                                                          rfl
                                                        refine one_ (i := 23) (N := some 77) #[true, true, true, true, true, true, true, true, true, true, true, true, true, true, true, true, true, true, true, true, true, true, true, true, false, false, true, true, true, false, false, false, true, true, false, false, false, false] rfl rfl (one_of HT_.out (by kernel_rfl)) (by decide) (fun K hK => ?_)
                                                        refine goes_ Tryd.func43 (by kernel_rfl) rfl #[.int .i64 (wrap64 (Int.tdiv (Int.tmod x0_3 86400) 3600))] (by rfl) rfl rfl (by (try simp only [List.map_toArray, List.map_cons, List.map_nil]); first | done | rfl | (simp only [List.length_drop, List.length_take]; rfl)) ?_
                                                        with_reducible refine (mailbagref18_two.calls (wrap64 (Int.tdiv (Int.tmod x0_3 86400) 3600)) t157 _ A35.out).mono ?_
                                                        rintro e w52 ⟨rfl, hb⟩
                                                        have HS0_ := (hb.cell (World.block_lt_of_cell? _ _ (hHeld))).trans (hHeld)
                                                        refine ⟨_, rfl, ?_⟩
                                                        have n0_ := Aside0.mk (Kd.R_below (by (with_reducible repeat (first | apply Kd.R_alloc | apply Kd.R_drewN | apply Kd.R_drew)); exact HO152.out) hb)
                                                        have n1_ := Aside0.mk (below_step (by repeat (first | (with_reducible first | exact HB.out | apply below_alloc | apply pw_below_drewN | apply below_drew1) | exact HB.out)) hb)
                                                        clear HO152
                                                        clear HB
                                                        have HO152 := n0_
                                                        have HB := n1_
                                                        clear n0_ n1_
                                                        (try clear hb)
                                                        (try clear hb2)
                                                        (try clear hk)
                                                        (try clear hi)
                                                        refine hK.out _ _ (HS0_) (fun hHeld => ?_)
                                                        clear hK K
                                                        refine norm_ (a' := ?_) ?_ ?_
                                                        rotate_left
                                                        · show Act.put _ (some 77) _ = _
                                                          simp only [Act.put, List.setIfInBounds_toArray, List.set_cons_zero, List.set_cons_succ, i64_w, i32_w]
                                                          rfl
                                                        refine pure_ (i := 24) (N := some 78) (v := ?_) (a' := ?_) #[true, true, true, true, true, true, true, true, true, true, true, true, true, true, true, true, true, true, true, true, true, true, true, true, true, false, true, true, true, false, false, false, true, true, false, false, false, false] rfl rfl (any_of HT_.out (by kernel_rfl)) (fun _ _ _ h => h) (Or.inl ⟨by rfl, ?_⟩) ?_ ?_
                                                        rotate_left
                                                        · intro w'
                                                          go_simp
                                                          with_reducible rfl
                                                        rotate_left
                                                        · simp only [Act.put, List.setIfInBounds_toArray, List.set_cons_zero, List.set_cons_succ, i64_w, i32_w]
                                                          rfl
                                                        refine pure_ (i := 25) (N := some 79) (v := ?_) (a' := ?_) #[true, true, true, true, true, true, true, true, true, true, true, true, true, true, true, true, true, true, true, true, true, true, true, true, true, true, true, true, true, false, false, false, true, true, false, false, false, false] rfl rfl (any_of HT_.out (by kernel_rfl)) (fun _ _ _ h => h) (Or.inl ⟨by rfl, ?_⟩) ?_ ?_
                                                        rotate_left
                                                        · intro w'
                                                          go_simp
                                                          with_reducible rfl
                                                        rotate_left
                                                        · simp only [Act.put, List.setIfInBounds_toArray, List.set_cons_zero, List.set_cons_succ, i64_w, i32_w]
                                                          rfl
                                                        refine one_ (i := 29) (N := some 83) #[true, true, true, true, true, true, true, true, true, true, true, true, true, true, true, true, true, true, true, true, true, true, true, true, true, true, true, true, true, true, false, false, true, true, false, false, false, false] rfl rfl (one_of HT_.out (by kernel_rfl)) (by decide) (fun K hK => ?_)
                                                        refine goes_ Tryd.func43 (by kernel_rfl) rfl #[.int .i64 (Int.tmod (wrap64 (Int.tdiv (Int.tmod x0_3 86400) 60)) 60)] (by rfl) rfl rfl (by (try simp only [List.map_toArray, List.map_cons, List.map_nil]); first | done | rfl | (simp only [List.length_drop, List.length_take]; rfl)) ?_
                                                        with_reducible refine (mailbagref18_two.calls (Int.tmod (wrap64 (Int.tdiv (Int.tmod x0_3 86400) 60)) 60) t158 _ A38.out).mono ?_
                                                        rintro e w53 ⟨rfl, hb⟩
                                                        have HS0_ := (hb.cell (World.block_lt_of_cell? _ _ (hHeld))).trans (hHeld)
                                                        refine ⟨_, rfl, ?_⟩
                                                        have n0_ := Aside0.mk (Kd.R_below (by (with_reducible repeat (first | apply Kd.R_alloc | apply Kd.R_drewN | apply Kd.R_drew)); exact HO152.out) hb)
                                                        have n1_ := Aside0.mk (below_step (by repeat (first | (with_reducible first | exact HB.out | apply below_alloc | apply pw_below_drewN | apply below_drew1) | exact HB.out)) hb)
                                                        clear HO152
                                                        clear HB
                                                        have HO152 := n0_
                                                        have HB := n1_
                                                        clear n0_ n1_
                                                        (try clear hb)
                                                        (try clear hb2)
                                                        (try clear hk)
                                                        (try clear hi)
                                                        refine hK.out _ _ (HS0_) (fun hHeld => ?_)
                                                        clear hK K
                                                        refine norm_ (a' := ?_) ?_ ?_
                                                        rotate_left
                                                        · show Act.put _ (some 83) _ = _
                                                          simp only [Act.put, List.setIfInBounds_toArray, List.set_cons_zero, List.set_cons_succ, i64_w, i32_w]
                                                          rfl
                                                        refine pure_ (i := 30) (N := some 84) (v := ?_) (a' := ?_) #[true, true, true, true, true, true, true, true, true, true, true, true, true, true, true, true, true, true, true, true, true, true, true, true, true, true, true, true, true, true, true, false, true, true, false, false, false, false] rfl rfl (any_of HT_.out (by kernel_rfl)) (fun _ _ _ h => h) (Or.inl ⟨by rfl, ?_⟩) ?_ ?_
                                                        rotate_left
                                                        · intro w'
                                                          go_simp
                                                          with_reducible rfl
                                                        rotate_left
                                                        · simp only [Act.put, List.setIfInBounds_toArray, List.set_cons_zero, List.set_cons_succ, i64_w, i32_w]
                                                          rfl
                                                        refine pure_ (i := 31) (N := some 85) (v := ?_) (a' := ?_) #[true, true, true, true, true, true, true, true, true, true, true, true, true, true, true, true, true, true, true, true, true, true, true, true, true, true, true, true, true, true, true, true, true, true, false, false, false, false] rfl rfl (any_of HT_.out (by kernel_rfl)) (fun _ _ _ h => h) (Or.inl ⟨by rfl, ?_⟩) ?_ ?_
                                                        rotate_left
                                                        · intro w'
                                                          go_simp
                                                          with_reducible rfl
                                                        rotate_left
                                                        · simp only [Act.put, List.setIfInBounds_toArray, List.set_cons_zero, List.set_cons_succ, i64_w, i32_w]
                                                          rfl
                                                        refine one_ (i := 34) (N := some 88) #[true, true, true, true, true, true, true, true, true, true, true, true, true, true, true, true, true, true, true, true, true, true, true, true, true, true, true, true, true, true, true, true, true, true, true, false, false, false] rfl rfl (one_of HT_.out (by kernel_rfl)) (by decide) (fun K hK => ?_)
                                                        refine goes_ Tryd.func43 (by kernel_rfl) rfl #[.int .i64 (Int.tmod (Int.tmod x0_3 86400) 60)] (by rfl) rfl rfl (by (try simp only [List.map_toArray, List.map_cons, List.map_nil]); first | done | rfl | (show #[Value.int IntKind.i64 (x0_3.tmod 60)] = _; rw [Int.tmod_tmod_of_dvd _ (by decide)])) ?_
                                                        with_reducible refine (mailbagref18_two.calls (Int.tmod (Int.tmod x0_3 86400) 60) t159 _ A41.out).mono ?_
                                                        rintro e w54 ⟨rfl, hb⟩
                                                        have HS0_ := (hb.cell (World.block_lt_of_cell? _ _ (hHeld))).trans (hHeld)
                                                        refine ⟨_, rfl, ?_⟩
                                                        have n0_ := Aside0.mk (Kd.R_below (by (with_reducible repeat (first | apply Kd.R_alloc | apply Kd.R_drewN | apply Kd.R_drew)); exact HO152.out) hb)
                                                        have n1_ := Aside0.mk (below_step (by repeat (first | (with_reducible first | exact HB.out | apply below_alloc | apply pw_below_drewN | apply below_drew1) | exact HB.out)) hb)
                                                        clear HO152
                                                        clear HB
                                                        have HO152 := n0_
                                                        have HB := n1_
                                                        clear n0_ n1_
                                                        (try clear hb)
                                                        (try clear hb2)
                                                        (try clear hk)
                                                        (try clear hi)
                                                        refine hK.out _ _ (HS0_) (fun hHeld => ?_)
                                                        clear hK K
                                                        refine norm_ (a' := ?_) ?_ ?_
                                                        rotate_left
                                                        · show Act.put _ (some 88) _ = _
                                                          simp only [Act.put, List.setIfInBounds_toArray, List.set_cons_zero, List.set_cons_succ, i64_w, i32_w]
                                                          rfl
                                                        refine pure_ (i := 35) (N := some 89) (v := ?_) (a' := ?_) #[true, true, true, true, true, true, true, true, true, true, true, true, true, true, true, true, true, true, true, true, true, true, true, true, true, true, true, true, true, true, true, true, true, true, true, true, false, false] rfl rfl (any_of HT_.out (by kernel_rfl)) (fun _ _ _ h => h) (Or.inl ⟨by rfl, ?_⟩) ?_ ?_
                                                        rotate_left
                                                        · intro w'
                                                          go_simp
                                                          with_reducible rfl
                                                        rotate_left
                                                        · simp only [Act.put, List.setIfInBounds_toArray, List.set_cons_zero, List.set_cons_succ, i64_w, i32_w]
                                                          rfl
                                                        refine pure_ (i := 36) (N := some 90) (v := ?_) (a' := ?_) #[true, true, true, true, true, true, true, true, true, true, true, true, true, true, true, true, true, true, true, true, true, true, true, true, true, true, true, true, true, true, true, true, true, true, true, true, true, false] rfl rfl (any_of HT_.out (by kernel_rfl)) (fun _ _ _ h => h) (Or.inl ⟨by rfl, ?_⟩) ?_ ?_
                                                        rotate_left
                                                        · intro w'
                                                          go_simp
                                                          with_reducible rfl
                                                        rotate_left
                                                        · simp only [Act.put, List.setIfInBounds_toArray, List.set_cons_zero, List.set_cons_succ, i64_w, i32_w]
                                                          rfl
                                                        refine pure_ (i := 37) (N := some 2) (v := ?_) (a' := ?_) #[true, true, true, true, true, true, true, true, true, true, true, true, true, true, true, true, true, true, true, true, true, true, true, true, true, true, true, true, true, true, true, true, true, true, true, true, true, true] rfl rfl (any_of HT_.out (by kernel_rfl)) (fun _ _ _ h => h) (Or.inl ⟨by rfl, ?_⟩) ?_ ?_
                                                        rotate_left
                                                        · intro w'
                                                          go_simp
                                                          with_reducible rfl
                                                        rotate_left
                                                        · simp only [Act.put, List.setIfInBounds_toArray, List.set_cons_zero, List.set_cons_succ, i64_w, i32_w]
                                                          rfl
                                                        refine done_ (done_of HT_.out (by kernel_rfl)) ?_
                                                        try go_wp2
                                                        go_ret
                                                        exact ⟨by first | rfl | (simp [errW_none, errW_some] <;> rfl) | (simp only [← hji6]; first | rfl | (simp [errW_none, errW_some] <;> rfl)) | (simp [*, errW_none, errW_some] <;> rfl), by repeat (first | (with_reducible first | exact HB.out | apply below_alloc | apply pw_below_drewN | apply below_drew1) | exact HB.out)⟩
                                                      · rw [if_neg c43] at H
                                                        exact absurd H (by simp)
                                                    · rw [if_neg c42] at H
                                                      exact absurd H (by simp)
                                                  · rw [if_neg c40] at H
                                                    exact absurd H (by simp)
                                                · rw [if_neg c39] at H
                                                  exact absurd H (by simp)
                                              · rw [if_neg c37] at H
                                                exact absurd H (by simp)
                                            · rw [if_neg c36] at H
                                              exact absurd H (by simp)
                                          · rw [if_neg c34] at H
                                            exact absurd H (by simp)
                                        · rw [if_neg c33] at H
                                          exact absurd H (by simp)
                                      · rw [if_neg c31] at H
                                        exact absurd H (by simp)
                                    · rw [if_neg c29] at H
                                      exact absurd H (by simp)
                                  · rw [if_neg c28] at H
                                    exact absurd H (by simp)
                                · rw [if_neg c27] at H
                                  exact absurd H (by simp)
                              · rw [if_neg c26] at H
                                exact absurd H (by simp)
                            · rw [if_neg c25] at H
                              exact absurd H (by simp)
                          · rw [if_neg c24] at H
                            exact absurd H (by simp)
                        · rw [if_neg c22] at H
                          exact absurd H (by simp)
            · rw [if_neg c8] at H
              exact absurd H (by simp)
          · rw [if_neg c7] at H
            exact absurd H (by simp)

end Go.Proofs.YtfpcngoonfbphaaDoor.RDate
