/- head.Get, head.Hops. -/
import Derived.Test.YtfpcngoonfbphaaDoorH8
set_option linter.unusedVariables false
set_option linter.unusedSimpArgs false
namespace Go.Proofs.YtfpcngoonfbphaaDoor
open Go.RowKit Go.Proofs.YtfpcngoonfbphaaDoorW.PrintWords Go.Proofs.YtfpcngoonfbphaaDoor.Pl

namespace Pl
def hit (nm : Bs) (p : Fld) : Bool := low p.1 == low nm
def getV (l : List Fld) (nm : Bs) : Bs := ((l.find? (hit nm)).map (·.2)).getD []
def getN (l : List Fld) (nm : Bs) : Nat := l.countP (hit nm)
theorem getN_take_le (l : List Fld) (nm : Bs) (k : Nat) : getN (l.take k) nm ≤ k := Nat.le_trans List.countP_le_length (by simp; omega)
theorem getN_miss {l : List Fld} {nm : Bs} {k : Nat} (hk : k < l.length) (h : hit nm l[k] = false) : getN (l.take (k + 1)) nm = getN (l.take k) nm := by
  unfold getN; rw [List.take_succ_eq_append_getElem hk, List.countP_append]; simp [h]
theorem getN_hit {l : List Fld} {nm : Bs} {k : Nat} (hk : k < l.length) (h : hit nm l[k] = true) : getN (l.take (k + 1)) nm = getN (l.take k) nm + 1 := by
  unfold getN; rw [List.take_succ_eq_append_getElem hk, List.countP_append]; simp [h]
theorem getV_miss {l : List Fld} {nm : Bs} {k : Nat} (hk : k < l.length) (h : hit nm l[k] = false) : getV (l.take (k + 1)) nm = getV (l.take k) nm := by
  unfold getV; rw [List.take_succ_eq_append_getElem hk, List.find?_append]; simp [h]
theorem getV_first {l : List Fld} {nm : Bs} {k : Nat} (hk : k < l.length) (h : hit nm l[k] = true) (h0 : getN (l.take k) nm = 0) : getV (l.take (k + 1)) nm = l[k].2 := by
  have hn : (l.take k).find? (hit nm) = none := by
    rw [List.find?_eq_none]
    intro x hx hh
    unfold getN at h0
    rw [List.countP_eq_zero] at h0
    exact h0 x hx hh
  unfold getV; rw [List.take_succ_eq_append_getElem hk, List.find?_append, hn]; simp [h]
theorem getV_later {l : List Fld} {nm : Bs} {k : Nat} (hk : k < l.length) (h0 : getN (l.take k) nm ≠ 0) : getV (l.take (k + 1)) nm = getV (l.take k) nm := by
  have hs : ∃ x, (l.take k).find? (hit nm) = some x := by
    cases hf : (l.take k).find? (hit nm) with
    | some x => exact ⟨x, rfl⟩
    | none =>
      exfalso
      apply h0
      unfold getN
      rw [List.countP_eq_zero]
      intro x hx
      rw [List.find?_eq_none] at hf
      exact hf x hx
  obtain ⟨x, hx⟩ := hs
  unfold getV; rw [List.take_succ_eq_append_getElem hk, List.find?_append, hx]; simp
end Pl

/-- A row of fields, as read. -/
def FldRd (W : World) (A : Option Addr) (n : Nat) (l : List Fld) : Prop :=
  l.length = n ∧ (0 < n → ∃ g o, A = some ⟨g, o, none⟩ ∧ ∀ j (hj : j < l.length), W.cell? ⟨g, o + j * 2, none⟩ = some (.string ⟨l[j].1.toArray⟩) ∧ W.cell? ⟨g, o + j * 2 + 1, none⟩ = some (.string ⟨l[j].2.toArray⟩))
theorem FldRd.below {w w' : World} {A : Option Addr} {n : Nat} {l : List Fld} (h : FldRd w A n l) (hb : Below w.heap.size w w') : FldRd w' A n l := by
  refine ⟨h.1, fun h0 => ?_⟩
  obtain ⟨g, o, e, hc⟩ := h.2 h0
  refine ⟨g, o, e, fun j hj => ?_⟩
  have h1 := (hc j hj).1
  have h2 := (hc j hj).2
  exact ⟨(hb.cell (World.block_lt_of_cell? _ _ h1)).trans h1, (hb.cell (World.block_lt_of_cell? _ _ h2)).trans h2⟩

set_option maxHeartbeats 2000000 in
set_option maxRecDepth 100000 in
theorem Get_calls (w : World) (A : Option Addr) (n c : Nat) (l : List Fld) (nm : Bs) (hr : FldRd w A n l) (hnc : n ≤ c) (hn : n ≤ 1000000) (hnm : nm.length ≤ 10000000) (hl : ∀ j (hj : j < l.length), l[j].1.length ≤ 10000000) :
    Calls Tryd.prog 14 #[.slice A n c, .string ⟨nm.toArray⟩] w fun e w' => e = .returned (.tuple #[.string ⟨(Pl.getV l nm).toArray⟩, .int .i64 (Pl.getN l nm)]) ∧ Below w.heap.size w w' := by
  have hlen := hr.1
  have HR0 := Lib.hid hr
  have HL := Lib.hid hl
  have HNM := Lib.hid (fun w => Lower_calls nm w hnm)
  clear hr hl
  go_enter Tryd.func14, Tryd.ntmps14
  go_wp2
  go_loopw [6, 7, 12] (fun v m i wr => ∃ k : Nat, k ≤ n ∧ i = .int .i64 k ∧ v = .string ⟨(Pl.getV (l.take k) nm).toArray⟩ ∧ m = .int .i64 (Pl.getN (l.take k) nm) ∧ Hid (Below w.heap.size w wr)) (fun _ _ i _ => n - (intOf i).toNat)
  case atStart => exact ⟨0, Nat.zero_le _, rfl, rfl, rfl, Lib.hid (Below.refl _ _)⟩
  case round =>
    obtain ⟨k, hk, rfl, rfl, rfl, HB⟩ := hrel
    by_cases hlt : k < n
    · have HR := Lib.hid (HR0.out.below HB.out)
      obtain ⟨g, o, rfl, hc⟩ := HR.out.2 (by omega)
      have hkl : k < l.length := by omega
      have hc1 := (hc k hkl).1
      have hc2 := (hc k hkl).2
      have HLk := Lib.hid (fun w => Lower_calls l[k].1 w (HL.out k hkl))
      clear hc
      have hNl := Pl.getN_take_le l nm k
      have hv0 : Hid (∀ w2 w3, Below (wr.heap.size + 1) (wr.alloc (.cells #[.string ⟨l[k].1.toArray⟩, .string ⟨l[k].2.toArray⟩] 34)) w2 → Below (wr.heap.size + 1) w2 w3 → w3.cell? ⟨wr.heap.size, 1, none⟩ = some (.string ⟨l[k].2.toArray⟩)) := Lib.hid (by
        intro w2 w3 b2 b3
        rw [b3.cell (by show wr.heap.size < wr.heap.size + 1; omega), b2.cell (by show wr.heap.size < wr.heap.size + 1; omega)]
        unfold World.cell?
        simp only [blk_new]
        rfl)
      have HBa := Lib.hid (below_alloc (Below.refl wr.heap.size wr) (.cells #[.string ⟨l[k].1.toArray⟩, .string ⟨l[k].2.toArray⟩] 34))
      have hsz : Hid ((wr.alloc (.cells #[.string ⟨l[k].1.toArray⟩, .string ⟨l[k].2.toArray⟩] 34)).heap.size = wr.heap.size + 1) := Lib.hid (by simp)
      have Hmiss := Lib.hid (fun h => And.intro (Pl.getN_miss (nm := nm) hkl h) (Pl.getV_miss (nm := nm) hkl h))
      have Hhit := Lib.hid (fun h => Pl.getN_hit (nm := nm) hkl h)
      have Hfirst := Lib.hid (fun h h0 => Pl.getV_first (nm := nm) hkl h h0)
      have Hlater := Lib.hid (fun h0 => Pl.getV_later (nm := nm) hkl h0)
      cases hh : Pl.hit nm l[k] with
      | false =>
        have HE := Lib.hid (And.intro (Hmiss.out hh).1 (Hmiss.out hh).2)
        have hq : (Pl.low l[k].1 == Pl.low nm) = false := hh
        clear hh
        go_wp2_with fail
        refine (HLk.out _).mono ?_
        rintro e w2 ⟨rfl, hb2⟩
        have HB2 := Lib.hid hb2
        clear hb2
        go_wp2_with fail
        refine (HNM.out _).mono ?_
        rintro e w3 ⟨rfl, hb3⟩
        have HB3 := Lib.hid hb3
        clear hb3
        go_wp2
        go_roundw
        case rel => exact ⟨k + 1, by omega, by go_num, by rw [HE.out.2], by rw [HE.out.1], Lib.hid (by have x1 := below_then HB.out HB.out.size HBa.out; have x2 := below_then x1 x1.size HB2.out; exact below_then x2 x2.size HB3.out)⟩
        case measure => simp [intOf]; omega
      | true =>
        have hq : (Pl.low l[k].1 == Pl.low nm) = true := hh
        by_cases h0 : Pl.getN (l.take k) nm = 0
        · have HE := Lib.hid (And.intro (Hhit.out hh) (Hfirst.out hh h0))
          have d0 : (((Pl.getN (l.take k) nm : Nat) : Int) + 1 == 1) = true := by rw [h0]; rfl
          clear hh
          go_wp2_with fail
          refine (HLk.out _).mono ?_
          rintro e w2 ⟨rfl, hb2⟩
          have HB2 := Lib.hid hb2
          clear hb2
          go_wp2_with fail
          refine (HNM.out _).mono ?_
          rintro e w3 ⟨rfl, hb3⟩
          have hv := hv0.out w2 w3 (by rw [← hsz.out]; exact HB2.out) (hb3.mono (by have := HB2.out.size; rw [hsz.out] at this; exact this))
          have HB3 := Lib.hid hb3
          clear hb3
          go_wp2
          go_roundw
          case rel => exact ⟨k + 1, by omega, by go_num, by rw [HE.out.2], by rw [HE.out.1, h0]; rfl, Lib.hid (by have x1 := below_then HB.out HB.out.size HBa.out; have x2 := below_then x1 x1.size HB2.out; exact below_then x2 x2.size HB3.out)⟩
          case measure => simp [intOf]; omega
        · have HE := Lib.hid (And.intro (Hhit.out hh) (Hlater.out h0))
          have d0 : (((Pl.getN (l.take k) nm : Nat) : Int) + 1 == 1) = false := by rw [beq_eq_false_iff_ne]; omega
          clear hh
          go_wp2_with fail
          refine (HLk.out _).mono ?_
          rintro e w2 ⟨rfl, hb2⟩
          have HB2 := Lib.hid hb2
          clear hb2
          go_wp2_with fail
          refine (HNM.out _).mono ?_
          rintro e w3 ⟨rfl, hb3⟩
          have HB3 := Lib.hid hb3
          clear hb3
          go_wp2
          go_roundw
          case rel => exact ⟨k + 1, by omega, by go_num, by rw [HE.out.2], by rw [HE.out.1]; rfl, Lib.hid (by have x1 := below_then HB.out HB.out.size HBa.out; have x2 := below_then x1 x1.size HB2.out; exact below_then x2 x2.size HB3.out)⟩
          case measure => simp [intOf]; omega
    · have e : l.take k = l := List.take_of_length_le (by omega)
      rw [e]
      go_wp2
      refine bodyPost_ret (v := .tuple #[.string ⟨(Pl.getV l nm).toArray⟩, .int .i64 (Pl.getN l nm)]) (by simp [results, Tryd.results14, go_sem]) rfl ?_
      exact ⟨rfl, HB.out⟩

theorem Hops_calls (w : World) (A : Option Addr) (n c : Nat) (l : List Fld) (hr : FldRd w A n l) (hnc : n ≤ c) (hn : n ≤ 1000000) (hl : ∀ j (hj : j < l.length), l[j].1.length ≤ 10000000) :
    Calls Tryd.prog 18 #[.slice A n c] w fun e w' => e = .returned (.int .i64 (Pl.getN l [82, 101, 99, 101, 105, 118, 101, 100])) ∧ Below w.heap.size w w' := by
  have HG := Lib.hid (Get_calls w A n c l [82, 101, 99, 101, 105, 118, 101, 100] hr hnc hn (by simp) hl)
  clear hr hl
  go_enter Tryd.func18, Tryd.ntmps18
  go_wp2_with fail
  refine HG.out.mono ?_
  rintro e w1 ⟨rfl, hb⟩
  have HB := Lib.hid hb
  clear hb
  go_wp2
  go_ret
  exact ⟨rfl, HB.out⟩
end Go.Proofs.YtfpcngoonfbphaaDoor
