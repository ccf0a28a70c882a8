/- LineBounds: the splitter's state and its methods. -/
import Derived.Test.YtfpcngoonfbphaaProg
import Derived.Test.YtfpcngoonfbphaaWWords
import Derived.Lib.Hide
import Derived.Deep.DeepFit
import Derived.Outline
set_option linter.unusedVariables false
set_option linter.unusedSimpArgs false
namespace Go.Proofs.Ytfpcngoonfbphaa
open Go.RowKit Go.Proofs.YtfpcngoonfbphaaW.PrintWords

/-- A row of bytes of the call's own. -/
def OwnB (W : World) (base : Nat) (v : Value) (xs : List Int) : Prop := W.ownsRow base 5 1 v xs.length (nums .u8 xs)

/-- The splitter at block g: its slice's value is v. -/
def IsSp (W : World) (base g : Nat) (v : Value) (most : Int) (xs : List Int) (st : Int) (long : Bool) : Prop :=
  W.heap[g]? = some (.cells #[.int .i64 most, v, .int .i64 st, .bool long] 36 (0, 0)) ∧ base ≤ g ∧ OwnB W base v xs

theorem info5 : (Try.prog.info? 5).map (fun i => (i.zero, i.size, i.bytes)) = some (some (.int .u8 0), 1, 1) := by kernel_rfl

set_option maxHeartbeats 400000 in
theorem may_calls (n : Int) (w : World) :
    Calls Try.prog 9 #[.int .i64 n] w fun e w' => e = .returned (.bool (decide (2 ≤ n) && decide (n ≤ 65536))) ∧ w = w' := by
  by_cases h : 2 ≤ n
  · have hb : decide (2 ≤ n) = true := decide_eq_true h
    go_enter Try.func9, Try.ntmps9
    go_wp2
    go_ret
    simp [h]
  · have hb : decide (2 ≤ n) = false := decide_eq_false h
    go_enter Try.func9, Try.ntmps9
    go_wp2
    go_ret
    simp [h]

set_option maxHeartbeats 400000 in
theorem new_calls (n : Int) (w : World) (hn : 2 ≤ n ∧ n ≤ 65536) :
    Calls Try.prog 5 #[.int .i64 n] w fun e w' => e = .returned (.tuple #[.pointer (some ⟨w.heap.size, 0, none⟩), .int .i64 0]) ∧ w' = w.alloc (.cells #[.int .i64 n, .slice none 0 0, .int .i64 0, .bool false] 36) := by
  have hd : (decide (2 ≤ n) && decide (n ≤ 65536)) = true := by simp [hn]
  go_enter Try.func5, Try.ntmps5
  go_wp2_with (go_at_call 9; refine (may_calls _ _).mono ?_; rintro e w' ⟨rfl, rfl⟩)
  go_ret2
  exact ⟨rfl, rfl⟩

theorem IsSp.cells {W : World} {base g : Nat} {v : Value} {most : Int} {xs : List Int} {st : Int} {long : Bool} (h : IsSp W base g v most xs st long) :
    W.cell? ⟨g, 0, none⟩ = some (.int .i64 most) ∧ W.cell? ⟨g, 1, none⟩ = some v ∧ W.cell? ⟨g, 2, none⟩ = some (.int .i64 st) ∧ W.cell? ⟨g, 3, none⟩ = some (.bool long) :=
  ⟨(blk_cell h.1 0).trans rfl, (blk_cell h.1 1).trans rfl, (blk_cell h.1 2).trans rfl, (blk_cell h.1 3).trans rfl⟩
theorem IsSp.frozen {W : World} {base g : Nat} {v : Value} {most : Int} {xs : List Int} {st : Int} {long : Bool} (h : IsSp W base g v most xs st long) :
    W.frozen? ⟨g, 0, none⟩ = false ∧ W.frozen? ⟨g, 1, none⟩ = false ∧ W.frozen? ⟨g, 2, none⟩ = false ∧ W.frozen? ⟨g, 3, none⟩ = false :=
  ⟨blk_frozen h.1 0, blk_frozen h.1 1, blk_frozen h.1 2, blk_frozen h.1 3⟩
theorem IsSp.slice {W : World} {base g : Nat} {v : Value} {most : Int} {xs : List Int} {st : Int} {long : Bool} (h : IsSp W base g v most xs st long) :
    ∃ A c, v = .slice A xs.length c := by
  rcases h.2.2.2 with ⟨rfl, e⟩ | ⟨g, cap, cur, rfl, _⟩
  · exact ⟨none, 0, by rw [e]⟩
  · exact ⟨_, _, rfl⟩


theorem own_far {W : World} {base g : Nat} {v : Value} {xs : List Int} (h : OwnB W base v xs) {cs : Array Value} {t : Nat} (hb : W.heap[g]? = some (.cells cs t (0, 0))) (ht : (5 : Nat) ≠ t) (i : Nat) (u : Value) :
    OwnB (W.setCell ⟨g, i, none⟩ u) base v xs := by
  obtain ⟨h1, h2⟩ := h
  refine ⟨h1, ?_⟩
  rcases h2 with ⟨rfl, e⟩ | ⟨k, cap, cur, rfl, h3, hh, h4⟩
  · exact .inl ⟨rfl, e⟩
  · refine .inr ⟨k, cap, cur, rfl, h3, blk_far hh ?_ u, h4⟩
    rintro rfl
    rw [hb] at hh
    injection hh with hh
    injection hh with _ h2
    exact ht h2.symm

theorem own_block_ne {W : World} {base g : Nat} {v : Value} {xs : List Int} (h : OwnB W base v xs) {cs : Array Value} {t : Nat} (hb : W.heap[g]? = some (.cells cs t (0, 0))) (ht : (5 : Nat) ≠ t) : some g ≠ v.ownBlock := by
  rcases h.2 with ⟨rfl, _⟩ | ⟨k, cap, cur, rfl, _, hh, _⟩
  · simp [Value.ownBlock]
  · intro hk
    have : g = k := by simpa [Value.ownBlock] using hk
    subst this
    rw [hb] at hh
    injection hh with hh
    injection hh with _ h2
    exact ht h2.symm

/-- What a step does to all else. -/
structure Step (w w' : World) (base g : Nat) (v v' : Value) : Prop where
  keep : KeepBut w w' g v.ownBlock
  fresh : v'.ownBlock = v.ownBlock ∨ v'.ownBlock = none ∨ ∃ b, v'.ownBlock = some b ∧ w.heap.size ≤ b
  below : Below base w w'

set_option maxHeartbeats 400000 in
theorem reset_calls (w : World) {base g : Nat} {v : Value} {most : Int} {xs : List Int} {st : Int} {long : Bool} (h : IsSp w base g v most xs st long) :
    Calls Try.prog 11 #[.pointer (some ⟨g, 0, none⟩)] w fun e w' => e = .returned (.tuple #[]) ∧ IsSp w' base g (.slice none 0 0) most [] 0 false ∧ Step w w' base g v (.slice none 0 0) := by
  obtain ⟨c0, c1, c2, c3⟩ := h.cells
  obtain ⟨f0, f1, f2, f3⟩ := h.frozen
  have H := Lib.hid h
  clear h
  go_enter Try.func11, Try.ntmps11
  go_wp2
  go_end0
  have h := H.out
  refine ⟨rfl, ⟨?_, h.2.1, own_nil _ _ _ _⟩, ⟨?_, .inr (.inl rfl), ?_⟩⟩
  · have h1 := blk_set h.1 1 (.slice none 0 0)
    have h2 := blk_set (by simpa using h1) 2 (.int .i64 0)
    have h3 := blk_set (by simpa using h2) 3 (.bool false)
    simpa using h3
  · exact (((KeepBut.refl _ _ _).set_ 1 _).set_ 2 _).set_ 3 _
  · exact (((Below.refl _ _).setCell h.2.1 _).setCell h.2.1 _).setCell h.2.1 _

def heldOf (xs : List Int) (st : Int) : Int := if st = 2 then xs.length + 1 else xs.length

set_option maxHeartbeats 400000 in
theorem held_calls (w : World) {base g : Nat} {v : Value} {most : Int} {xs : List Int} {st : Int} {long : Bool} (h : IsSp w base g v most xs st long) (hn : xs.length ≤ 100000) :
    Calls Try.prog 7 #[.pointer (some ⟨g, 0, none⟩)] w fun e w' => e = .returned (.int .i64 (heldOf xs st)) ∧ w = w' := by
  obtain ⟨A, c, rfl⟩ := h.slice
  obtain ⟨c0, c1, c2, c3⟩ := h.cells
  clear h
  by_cases hs : st = 2
  · have hr : Hid (heldOf xs st = xs.length + 1) := Lib.hid (by simp [heldOf, hs])
    have hb : (st == 2) = true := beq_iff_eq.2 hs
    clear hs
    go_enter Try.func7, Try.ntmps7
    go_wp2
    go_ret
    exact ⟨by rw [hr.out]; rfl, rfl⟩
  · have hr : Hid (heldOf xs st = xs.length) := Lib.hid (by simp [heldOf, hs])
    have hb : (st == 2) = false := beq_eq_false_iff_ne.2 hs
    clear hs
    go_enter Try.func7, Try.ntmps7
    go_wp2
    go_ret
    exact ⟨by rw [hr.out]; rfl, rfl⟩

set_option maxHeartbeats 400000 in
theorem most_yes (w : World) {base g : Nat} {v : Value} {most : Int} {xs : List Int} {long : Bool} (h : IsSp w base g v most xs 0 long) (n : Int) (hn : 2 ≤ n ∧ n ≤ 65536) :
    Calls Try.prog 8 #[.pointer (some ⟨g, 0, none⟩), .int .i64 n] w fun e w' => e = .returned (.bool true) ∧ IsSp w' base g v n xs 0 long ∧ Step w w' base g v v := by
  obtain ⟨c0, c1, c2, c3⟩ := h.cells
  obtain ⟨f0, f1, f2, f3⟩ := h.frozen
  have H := Lib.hid h
  clear h
  have hd : (decide (2 ≤ n) && decide (n ≤ 65536)) = true := by simp [hn]
  go_enter Try.func8, Try.ntmps8
  go_wp2_with (go_at_call 9; refine (may_calls _ _).mono ?_; rintro e w' ⟨rfl, rfl⟩)
  go_ret
  have h := H.out
  exact ⟨rfl, ⟨by simpa using blk_set h.1 0 (.int .i64 n), h.2.1, own_far h.2.2 h.1 (by decide) _ _⟩, ⟨(KeepBut.refl _ _ _).set_ 0 _, .inl rfl, (Below.refl _ _).setCell h.2.1 _⟩⟩

theorem most_no (w : World) {base g : Nat} {v : Value} {most : Int} {xs : List Int} {st : Int} {long : Bool} (h : IsSp w base g v most xs st long) (hs : st ≠ 0) (n : Int) (hn : 2 ≤ n ∧ n ≤ 65536) :
    Calls Try.prog 8 #[.pointer (some ⟨g, 0, none⟩), .int .i64 n] w fun e w' => e = .returned (.bool false) ∧ w = w' := by
  obtain ⟨c0, c1, c2, c3⟩ := h.cells
  clear h
  have hd : (decide (2 ≤ n) && decide (n ≤ 65536)) = true := by simp [hn]
  have hb : (st != 0) = true := by simpa using hs
  clear hs
  go_enter Try.func8, Try.ntmps8
  go_wp2_with (go_at_call 9; refine (may_calls _ _).mono ?_; rintro e w' ⟨rfl, rfl⟩)
  go_ret
  simp

def putXs (most : Int) (xs : List Int) (c : Int) : List Int := if xs.length = most - 2 then xs else xs ++ [c]
def putLong (most : Int) (xs : List Int) (long : Bool) : Bool := if xs.length = most - 2 then true else long

set_option maxHeartbeats 400000 in
theorem put_calls (w : World) {base g : Nat} {v : Value} {most : Int} {xs : List Int} {st : Int} {long : Bool} (h : IsSp w base g v most xs st long) (hm : 2 ≤ most ∧ most ≤ 65536) (hl : xs.length ≤ most - 2) (c : Int) :
    Calls Try.prog 12 #[.pointer (some ⟨g, 0, none⟩), .int .u8 c] w fun e w' => e = .returned (.tuple #[]) ∧ ∃ v', IsSp w' base g v' most (putXs most xs c) 1 (putLong most xs long) ∧ Step w w' base g v v' := by
  obtain ⟨c0, c1, c2, c3⟩ := h.cells
  obtain ⟨f0, f1, f2, f3⟩ := h.frozen
  obtain ⟨A, cp, hv⟩ := h.slice
  subst hv
  have H := Lib.hid h
  clear h
  by_cases hs : (xs.length : Int) = most - 2
  · have hb : ((xs.length : Int) == most - 2) = true := beq_iff_eq.2 hs
    have hx : Hid (putXs most xs c = xs ∧ putLong most xs long = true) := Lib.hid (by simp [putXs, putLong, hs])
    clear hs
    go_enter Try.func12, Try.ntmps12
    go_wp2
    go_quiet (fail)
    go_wp2
    refine bodyPost_ret (results_none rfl _ _ _) rfl ?_
    have h := H.out
    refine ⟨rfl, .slice A xs.length cp, ⟨?_, h.2.1, ?_⟩, ⟨?_, .inl rfl, ?_⟩⟩
    · have h1 := blk_set h.1 2 (.int .i64 1)
      have h2 := blk_set (blk_drewN (by simpa using h1) nq) 3 (.bool true)
      rw [hx.out.2]
      simpa using h2
    · rw [hx.out.1]
      have h1 := blk_set h.1 2 (.int .i64 1)
      exact own_far (pw_own_drewN (own_far h.2.2 h.1 (by decide) 2 (.int .i64 1)) nq) (blk_drewN h1 nq) (by decide) 3 _
    · exact (keep_drewN ((KeepBut.refl _ _ _).set_ 2 _) nq).set_ 3 _
    · exact (pw_below_drewN ((Below.refl _ _).setCell h.2.1 _) nq).setCell h.2.1 _
  · have hb : ((xs.length : Int) == most - 2) = false := beq_eq_false_iff_ne.2 hs
    have hx : Hid (putXs most xs c = xs ++ [c] ∧ putLong most xs long = long) := Lib.hid (by simp [putXs, putLong, hs])
    clear hs
    go_enter Try.func12, Try.ntmps12
    go_wp2
    go_quiet (fail)
    go_wp2_with (at_builtin; (refine print_append_num (P := Try.prog) (w0 := w) (W := (w.setCell { block := g, off := 2 } (Value.int IntKind.i64 1)).drewN nq) base rfl (.tmp 25) (.tmp 27) 27 5 .u8 1 rfl Try.underlying27 info5 (by decide) (.slice A xs.length cp) xs c rfl ?h1 ?h2 ?h3 ?h4 ?h5 ?h6))
    case h1 => show Value.slice _ 1 1 = Value.slice _ 1 1; simp
    case h2 => exact own_far H.out.2.2 H.out.1 (by decide) _ _
    case h3 => exact pw_below_drewN ((Below.refl _ _).setCell H.out.2.1 _) _
    case h4 => have := blk_lt H.out.1; have := H.out.2.1; simp; omega
    case h5 => omega
    case h6 =>
      intro v1 w1 hown hbel hgr hfr
      have hg1 : w1.heap[g]? = some (.cells #[.int .i64 most, .slice A xs.length cp, .int .i64 1, .bool long] 36 (0, 0)) := by
        have h := H.out
        refine blk_grown (w := (w.setCell { block := g, off := 2 } (Value.int IntKind.i64 1)).drewN nq) (by simpa using blk_set h.1 2 (.int .i64 1)) hgr ?_
        exact own_block_ne h.2.2 h.1 (by decide)
      obtain ⟨A1, cp1, rfl⟩ := own_slice hown
      have d0 := (blk_cell hg1 0).trans rfl
      have d1 := (blk_cell hg1 1).trans rfl
      have d2 := (blk_cell hg1 2).trans rfl
      have d3 := (blk_cell hg1 3).trans rfl
      have e1 := blk_frozen hg1 1
      have HH := Lib.hid (And.intro hown (And.intro hbel (And.intro hgr (And.intro hfr hg1))))
      clear hown hbel hgr hfr hg1 c0 c1 c2 c3 f0 f1 f2 f3
      go_wp2
      go_end0
      obtain ⟨hown, hbel, hgr, hfr, hg1⟩ := HH.out
      have h := H.out
      have hlen : (xs ++ [c]).length = xs.length + 1 := by simp
      refine ⟨rfl, .slice A1 (xs.length + 1) cp1, ⟨?_, h.2.1, ?_⟩, ⟨?_, hfr.imp_right .inr, hbel.setCell h.2.1 _⟩⟩
      · rw [hx.out.2]
        simpa using blk_set hg1 1 (.slice A1 (xs.length + 1) cp1)
      · rw [hx.out.1]
        refine own_far ?_ hg1 (by decide) 1 _
        unfold OwnB
        rw [hlen]
        exact hown
      · refine KeepBut.set_ ?_ 1 _
        exact KeepBut.trans (keep_drewN ((KeepBut.refl w g (Value.slice A xs.length cp).ownBlock).set_ 2 _) nq) (KeepBut.of_grown hgr g) (.inl rfl)
end Go.Proofs.Ytfpcngoonfbphaa
