/- Whole. -/
import Derived.Test.YtfpcngoonfbphaaDoorH1
set_option linter.unusedVariables false
set_option linter.unusedSimpArgs false
namespace Go.Proofs.YtfpcngoonfbphaaDoor
open Go.RowKit Go.Proofs.YtfpcngoonfbphaaDoorW.PrintWords

def crlf : List Int := [13, 10]
def whole (xs : List Int) : List Int := if xs = [] ∨ endsB xs crlf = true then xs else xs ++ crlf

theorem crlf_world (w : World) : Lib.bytesWorld w 0 ⟨#[]⟩ = Lib.bytesWorld w 0 ⟨#[]⟩ := rfl
theorem kcrlf (w : World) : (convert 26 26 (.slice (some ⟨w.heap.size, 0, none⟩) 2 2)).run Tryd.prog (w.alloc (.cells #[.int .u8 13, .int .u8 10] 5)) = .ok (.slice (some ⟨w.heap.size, 0, none⟩) 2 2) (w.alloc (.cells #[.int .u8 13, .int .u8 10] 5 (2, 3))) :=
  Lib.run_convert_bytes_const (P := Tryd.prog) w 26 5 #[.int .u8 13, .int .u8 10] 2 2 Tryd.underlying26 Tryd.underlying5

set_option maxHeartbeats 1000000 in
set_option maxRecDepth 1000000 in
theorem Whole_calls (w : World) (A : Option Addr) (n c : Nat) (xs : List Int) (hr : ReadsInt w .u8 A n xs) (hnc : n ≤ c) (hn : n ≤ 1000000) :
    Calls Tryd.prog 44 #[.slice A n c] w fun e w' => ∃ v, e = .returned v ∧ SB w' w.heap.size v (whole xs) ∧ Below w.heap.size w w' := by
  by_cases h0 : n = 0
  · have hw : Hid (whole xs = xs) := Lib.hid (by
      obtain rfl : xs = [] := List.eq_nil_of_length_eq_zero (by rw [hr.1, h0])
      simp [whole])
    have hC := Lib.hid (Clone_calls w A n c xs hr (by omega))
    have hb : (n == 0) = true := beq_iff_eq.2 h0
    have hb' : ((n : Int) == 0) = true := by simpa using h0
    clear hr h0 hn
    go_enter Tryd.func44, Tryd.ntmps44
    go_wp2_with (go_at_call 68; refine hC.out.mono ?_; rintro e w1 ⟨v, rfl, hs, hb⟩; have HS := Lib.hid (And.intro hs hb); clear hs hb)
    go_ret
    exact ⟨v, rfl, by rw [hw.out]; exact HS.out.1, HS.out.2⟩
  · have hb : (n == 0) = false := beq_eq_false_iff_ne.2 h0
    have hb' : ((n : Int) == 0) = false := by simpa using h0
    have hne : xs ≠ [] := by rintro rfl; exact h0 hr.1.symm
    have hA := below_alloc (Below.refl w.heap.size w) (.cells #[.int .u8 13, .int .u8 10] 5 (2, 3))
    have hH := HasSuffix_calls (w.alloc (.cells #[.int .u8 13, .int .u8 10] 5 (2, 3))) A n c xs (hr.below hA) hnc (by omega) _ 2 2 crlf (lit_reads w crlf (2, 3) (by decide)) (by decide)
    have hk := kcrlf w
    cases he : endsB xs crlf with
    | true =>
      rw [he] at hH
      have hw : Hid (whole xs = xs) := Lib.hid (by simp [whole, he])
      have HH := Lib.hid hH
      have HC := Lib.hid (Clone_calls _ A n c xs (hr.below hA) (by omega))
      clear hr h0 hn hH he hne
      have HA := Lib.hid hA
      clear hA
      go_enter Tryd.func44, Tryd.ntmps44
      go_wp2_with (first | (go_at_call 67; refine HH.out.mono ?_; rintro e w1 ⟨rfl, rfl⟩) | (go_at_call 68; refine HC.out.mono ?_; rintro e w1 ⟨v, rfl, hs, hb⟩; have HS := Lib.hid (And.intro hs hb); clear hs hb))
      go_ret
      exact ⟨v, rfl, by rw [hw.out]; exact HS.out.1.lower HA.out.size, below_then HA.out HA.out.size HS.out.2⟩
    | false =>
      rw [he] at hH
      have hw : Hid (whole xs = joinOf [(A, c, xs), (some ⟨w.heap.size + 1, 0, none⟩, 2, crlf)]) := Lib.hid (by simp [whole, he, hne, joinOf])
      have HH := Lib.hid hH
      have e1 : (w.alloc (.cells #[.int .u8 13, .int .u8 10] 5 (2, 3))).heap.size = w.heap.size + 1 := by simp
      have hk2 := kcrlf (w.alloc (.cells #[.int .u8 13, .int .u8 10] 5 (2, 3)))
      rw [e1] at hk2
      have hB := below_alloc hA (.cells #[.int .u8 13, .int .u8 10] 5 (2, 3))
      have hD := below_alloc hB (.cells #[.slice A n c, .slice (some ⟨w.heap.size + 1, 0, none⟩) 2 2] 26)
      have hl := lit_reads (w.alloc (.cells #[.int .u8 13, .int .u8 10] 5 (2, 3))) crlf (2, 3) (by decide)
      rw [e1] at hl
      have hps : Parts (((w.alloc (.cells #[.int .u8 13, .int .u8 10] 5 (2, 3))).alloc (.cells #[.int .u8 13, .int .u8 10] 5 (2, 3))).alloc (.cells #[.slice A n c, .slice (some ⟨w.heap.size + 1, 0, none⟩) 2 2] 26)) (w.heap.size + 1 + 1) [(A, c, xs), (some ⟨w.heap.size + 1, 0, none⟩, 2, crlf)] := by
        have e2 : ((w.alloc (.cells #[.int .u8 13, .int .u8 10] 5 (2, 3))).alloc (.cells #[.int .u8 13, .int .u8 10] 5 (2, 3))).heap.size = w.heap.size + 1 + 1 := by simp
        have hnew := blk_new ((w.alloc (.cells #[.int .u8 13, .int .u8 10] 5 (2, 3))).alloc (.cells #[.int .u8 13, .int .u8 10] 5 (2, 3))) (.cells #[.slice A n c, .slice (some ⟨w.heap.size + 1, 0, none⟩) 2 2] 26)
        rw [e2] at hnew
        have hx1 := hr.1
        intro j p hj
        match j, hj with
        | 0, hj =>
          simp only [List.getElem?_cons_zero, Option.some.injEq] at hj
          subst hj
          refine ⟨(blk_cell hnew 0).trans (by rw [hx1]; rfl), ?_⟩
          simp only [hx1]
          exact hr.below hD
        | 1, hj =>
          simp only [List.getElem?_cons_succ, List.getElem?_cons_zero, Option.some.injEq] at hj
          subst hj
          exact ⟨(blk_cell hnew 1).trans rfl, hl.below (below_alloc (Below.refl _ _) _)⟩
        | j + 2, hj => simp at hj
      have HC := Lib.hid (Concat_calls _ _ _ hps (by simp) (by have := hr.1; simp [sumOf, crlf]; omega))
      have HD := Lib.hid hD
      clear hr h0 hn hH he hne hA hB hD hl hps e1
      go_enter Tryd.func44, Tryd.ntmps44
      go_wp2_with (first | (go_at_call 67; refine HH.out.mono ?_; rintro e w1 ⟨rfl, rfl⟩) | (go_at_call 50; refine HC.out.mono ?_; rintro e w1 ⟨v, rfl, ho, hb⟩; have HS := Lib.hid (And.intro ho hb); clear ho hb))
      go_ret
      exact ⟨v, rfl, by rw [hw.out]; exact (SB.of_own HS.out.1).lower HD.out.size, below_then HD.out HD.out.size HS.out.2⟩
end Go.Proofs.YtfpcngoonfbphaaDoor
