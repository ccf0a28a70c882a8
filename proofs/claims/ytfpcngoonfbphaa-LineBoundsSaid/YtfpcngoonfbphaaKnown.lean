/- LineBounds: known. -/
import Derived.Test.YtfpcngoonfbphaaFeed
import Derived.Lib.SlBytesConst
set_option linter.unusedVariables false
set_option linter.unusedSimpArgs false
namespace Go.Proofs.Ytfpcngoonfbphaa
open Go.RowKit Go.Proofs.YtfpcngoonfbphaaW.PrintWords

theorem OwnL.open_ {W : World} {base : Nat} {v : Value} {l : List Ln} (h : OwnL W base v l) (hl : 0 < l.length) :
    ∃ g c, v = .slice (some ⟨g, 0, none⟩) l.length c ∧ ∀ j u, (lineCells l)[j]? = some u → W.cell? ⟨g, j, none⟩ = some u := by
  obtain ⟨g, cap, rfl, _, _⟩ := World.ownsRow.form h hl
  refine ⟨g, cap, rfl, fun j u hu => ?_⟩
  have := World.ownsRow.cells h (g := g) rfl j u hu
  rwa [add_plain] at this

/-- The splitter as New lays it. -/
theorem new_sp (w : World) (n : Int) : IsSp (w.alloc (.cells #[.int .i64 n, .slice none 0 0, .int .i64 0, .bool false] 36)) w.heap.size w.heap.size (.slice none 0 0) n [] 0 false :=
  ⟨blk_new _ _, Nat.le_refl _, own_nil _ _ _ _⟩
/-- A literal row of bytes, ahead of it a splitter. -/
theorem sp_alloc {W : World} {base g : Nat} {v : Value} {most : Int} {xs : List Int} {st : Int} {long : Bool} (h : IsSp W base g v most xs st long) (o : Obj) : IsSp (W.alloc o) base g v most xs st long :=
  ⟨blk_alloc h.1 o, h.2.1, pw_own_below h.2.2 (below_alloc (Below.refl _ _) o)⟩
theorem lit_reads (W : World) (xs : List Int) (fr : Nat × Nat) (hm : xs.length ≤ 9223372036854775807) : ReadsInt (W.alloc (.cells (nums .u8 xs).toArray 5 fr)) .u8 (some ⟨W.heap.size, 0, none⟩) xs.length xs := by
  refine ⟨rfl, hm, fun _ => ⟨_, rfl, fun j hj => ?_⟩⟩
  rw [add_plain]
  unfold World.cell?
  simp only [blk_new]
  simp [nums, List.getD_eq_getElem?_getD, List.getElem?_eq_getElem hj]
theorem lit_away {W : World} {base g : Nat} {v : Value} {most : Int} {xs : List Int} {st : Int} {long : Bool} (h : IsSp W base g v most xs st long) (o : Obj) : Away (W.alloc o) g v (some ⟨W.heap.size, 0, none⟩) := by
  rintro a e
  injection e with e
  subst e
  refine ⟨fun hk => ?_, fun hk => ?_⟩
  · have := blk_lt h.1
    have hk' : W.heap.size = g := hk
    omega
  · have := own_lt h.2.2 _ hk.symm
    exact absurd this (Nat.lt_irrefl _)
theorem lit_lt (W : World) (o : Obj) : ∀ a, (some (⟨W.heap.size, 0, none⟩ : Addr)) = some a → a.block < (W.alloc o).heap.size := by
  rintro a e
  injection e with e
  subst e
  simp
def knownBytes : List Int := [97, 98, 13, 10, 97, 98, 99, 100, 101, 102, 103, 13, 10, 120]
theorem known_lines : sFeed 6 ([], 0, false) knownBytes = ([([97, 98], false), ([97, 98, 99, 100], true)], ([120], 1, false)) := by decide +kernel

set_option maxHeartbeats 800000 in
theorem known_calls (w : World) : Calls Try.prog 4 #[] w fun e w' => e = .returned (.bool true) ∧ Below w.heap.size w w' := by
  have hsz : (w.alloc (.cells #[.int .i64 6, .slice none 0 0, .int .i64 0, .bool false] 36)).heap.size = w.heap.size + 1 := by simp
  have hF := feed_calls _ (sp_alloc (new_sp w 6) (.cells (nums .u8 knownBytes).toArray 5 (14, 15))) (by decide) (by decide) _ 14 14 knownBytes (lit_reads _ knownBytes (14, 15) (by decide)) (by decide) (by decide) (lit_away (new_sp w 6) _) (lit_lt _ _)
  have kc := Lib.run_convert_bytes_const (P := Try.prog) (w.alloc (.cells #[.int .i64 6, .slice none 0 0, .int .i64 0, .bool false] 36)) 27 5 (nums .u8 knownBytes).toArray 14 14 Try.underlying27 Try.underlying5
  rw [hsz] at hF kc
  rw [known_lines] at hF
  have hF := Lib.hid hF
  simp only [knownBytes, nums, List.map_cons, List.map_nil] at kc
  have e1 : (strOfNums [97, 98]).toList = [97, 98] := by decide +kernel
  have e2 : (strOfNums [97, 98, 99, 100]).toList = [97, 98, 99, 100] := by decide +kernel
  have e3 : (heldOf [120] 1 == 1) = true := by decide +kernel
  go_enter Try.func4, Try.ntmps4
  go_wp2_with (first | (go_at_call 5; refine (new_calls 6 _ (by decide)).mono ?_; rintro e w' ⟨rfl, rfl⟩) | (go_at_call 6; refine hF.out.mono ?_; rintro e w1 ⟨vo, v', rfl, ho, hi, hl, hs⟩; obtain ⟨gl, cl, rfl, hcl⟩ := ho.open_ (by decide); have l0 := hcl 0 _ rfl; have l1 := hcl 1 _ rfl; have l2 := hcl 2 _ rfl; have l3 := hcl 3 _ rfl; have HP := Lib.hid (And.intro hi hs); clear ho hcl hi hs hl) | (go_at_call 7; refine (held_calls _ HP.out.1 (by decide)).mono ?_; rintro e w2 ⟨rfl, rfl⟩))
  go_ret
  exact ⟨rfl, (below_alloc (below_alloc (Below.refl _ _) _) _).trans HP.out.2.below⟩
end Go.Proofs.Ytfpcngoonfbphaa
