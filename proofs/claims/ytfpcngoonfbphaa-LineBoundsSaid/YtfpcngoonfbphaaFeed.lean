/- LineBounds: Feed. -/
import Derived.Test.YtfpcngoonfbphaaNext
set_option linter.unusedVariables false
set_option linter.unusedSimpArgs false
namespace Go.Proofs.Ytfpcngoonfbphaa
open Go.RowKit Go.Proofs.YtfpcngoonfbphaaW.PrintWords

abbrev Ln := List Int × Bool
def lineCells (l : List Ln) : List Value := l.flatMap fun p => [.string (strOfNums p.1), .bool p.2]
theorem lineCells_snoc (l : List Ln) (p : Ln) : lineCells (l ++ [p]) = lineCells l ++ [.string (strOfNums p.1), .bool p.2] := by simp [lineCells]
/-- A row of lines of the call's own. -/
def OwnL (W : World) (base : Nat) (v : Value) (l : List Ln) : Prop := W.ownsRow base 33 2 v l.length (lineCells l)

def sFeed (most : Int) : SpS → List Int → List Ln × SpS
  | s, [] => ([], s)
  | s, c :: r => if s.2.1 = 2 ∧ c = 10 then ((s.1, s.2.2) :: (sFeed most ([], 0, false) r).1, (sFeed most ([], 0, false) r).2) else sFeed most (sStep most s c) r

theorem sFeed_next (most : Int) (bs : List Int) : ∀ s, sFeed most s bs = match sNext most s bs with
    | .more s' => ([], s')
    | .line xs long rest => ((xs, long) :: (sFeed most ([], 0, false) rest).1, (sFeed most ([], 0, false) rest).2) := by
  induction bs with
  | nil => intro s; rfl
  | cons c r ih =>
    intro s
    by_cases h : s.2.1 = 2 ∧ c = 10
    · simp only [sFeed, sNext, if_pos h]
    · simp only [sFeed, sNext, if_neg h]
      exact ih _
theorem sNext_shorter (most : Int) (bs : List Int) : ∀ s xs long rest, sNext most s bs = .line xs long rest → rest.length < bs.length := by
  induction bs with
  | nil => intro s xs long rest h; simp [sNext] at h
  | cons c r ih =>
    intro s xs long rest h
    by_cases hc : s.2.1 = 2 ∧ c = 10
    · simp only [sNext, if_pos hc] at h
      injection h with _ _ h3
      subst h3
      simp
    · simp only [sNext, if_neg hc] at h
      have := ih _ _ _ _ h
      simp only [List.length_cons]
      omega
theorem sNext_len (most : Int) (bs : List Int) : ∀ s s', ((s.1.length : Int) ≤ most - 2) → sNext most s bs = .more s' → ((s'.1.length : Int) ≤ most - 2) := by
  induction bs with
  | nil => intro s s' h e; simp only [sNext] at e; injection e with e; subst e; exact h
  | cons c r ih =>
    intro s s' h e
    by_cases hc : s.2.1 = 2 ∧ c = 10
    · simp only [sNext, if_pos hc] at e
      cases e
    · simp only [sNext, if_neg hc] at e
      refine ih _ _ ?_ e
      unfold sStep stepB stepA
      split <;> split <;> first | exact putXs_le (putXs_le h _) _ | exact putXs_le h _ | exact h

theorem own_typed_ne {w : World} {b b' : Nat} {e e' : TypeId} {s s' n n' : Nat} {v v' : Value} {xs xs' : List Value} (h : w.ownsRow b e s v n xs) (h' : w.ownsRow b' e' s' v' n' xs') (hne : e ≠ e') : v.ownBlock = none ∨ v.ownBlock ≠ v'.ownBlock := own_type_ne h h' hne
theorem own_ne_block {W : World} {base : Nat} {e : TypeId} {size n : Nat} {v : Value} {xs : List Value} (h : W.ownsRow base e size v n xs) {g : Nat} {cs : Array Value} {t : Nat} (hb : W.heap[g]? = some (.cells cs t (0, 0))) (ht : e ≠ t) : v.ownBlock ≠ some g := by
  intro hk
  obtain ⟨cells, hh⟩ := own_typed h g hk
  rw [hb] at hh
  injection hh with hh
  injection hh with _ h2
  exact ht h2.symm
/-- A row of lines lives on behind a step. -/
theorem Step.ownL {w w1 : World} {base g base' : Nat} {v v1 u : Value} {most : Int} {xs : List Int} {st : Int} {long : Bool} {l : List Ln} (h : Step w w1 base g v v1) (hi : IsSp w base g v most xs st long) (ho : OwnL w base' u l) : OwnL w1 base' u l :=
  h.keep.own ho (own_ne_block ho hi.1 (by decide)) (own_type_ne ho hi.2.2 (by decide))

theorem Step.after {w wa wb : World} {base g : Nat} {v v1 : Value} (h : Step w wa base g v v1) (hb : Below w.heap.size wa wb) (hle : base ≤ w.heap.size) : Step w wb base g v v1 :=
  ⟨⟨Nat.le_trans h.keep.1 hb.size, fun i hi hg hr => (hb.block i hi).trans (h.keep.2 i hi hg hr)⟩, h.fresh, h.below.trans ⟨hb.os, hb.tape, hb.output, hb.size, fun i hi => hb.block i (Nat.lt_of_lt_of_le hi hle)⟩⟩
theorem own_reads_all {W : World} {base : Nat} {v : Value} {xs : List Int} (h : OwnB W base v xs) :
    ∃ A c, v = .slice A xs.length c ∧ ReadsInt W .u8 A xs.length xs ∧ xs.length ≤ c ∧ ∀ a, A = some a → v.ownBlock = some a.block ∧ a.block < W.heap.size := by
  obtain ⟨A, c, e, hr⟩ := own_reads h
  refine ⟨A, c, e, hr, ?_, ?_⟩
  · rcases h.2 with ⟨e', h0⟩ | ⟨g, cap, cur, e', _, _, h1, _⟩
    · omega
    · rw [e] at e'
      injection e' with _ _ e3
      omega
  · rintro a rfl
    subst e
    exact ⟨rfl, own_lt h _ rfl⟩

theorem info33 : (Try.prog.info? 33).map (fun i => (i.zero, i.size, i.bytes)) = some (some (.agg #[.string ⟨#[]⟩, .bool false]), 2, 24) := by kernel_rfl

def FeedPost (w : World) (base g : Nat) (v : Value) (most : Int) (r : List Ln × SpS) (e : Ending) (w' : World) : Prop :=
  ∃ vo v', e = .returned vo ∧ OwnL w' w.heap.size vo r.1 ∧ IsSp w' base g v' most r.2.1 r.2.2.1 r.2.2.2 ∧ ((r.2.1.length : Int) ≤ most - 2) ∧ Step w w' base g v v'

/-- What holds at the head of Feed's loop. -/
def FeedA (w wr : World) (base g : Nat) (v : Value) (most : Int) (v' vo : Value) (s : SpS) (A : Option Addr) (n c : Nat) (bs : List Int) (done : List Ln) : Prop :=
  IsSp wr base g v' most s.1 s.2.1 s.2.2 ∧ (s.1.length : Int) ≤ most - 2 ∧ Step w wr base g v v' ∧ ReadsInt wr .u8 A n bs ∧ n ≤ c ∧ n ≤ 100000 ∧ Away wr g v' A ∧ (∀ a, A = some a → a.block < wr.heap.size) ∧ OwnL wr w.heap.size vo done ∧ done.length + n ≤ 100000

set_option maxHeartbeats 1600000 in
theorem feed_calls (w : World) {base g : Nat} {v : Value} {most : Int} {xs : List Int} {st : Int} {long : Bool} (h : IsSp w base g v most xs st long) (hm : 2 ≤ most ∧ most ≤ 65536) (hl : xs.length ≤ most - 2)
    (A : Option Addr) (n c : Nat) (bs : List Int) (hr : ReadsInt w .u8 A n bs) (hnc : n ≤ c) (hn : n ≤ 100000) (ha : Away w g v A) (hlt : ∀ a, A = some a → a.block < w.heap.size) :
    Calls Try.prog 6 #[.pointer (some ⟨g, 0, none⟩), .slice A n c] w (FeedPost w base g v most (sFeed most (xs, st, long) bs)) := by
  have HS := Lib.hid (And.intro h (And.intro hr (And.intro ha (And.intro hlt (And.intro hnc (And.intro hn hl))))))
  clear h hr ha hlt hl
  go_enter Try.func6, Try.ntmps6
  go_wp2
  go_loopw [1, 5] (fun b vo wr => ∃ (v' : Value) (s : SpS) (A : Option Addr) (n c : Nat) (bs' : List Int) (done : List Ln), b = .slice A n c ∧ Hid (FeedA w wr base g v most v' vo s A n c bs' done ∧ sFeed most (xs, st, long) bs = (done ++ (sFeed most s bs').1, (sFeed most s bs').2)))
    (fun b _ _ => match b with | .slice _ n _ => n | _ => 0)
  case atStart =>
    obtain ⟨h, hr, ha, hlt, hnc, hn, hl⟩ := HS.out
    exact ⟨v, (xs, st, long), A, n, c, bs, [], rfl, Lib.hid ⟨⟨h, hl, Step.refl _ _ _ _, hr, hnc, hn, ha, hlt, own_nil _ _ _ _, by simpa using hn⟩, rfl⟩⟩
  case round =>
    obtain ⟨v', s, A, n, c, bs', done, rfl, HR⟩ := hrel
    obtain ⟨xs', st', long'⟩ := s
    obtain ⟨hi0, hl0, hs0, hr0, hnc0, hn0, ha0, hlt0, ho0, hd0⟩ := HR.out.1
    have hnx := next_calls wr hi0 hm hl0 A n c bs' hr0 hnc0 hn0 ha0 hlt0
    have hfx := sFeed_next most bs' (xs', st', long')
    cases hsn : sNext most (xs', st', long') bs' with
    | more s1 =>
      rw [hsn] at hnx hfx
      have HN := Lib.hid hnx
      have HF := Lib.hid hfx
      have HL := Lib.hid (sNext_len most bs' _ _ hl0 hsn)
      clear hi0 hl0 hs0 hr0 hnc0 hn0 ha0 hlt0 ho0 hd0 hnx hfx hsn
      go_wp2_with (go_at_call 10; refine HN.out.mono ?_; rintro e w1 ⟨rfl, v1, hi1, hs1⟩; have HP := Lib.hid (And.intro hi1 hs1); clear hi1 hs1)
      go_ret
      obtain ⟨hi0, hl0, hs0, hr0, hnc0, hn0, ha0, hlt0, ho0, hd0⟩ := HR.out.1
      have hfe : sFeed most (xs, st, long) bs = (done, s1) := by rw [HR.out.2, HF.out]; simp
      rw [hfe]
      refine ⟨_, v1, rfl, ?_, ⟨blk_alloc HP.out.1.1 _, HP.out.1.2.1, pw_own_below HP.out.1.2.2 (below_alloc (Below.refl _ _) _)⟩, ?_, ?_⟩
      · exact pw_own_below (HP.out.2.ownL hi0 ho0) (below_alloc (Below.refl _ _) _)
      · exact HL.out
      · exact hs0.trans (HP.out.2.trans (Step.of_below (below_alloc (Below.refl _ _) _) (Nat.le_trans HP.out.1.2.1 (Nat.le_of_lt (blk_lt HP.out.1.1)))))
    | line xs1 long1 rest =>
      rw [hsn] at hnx hfx
      have HN := Lib.hid hnx
      have HF := Lib.hid hfx
      have HL := Lib.hid (sNext_shorter most bs' _ _ _ _ hsn)
      clear hi0 hl0 hs0 hr0 hnc0 hn0 ha0 hlt0 ho0 hd0 hnx hfx hsn
      obtain ⟨Av, cv, rfl⟩ := own_slice HR.out.1.2.2.2.2.2.2.2.2.1
      go_wp2_with (first | (go_at_call 10; refine HN.out.mono ?_; rintro e w1 ⟨r', rfl, hor, hi1, hs1⟩; have HP := Lib.hid (And.intro hor (And.intro hi1 hs1)); clear hor hi1 hs1) | (at_builtin; (refine print_append_cells (P := Try.prog) (w0 := w1.alloc (.cells #[.string (strOfNums xs1), .bool long1] 33)) (W := w1.alloc (.cells #[.string (strOfNums xs1), .bool long1] 33)) w.heap.size rfl (.tmp 19) (.tmp 21) 28 33 (.agg #[.string ⟨#[]⟩, .bool false]) 2 24 rfl Try.underlying28 info33 rfl (by decide) (by decide) (.slice Av done.length cv) done.length (lineCells done) [.string (strOfNums xs1), .bool long1] ?h1 ?h2 rfl ?h3 ?h4 ?h5 ?h6 ?h7 ?h8)))
      case h1 => rfl
      case h2 => show Value.slice _ 1 1 = Value.slice _ 1 1; simp
      case h3 => intro u hu; simp at hu; rcases hu with rfl | rfl <;> rfl
      case h4 => exact pw_own_below (HP.out.2.2.ownL HR.out.1.1 HR.out.1.2.2.2.2.2.2.2.2.1) (below_alloc (Below.refl _ _) _)
      case h5 => exact Below.refl _ _
      case h6 => have := HR.out.1.2.2.1.keep.1; have := HP.out.2.2.keep.1; simp; omega
      case h7 => have := HR.out.1.2.2.2.2.2.2.2.2.2; omega
      case h8 =>
        intro v2 w2 hown hbel hgr hat
        have HQ := Lib.hid (And.intro hown (And.intro hbel hgr))
        clear hown hbel hgr hat
        obtain ⟨A1, c1, rfl, hr1, hc1, hb1⟩ := own_reads_all HP.out.1
        go_wp2
        obtain ⟨hi0, hl0, hs0, hr0, hnc0, hn0, ha0, hlt0, ho0, hd0⟩ := HR.out.1
        obtain ⟨hown, hbel, hgr⟩ := HQ.out
        obtain ⟨hor, hi1, hs1⟩ := HP.out
        have hsh := HL.out
        have hbn : bs'.length = n := hr0.1
        have hA : Below w1.heap.size w1 (w1.alloc (.cells #[.string (strOfNums xs1), .bool long1] 33)) := below_alloc (Below.refl _ _) _
        have ho1 := pw_own_below (hs1.ownL hi0 ho0) hA
        have hor1 := own_other (pw_own_below hor hA) hgr (own_type_ne (pw_own_below hor hA) ho1 (by decide))
        have hg2 := blk_grown (blk_alloc hi1.1 (.cells #[.string (strOfNums xs1), .bool long1] 33)) hgr (fun e => own_ne_block ho1 (blk_alloc hi1.1 (.cells #[.string (strOfNums xs1), .bool long1] 33)) (by decide) e.symm)
        obtain ⟨A2, c2, e2, hr2, hc2, hb2⟩ := own_reads_all hor1
        injection e2 with e2 _ e3
        subst e2 e3
        refine ⟨⟨_, ([], 0, false), A1, rest.length, c1, rest, done ++ [(xs1, long1)], rfl, Lib.hid ⟨⟨⟨hg2, hi1.2.1, own_nil _ _ _ _⟩, by simp; omega, ?_, hr2, hc1, by omega, ?_, fun a e => (hb2 a e).2, ?_, by simp; omega⟩, ?_⟩⟩, by simp; omega⟩
        · exact ((hs0.trans hs1).trans (Step.of_below hA (Nat.le_trans hi1.2.1 (Nat.le_of_lt (blk_lt hi1.1))))).after hbel (Nat.le_trans HS.out.1.2.1 (Nat.le_of_lt (blk_lt HS.out.1.1)))
        · intro a e
          refine ⟨?_, by simp [Value.ownBlock]⟩
          intro hk
          have := own_ne_block hor1 hg2 (by decide)
          exact this (by rw [(hb2 a e).1, hk])
        · unfold OwnL
          rw [lineCells_snoc]
          simpa using hown
        · rw [HR.out.2, HF.out]
          simp
end Go.Proofs.Ytfpcngoonfbphaa
