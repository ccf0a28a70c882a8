/- LineBounds: the law's walk. -/
import Derived.Test.YtfpcngoonfbphaaApp
set_option linter.unusedVariables false
set_option linter.unusedSimpArgs false
namespace Go.Proofs.Ytfpcngoonfbphaa
open Go.RowKit Go.Proofs.YtfpcngoonfbphaaW.PrintWords

theorem feed_rep (m c : Int) (hc : c ≠ 13) (r : List Int) : ∀ (k : Nat) (xs : List Int) (st : Int) (long : Bool), st ≠ 2 → (xs.length : Int) + k ≤ m - 2 →
    sFeed m (xs, st, long) (List.replicate k c ++ r) = sFeed m (xs ++ List.replicate k c, (if k = 0 then st else 1), long) r := by
  intro k
  induction k with
  | zero => intro xs st long _ _; simp
  | succ k ih =>
    intro xs st long hst hl
    have hne : ¬ ((xs.length : Int) = m - 2) := by omega
    rw [List.replicate_succ, List.cons_append, sFeed, if_neg (fun h => hst h.1)]
    have e : sStep m (xs, st, long) c = (xs ++ [c], 1, long) := by simp [sStep, stepA, stepB, hst, hc, putXs, putLong, hne]
    rw [e, ih _ _ _ (by decide) (by simp; omega)]
    have h1 : (if k = 0 then (1 : Int) else 1) = if k + 1 = 0 then st else 1 := by rw [if_neg (Nat.succ_ne_zero k)]; split <;> rfl
    rw [h1]
    simp [List.append_assoc]
theorem feed_full (m c : Int) (hc : c ≠ 13) (r : List Int) : ∀ (k : Nat) (xs : List Int) (st : Int) (long : Bool), st ≠ 2 → (xs.length : Int) = m - 2 →
    sFeed m (xs, st, long) (List.replicate k c ++ r) = sFeed m (xs, (if k = 0 then st else 1), (if k = 0 then long else true)) r := by
  intro k
  induction k with
  | zero => intro xs st long _ _; simp
  | succ k ih =>
    intro xs st long hst hl
    rw [List.replicate_succ, List.cons_append, sFeed, if_neg (fun h => hst h.1)]
    have e : sStep m (xs, st, long) c = (xs, 1, true) := by simp [sStep, stepA, stepB, hst, hc, putXs, putLong, hl]
    have h1 : (if k = 0 then (1 : Int) else 1) = if k + 1 = 0 then st else 1 := by rw [if_neg (Nat.succ_ne_zero k)]; split <;> rfl
    have h2 : (if k = 0 then true else true) = if k + 1 = 0 then long else true := by rw [if_neg (Nat.succ_ne_zero k)]; split <;> rfl
    rw [e, ih _ _ _ (by decide) hl, h1, h2]
theorem feed_crlf (m : Int) (xs : List Int) (st : Int) (long : Bool) (hst : st ≠ 2) : sFeed m (xs, st, long) [13, 10] = ([(xs, long)], ([], 0, false)) := by
  rw [sFeed, if_neg (fun h => hst h.1)]
  have e : sStep m (xs, st, long) 13 = (xs, 2, long) := by simp [sStep, stepA, stepB, hst]
  rw [e, sFeed, if_pos ⟨rfl, rfl⟩, sFeed]

theorem own_lowerL {W : World} {base base' : Nat} {v : Value} {l : List Ln} (h : OwnL W base v l) (hb : base' ≤ base) : OwnL W base' v l := by
  obtain ⟨h1, h2⟩ := h
  refine ⟨h1, ?_⟩
  rcases h2 with h2 | ⟨k, cap, cur, e, h3, h4⟩
  · exact .inl h2
  · exact .inr ⟨k, cap, cur, e, Nat.le_trans hb h3, h4⟩

/-- All that is held, at any place of the law. -/
structure C1 (w W : World) (g : Nat) (v vb : Value) (most : Int) (s : SpS) (bs : List Int) (rows : List (Value × List Ln)) : Prop where
  sp : IsSp W w.heap.size g v most s.1 s.2.1 s.2.2
  len : (s.1.length : Int) ≤ most - 2
  b : OwnB W w.heap.size vb bs
  ap : vb.ownBlock = none ∨ vb.ownBlock ≠ v.ownBlock
  rows : ∀ p ∈ rows, OwnL W w.heap.size p.1 p.2
  below : Below w.heap.size w W
section
variable {w W W' : World} {g : Nat} {v v' vb vb' : Value} {most most' : Int} {s s' : SpS} {bs bs' : List Int} {rows : List (Value × List Ln)}
theorem C1.size (h : C1 w W g v vb most s bs rows) : w.heap.size ≤ W.heap.size := h.below.size
theorem C1.alloc (h : C1 w W g v vb most s bs rows) (o : Obj) : C1 w (W.alloc o) g v vb most s bs rows :=
  have hA : Below W.heap.size W (W.alloc o) := below_alloc (Below.refl _ _) o
  ⟨sp_alloc h.sp o, h.len, pw_own_below h.b hA, h.ap, fun p hp => pw_own_below (h.rows p hp) hA, h.below.alloc h.size o⟩
theorem C1.drewN (h : C1 w W g v vb most s bs rows) (n : Nat) : C1 w (W.drewN n) g v vb most s bs rows :=
  ⟨⟨blk_drewN h.sp.1 n, h.sp.2.1, pw_own_drewN h.sp.2.2 n⟩, h.len, pw_own_drewN h.b n, h.ap, fun p hp => pw_own_drewN (h.rows p hp) n, pw_below_drewN h.below n⟩
theorem C1.step (h : C1 w W g v vb most s bs rows) (hs : Step W W' w.heap.size g v v') (hi : IsSp W' w.heap.size g v' most' s'.1 s'.2.1 s'.2.2) (hl : (s'.1.length : Int) ≤ most' - 2) : C1 w W' g v' vb most' s' bs rows := by
  refine ⟨hi, hl, hs.keep.own h.b (own_ne_block h.b h.sp.1 (by decide)) h.ap, ?_, fun p hp => hs.ownL h.sp (h.rows p hp), h.below.trans hs.below⟩
  rcases hs.fresh with e | e | ⟨b, e, hb⟩
  · rw [e]; exact h.ap
  · rw [e]
    rcases hk : vb.ownBlock with _ | k
    · exact .inl rfl
    · exact .inr (by simp)
  · rw [e]
    rcases hk : vb.ownBlock with _ | k
    · exact .inl rfl
    · have := own_lt h.b k hk
      exact .inr (by simp; omega)
theorem C1.fed {m : Int} {xs : List Int} {st : Int} {long : Bool} {zs : List Int} {e : Ending} (h : C1 w W g v vb m (xs, st, long) bs rows) (hp : FeedPost W w.heap.size g v m (sFeed m (xs, st, long) zs) e W') :
    ∃ vo v', e = .returned vo ∧ C1 w W' g v' vb m (sFeed m (xs, st, long) zs).2 bs ((vo, (sFeed m (xs, st, long) zs).1) :: rows) := by
  obtain ⟨vo, v', rfl, ho, hi, hl, hs⟩ := hp
  have h' := h.step hs hi hl
  refine ⟨vo, v', rfl, ⟨h'.sp, h'.len, h'.b, h'.ap, ?_, h'.below⟩⟩
  intro p hp
  rcases List.mem_cons.1 hp with rfl | hp
  · exact own_lowerL ho h.size
  · exact h'.rows p hp
/-- b grows. -/
theorem C1.grown (h : C1 w W g v vb most s bs rows) (hg : W.grownBy W' vb.ownBlock) (ho : OwnB W' w.heap.size vb' bs') (hB : Below w.heap.size W W') (ha : vb'.ownBlock = none ∨ vb'.ownBlock ≠ v.ownBlock) : C1 w W' g v vb' most s bs' rows := by
  refine ⟨⟨blk_grown h.sp.1 hg (fun e => own_ne_block h.b h.sp.1 (by decide) e.symm), h.sp.2.1, own_other h.sp.2.2 hg ?_⟩, h.len, ho, ha, fun p hp => own_other (h.rows p hp) hg (own_type_ne (h.rows p hp) h.b (by decide)), h.below.trans hB⟩
  rcases hk : v.ownBlock with _ | k
  · exact .inl rfl
  · refine .inr fun e => ?_
    rcases h.ap with a | a
    · rw [a] at e; cases e
    · exact a (by rw [hk]; exact e.symm)
end
end Go.Proofs.Ytfpcngoonfbphaa
