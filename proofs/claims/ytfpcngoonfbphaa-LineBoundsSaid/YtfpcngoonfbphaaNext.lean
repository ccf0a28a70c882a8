/- LineBounds: Next. -/
import Derived.Test.YtfpcngoonfbphaaSpl
import Derived.RegionTactic
import Derived.ChangeAlike
import Derived.Deep.RegionHeld3
import Derived.Deep.RegionLaw
import Derived.IntWalk
import Derived.StillTailTactics
import Derived.WalkMore
import Derived.ScopeJumps
set_option linter.unusedVariables false
set_option linter.unusedSimpArgs false
namespace Go.Proofs.Ytfpcngoonfbphaa
open Go.RowKit Go.Proofs.YtfpcngoonfbphaaW.PrintWords

theorem Step.refl (w : World) (base g : Nat) (v : Value) : Step w w base g v v := ⟨KeepBut.refl _ _ _, .inl rfl, Below.refl _ _⟩
theorem Step.trans {w w1 w2 : World} {base g : Nat} {v v1 v2 : Value} (h : Step w w1 base g v v1) (k : Step w1 w2 base g v1 v2) : Step w w2 base g v v2 := by
  refine ⟨?_, ?_, h.below.trans k.below⟩
  · refine ⟨Nat.le_trans h.keep.1 k.keep.1, fun i hi hg hn => (k.keep.2 i (Nat.lt_of_lt_of_le hi h.keep.1) hg ?_).trans (h.keep.2 i hi hg hn)⟩
    rcases h.fresh with e | e | ⟨b, e, hb⟩
    · rw [e]; exact hn
    · rw [e]; simp
    · rw [e]; simp; omega
  · rcases k.fresh with e | e | ⟨b, e, hb⟩
    · rcases h.fresh with e' | e' | ⟨b, e', hb⟩
      · exact .inl (e.trans e')
      · exact .inr (.inl (e.trans e'))
      · exact .inr (.inr ⟨b, e.trans e', hb⟩)
    · exact .inr (.inl e)
    · exact .inr (.inr ⟨b, e, Nat.le_trans h.keep.1 hb⟩)

/-- A row that is read lies elsewhere than a splitter's own. -/
def Away (w : World) (g : Nat) (v : Value) (A : Option Addr) : Prop := ∀ a, A = some a → a.block ≠ g ∧ some a.block ≠ v.ownBlock

theorem add_block (a : Addr) (j : Nat) : (a.add j).block = a.block := by
  unfold Addr.add; split <;> rfl
theorem Step.reads {w w1 : World} {base g : Nat} {v v1 : Value} (h : Step w w1 base g v v1) {k : IntKind} {A : Option Addr} {n : Nat} {xs : List Int} (hr : ReadsInt w k A n xs) (ha : Away w g v A) : ReadsInt w1 k A n xs := by
  refine ⟨hr.1, hr.2.1, fun hn => ?_⟩
  obtain ⟨ad, e, hc⟩ := hr.2.2 hn
  refine ⟨ad, e, fun j hj => ?_⟩
  have h1 := hc j hj
  obtain ⟨a1, a2⟩ := ha ad e
  have hlt := World.block_lt_of_cell? _ _ h1
  rw [← h1]
  unfold World.cell?
  rw [h.keep.2 _ hlt (by rw [add_block]; exact a1) (by rw [add_block]; exact a2)]
theorem Step.away {w w1 : World} {base g : Nat} {v v1 : Value} (h : Step w w1 base g v v1) {A : Option Addr} (ha : Away w g v A) (hlt : ∀ a, A = some a → a.block < w.heap.size) : Away w1 g v1 A := by
  intro a e
  obtain ⟨a1, a2⟩ := ha a e
  refine ⟨a1, ?_⟩
  rcases h.fresh with e' | e' | ⟨b, e', hb⟩
  · rw [e']; exact a2
  · rw [e']; simp
  · rw [e']; have := hlt a e; simp; omega

abbrev SpS := List Int × Int × Bool
def stepA (most : Int) (s : SpS) : SpS := if s.2.1 = 2 then (putXs most s.1 13, 1, putLong most s.1 s.2.2) else s
def stepB (most : Int) (s : SpS) (c : Int) : SpS := if c = 13 then (s.1, 2, s.2.2) else (putXs most s.1 c, 1, putLong most s.1 s.2.2)
def sStep (most : Int) (s : SpS) (c : Int) : SpS := stepB most (stepA most s) c
inductive SpR where
  | more (s : SpS)
  | line (xs : List Int) (long : Bool) (rest : List Int)
def sNext (most : Int) (s : SpS) : List Int → SpR
  | [] => .more s
  | c :: r => if s.2.1 = 2 ∧ c = 10 then .line s.1 s.2.2 r else sNext most (sStep most s c) r

/-- What Next hands back, and leaves. -/
def NextPost (w : World) (base g : Nat) (v : Value) (most : Int) (r : SpR) (e : Ending) (w' : World) : Prop :=
  match r with
  | .more s => e = .returned (.tuple #[.agg #[.string ⟨#[]⟩, .bool false], .bool false, .slice none 0 0]) ∧ ∃ v', IsSp w' base g v' most s.1 s.2.1 s.2.2 ∧ Step w w' base g v v'
  | .line xs long rest => ∃ r', e = .returned (.tuple #[.agg #[.string (strOfNums xs), .bool long], .bool true, r']) ∧ OwnB w' w.heap.size r' rest ∧ IsSp w' base g (.slice none 0 0) most [] 0 false ∧ Step w w' base g v (.slice none 0 0)

theorem own_drew {W : World} {base n : Nat} {e : TypeId} {size : Nat} {v : Value} {xs : List Value} (h : W.ownsRow base e size v n xs) : (W.drew).ownsRow base e size v n xs := h
theorem reads_below {w w1 : World} {k : IntKind} {A : Option Addr} {n : Nat} {xs : List Int} (h : ReadsInt w k A n xs) (hb : Below w.heap.size w w1) : ReadsInt w1 k A n xs := h.below hb

/-- append in a region that draws, its run being known. -/
theorem step_append_run {P : Program} {ops : Array Oper} {o : Oper} {a : Act} {w w1 : World} {K : Act → World → Prop} {Q : Exit → Act → World → Prop} {E : Prop} {v1 : Value}
    (hg : o.guard = none) (s x : Operand) (t : TypeId) (hop : o.op = Op.call { callee := Callee.builtin Builtin.append, args := #[s, x], argTypes := #[t, t] })
    (v y : Value) (hs : a.eval s = v) (hx : a.eval x = y) (hrun : (Builtin.append_ #[t, t] o.type #[v, y]).run P w = .ok v1 w1)
    (hK : K (a.put o.dst v1) w1) : if Region.wanted o (yielded ops a.tmps) = true then Oper.wp P o a w K Q else E := by
  have hw : Region.wanted o (yielded ops a.tmps) = true := by simp [Region.wanted, hg]
  rw [if_pos hw]
  unfold Oper.wp
  simp [execOp, hop, resolve, invoke, builtin, hs, hx, hrun, Result.andThen]
  exact hK

/-- 'append([]byte{}, ys...)' behind the empty row's making. -/
theorem append_new (W : World) (A : Option Addr) (m c : Nat) (ys : List Int) (HR : ReadsInt W .u8 A m ys) (hm : m ≤ 100000) :
    ∃ v1 w1, (Builtin.append_ #[27, 27] 27 #[.slice (some ⟨W.heap.size, 0, none⟩) 0 0, .slice A m c]).run Try.prog (W.alloc (.cells #[] 5)).drew = .ok v1 w1 ∧ OwnB w1 W.heap.size v1 ys ∧ Below W.heap.size W w1 := by
  obtain ⟨i0, hi, hzz⟩ := Option.map_eq_some_iff.1 info5
  simp only [Prod.mk.injEq] at hzz
  obtain ⟨hz0, hz1, hz2⟩ := hzz
  have hB : Below W.heap.size W (W.alloc (.cells #[] 5)).drew := below_drew (below_alloc (Below.refl _ _) _)
  have HR1 : ReadsInt (W.alloc (.cells #[] 5)).drew .u8 A m ys := HR.below hB
  have HO : ((W.alloc (.cells #[] 5)).drew).ownsRow W.heap.size 5 1 (.slice (some ⟨W.heap.size, 0, none⟩) 0 0) 0 [] := by
    have h := World.ownsRow_lit (base := W.heap.size) (e := 5) (size := 1) W #[] 0 (Nat.le_refl _) (by simp [maxLen]) (by simp)
    exact own_drew (by simpa using h)
  rcases A with _ | ad
  · have h0 : m = 0 := by
      rcases Nat.eq_zero_or_pos m with h0 | h0
      · exact h0
      · obtain ⟨ad, h, _⟩ := HR.2.2 h0
        cases h
    subst h0
    obtain rfl : ys = [] := List.eq_nil_of_length_eq_zero HR.1
    refine ⟨.slice (some ⟨W.heap.size, 0, none⟩) 0 0, (W.alloc (.cells #[] 5)).drew, ?_, HO, hB⟩
    simp [Builtin.append_, run_underlying Try.underlying27, sizeOf, typeInfo, hi, Builtin.lenOf, Builtin.firstCells, storeCells]
  · have hcells : ∀ j u, (nums .u8 ys)[j]? = some u → (W.alloc (.cells #[] 5)).drew.cell? (ad.add j) = some u := by
      intro j u hu
      have hj : j < ys.length := by
        rcases Nat.lt_or_ge j ys.length with h | h
        · exact h
        · simp [nums, List.getElem?_eq_none h] at hu
      have hm1 := HR1.1
      obtain ⟨ad', h', hc⟩ := HR1.2.2 (by omega)
      injection h' with h'
      subst h'
      have := hc j (by omega)
      simp [nums, List.getElem?_eq_getElem hj] at hu
      subst hu
      rw [this]
      simp [List.getD_eq_getElem?_getD, List.getElem?_eq_getElem hj]
    have hm1 := HR1.1
    obtain ⟨v1, w1, hrun, h2, h3, _, h5⟩ := run_append_own_at (P := Try.prog) (W.alloc (.cells #[] 5)).drew W.heap.size 27 27 5 i0 (.int .u8 0) 1 1 Try.underlying27 hi hz0 hz1 hz2 rfl (by omega) (.slice (some ⟨W.heap.size, 0, none⟩) 0 0) 0 [] HO ad m c (nums .u8 ys) (by simp [nums, hm1]) hcells
      (by intro u hu; simp only [nums, List.mem_map] at hu; obtain ⟨q, _, rfl⟩ := hu; rfl) (by simp only [maxLen]; omega) (by omega) hB.size
    refine ⟨v1, w1, hrun, ?_, hB.grown h3 hB.size (own_base HO)⟩
    unfold OwnB
    rw [hm1]
    simpa using h2

theorem hinf5 : Try.prog.info? 5 = some Try.t5 := by kernel_rfl
theorem hinf5s : Try.t5.size = 1 := by kernel_rfl
theorem Step.of_below {w w1 : World} {base g : Nat} {v : Value} (h : Below w.heap.size w w1) (hb : base ≤ w.heap.size) : Step w w1 base g v v :=
  ⟨KeepBut.of_below h g _, .inl rfl, below_then (Below.refl _ _) hb h⟩
theorem Step.set_new {w w1 : World} {base g : Nat} {v v1 : Value} (h : Step w w1 base g v v1) {p : Addr} (hp : w.heap.size ≤ p.block) (hb : base ≤ w.heap.size) (u : Value) : Step w (w1.setCell p u) base g v v1 :=
  ⟨keep_far h.keep hp u, h.fresh, h.below.setCell (Nat.le_trans hb hp) u⟩
theorem blk_step {w w1 : World} {base g b : Nat} {v v1 : Value} {most : Int} {xs : List Int} {st : Int} {long : Bool} {cs : Array Value} {t : Nat} (hb : w.heap[b]? = some (.cells cs t (0, 0))) (h : Step w w1 base g v v1) (hi : IsSp w base g v most xs st long) (ht : t ≠ 36 ∧ t ≠ 5) :
    w1.heap[b]? = some (.cells cs t (0, 0)) := by
  refine h.keep.blk hb ?_ ?_
  · rintro rfl
    have h1 := hi.1
    rw [hb] at h1
    injection h1 with h1
    injection h1 with _ h2
    exact ht.1 h2
  · intro e
    exact own_block_ne hi.2.2 hb (fun e' => ht.2 e'.symm) e

/-- What holds at a round's head. -/
def NextA (w wr : World) (base g : Nat) (v : Value) (most : Int) (v' : Value) (s : SpS) : Prop :=
  IsSp wr base g v' most s.1 s.2.1 s.2.2 ∧ (s.1.length : Int) ≤ most - 2 ∧ wr.heap[w.heap.size]? = some (.cells #[.string ⟨#[]⟩, .bool false] 33 (0, 0)) ∧ Step w wr base g v v'
theorem putXs_le {most : Int} {xs : List Int} (h : (xs.length : Int) ≤ most - 2) (c : Int) : ((putXs most xs c).length : Int) ≤ most - 2 := by
  unfold putXs
  split
  · exact h
  · simp; omega
theorem reads_at {w wr : World} {A : Option Addr} {n : Nat} {bs : List Int} (h0 : ReadsInt w .u8 A n bs) (h : ReadsInt wr .u8 A n bs) (k : Nat) (hk : k < n) :
    ∃ ad cc, A = some ad ∧ wr.cell? (ad.add k) = some (.int .u8 cc) ∧ bs.drop k = cc :: bs.drop (k + 1) := by
  obtain ⟨ad, e, hc⟩ := h.2.2 (by omega)
  refine ⟨ad, bs.getD k 0, e, hc k hk, ?_⟩
  have hl : k < bs.length := by rw [h.1]; exact hk
  rw [List.drop_eq_getElem_cons hl]
  simp [List.getD_eq_getElem?_getD, List.getElem?_eq_getElem hl]
theorem own_lower {W : World} {base base' : Nat} {v : Value} {xs : List Int} (h : OwnB W base v xs) (hb : base' ≤ base) : OwnB W base' v xs := by
  obtain ⟨h1, h2⟩ := h
  refine ⟨h1, ?_⟩
  rcases h2 with h2 | ⟨k, cap, cur, e, h3, h4⟩
  · exact .inl h2
  · exact .inr ⟨k, cap, cur, e, Nat.le_trans hb h3, h4⟩
theorem NextA.put {w wr w1 : World} {base g : Nat} {v v' v1 : Value} {most : Int} {s : SpS} (h : NextA w wr base g v most v' s) (c : Int) (hi : IsSp w1 base g v1 most (putXs most s.1 c) 1 (putLong most s.1 s.2.2)) (hs : Step wr w1 base g v' v1) :
    NextA w w1 base g v most v1 (putXs most s.1 c, 1, putLong most s.1 s.2.2) :=
  ⟨hi, putXs_le h.2.1 c, blk_step h.2.2.1 hs h.1 (by decide), h.2.2.2.trans hs⟩
theorem NextA.cr {w wr : World} {base g : Nat} {v v' : Value} {most : Int} {s : SpS} (h : NextA w wr base g v most v' s) :
    NextA w (wr.setCell ⟨g, 2, none⟩ (.int .i64 2)) base g v most v' (s.1, 2, s.2.2) := by
  obtain ⟨hi, hl, hw, hs⟩ := h
  refine ⟨⟨by simpa using blk_set hi.1 2 (.int .i64 2), hi.2.1, own_far hi.2.2 hi.1 (by decide) 2 _⟩, hl, ?_, ?_⟩
  · refine blk_far hw ?_ _
    rintro e
    have h1 := hi.1
    have h2 : wr.heap[g]? = some (.cells #[.string ⟨#[]⟩, .bool false] 33 (0, 0)) := by rw [show g = w.heap.size from e.symm]; exact hw
    rw [h1] at h2
    injection h2 with h2
    injection h2 with _ h3
    exact absurd h3 (by decide)
  · exact hs.trans ⟨(KeepBut.refl _ _ _).set_ 2 _, .inl rfl, (Below.refl _ _).setCell hi.2.1 _⟩
theorem sNext_step {most : Int} {s : SpS} {c : Int} {r : List Int} (h : ¬ (s.2.1 = 2 ∧ c = 10)) : sNext most s (c :: r) = sNext most (sStep most s c) r := by
  rw [sNext, if_neg h]
set_option maxHeartbeats 1600000 in
theorem next_calls (w : World) {base g : Nat} {v : Value} {most : Int} {xs : List Int} {st : Int} {long : Bool} (h : IsSp w base g v most xs st long) (hm : 2 ≤ most ∧ most ≤ 65536) (hl : xs.length ≤ most - 2)
    (A : Option Addr) (n c : Nat) (bs : List Int) (hr : ReadsInt w .u8 A n bs) (hnc : n ≤ c) (hn : n ≤ 100000) (ha : Away w g v A) (hlt : ∀ a, A = some a → a.block < w.heap.size) :
    Calls Try.prog 10 #[.pointer (some ⟨g, 0, none⟩), .slice A n c] w (NextPost w base g v most (sNext most (xs, st, long) bs)) := by
  have HS := Lib.hid (And.intro h (And.intro hr (And.intro ha hlt)))
  clear h hr ha hlt
  go_enter Try.func10, Try.ntmps10
  go_wp2
  go_step3
  go_wp2
  go_step3
  go_wp2
  go_loopw [12] (fun i wr => ∃ (k : Nat) (v' : Value) (s : SpS), k ≤ n ∧ i = .int .i64 k ∧ Hid (NextA w wr base g v most v' s ∧ sNext most (xs, st, long) bs = sNext most s (bs.drop k)))
    (fun i _ => n - (intOf i).toNat)
  case atStart =>
    obtain ⟨h, hr, ha, hlt⟩ := HS.out
    have hb : Below w.heap.size w (w.alloc (.cells #[.string ⟨#[]⟩, .bool false] 33)) := below_alloc (Below.refl _ _) _
    exact ⟨0, v, (xs, st, long), Nat.zero_le _, rfl, Lib.hid ⟨⟨⟨blk_alloc h.1 _, h.2.1, pw_own_below h.2.2 hb⟩, hl, blk_new _ _, Step.of_below hb (Nat.le_trans h.2.1 (Nat.le_of_lt (blk_lt h.1)))⟩, rfl⟩⟩
  case round =>
    obtain ⟨k, v', s, hk, rfl, HR⟩ := hrel
    obtain ⟨xs', st', long'⟩ := s
    by_cases hlt : k < n
    · have hcell : ∃ ad cc, A = some ad ∧ wr.cell? (ad.add k) = some (.int .u8 cc) ∧ bs.drop k = cc :: bs.drop (k + 1) := reads_at HS.out.2.1 (HR.out.1.2.2.2.reads HS.out.2.1 HS.out.2.2.1) k hlt
      obtain ⟨ad, cc, rfl, hcell, hdrop⟩ := hcell
      obtain ⟨c0, c1, c2, c3⟩ := HR.out.1.1.cells
      obtain ⟨f0, f1, f2, f3⟩ := HR.out.1.1.frozen
      have HD := Lib.hid hdrop
      clear hdrop
      by_cases e2 : st' = 2
      · subst e2
        by_cases e10 : cc = 10
        · subst e10
          obtain ⟨A', cp', rfl⟩ := HR.out.1.1.slice
          have hgl := blk_lt HR.out.1.1.1
          have hcv1 : (convert 27 9 (.slice A' xs'.length cp')).run Try.prog wr.drew = _ := own_string (P := Try.prog) Try.underlying27 Try.underlying5 Try.underlying9 (own_drew HR.out.1.1.2.2)
          have hcv2 : (convert 27 9 (.slice A' xs'.length cp')).run Try.prog (wr.alloc (.cells #[.string ⟨#[]⟩, .bool false] 33)).drew = _ := own_string (P := Try.prog) Try.underlying27 Try.underlying5 Try.underlying9 (own_drew (pw_own_below HR.out.1.1.2.2 (below_alloc (Below.refl _ _) (.cells #[.string ⟨#[]⟩, .bool false] 33))))
          go_wp2
          go_region
          all_goals
            clear hcv1 hcv2
            have HR' := Lib.hid (show IsSp (wr.alloc (Obj.cells #[Value.string (strOfNums xs'), Value.bool long'] 33)).drew base g (.slice A' xs'.length cp') most xs' 2 long' from ⟨blk_alloc HR.out.1.1.1 _, HR.out.1.1.2.1, own_drew (pw_own_below HR.out.1.1.2.2 (below_alloc (Below.refl _ _) _))⟩)
            have hg3 := Lib.hid (show (wr.alloc (Obj.cells #[Value.string (strOfNums xs'), Value.bool long'] 33)).drew.heap[wr.heap.size]? = _ from blk_new wr (Obj.cells #[Value.string (strOfNums xs'), Value.bool long'] 33))
            have hS2 := Lib.hid (HR.out.1.2.2.2.trans (Step.of_below (g := g) (v := .slice A' xs'.length cp') (show Below wr.heap.size wr (wr.alloc (Obj.cells #[Value.string (strOfNums xs'), Value.bool long'] 33)).drew from below_drew (below_alloc (Below.refl _ _) _)) (Nat.le_trans HR.out.1.1.2.1 (Nat.le_of_lt (blk_lt HR.out.1.1.1)))))
            have hw0 := Lib.hid (show (wr.alloc (Obj.cells #[Value.string (strOfNums xs'), Value.bool long'] 33)).drew.heap[w.heap.size]? = _ from blk_alloc HR.out.1.2.2.1 _)
            have hrd := Lib.hid (hS2.out.reads HS.out.2.1 HS.out.2.2.1)
            clear c0 c1 c2 c3 f0 f1 f2 f3 hcell
            generalize HW : (wr.alloc (Obj.cells #[Value.string (strOfNums xs'), Value.bool long'] 33)).drew = w2 at *
            go_upto_region 8 with (go_at_call 11; refine (reset_calls _ HR'.out).mono ?_; rintro e w3 ⟨rfl, hi3, hs3⟩; have HP := Lib.hid (And.intro hi3 hs3); clear hi3 hs3)
            have hg4 := blk_step hg3.out HP.out.2 HR'.out (by decide)
            have hw4 := blk_step hw0.out HP.out.2 HR'.out (by decide)
            have hrd4 := HP.out.2.reads hrd.out (hS2.out.away HS.out.2.2.1 HS.out.2.2.2)
            have hS4 := Lib.hid (hS2.out.trans HP.out.2)
            obtain ⟨A1, hcut, hA1⟩ := print_cut (P := Try.prog) 27 5 .i64 Try.underlying27 hinf5 hinf5s (some ad) n c (k + 1) (by omega)
            have hcut' : ∀ W : World, (Instr.slice 27 (.slice (some ad) n c) (some (.int .i64 ((k : Int) + 1))) none none).run Try.prog W = .ok (.slice A1 (n - (k + 1)) (c - (k + 1))) W := fun W => by simpa using hcut W
            obtain ⟨v4, w4, hap, hown4, hbel4⟩ := append_new w3 A1 (n - (k + 1)) (c - (k + 1)) (bs.drop (k + 1)) (hA1 _ _ _ hnc hrd4) (by omega)
            have q0 := (blk_cell hg4 0).trans rfl
            have q1 := (blk_cell hg4 1).trans rfl
            have q0'' := (blk_cell (blk_alloc hg4 (.cells #[] 5)) 0).trans rfl
            have q1'' := (blk_cell (blk_alloc hg4 (.cells #[] 5)) 1).trans rfl
            have q0' := (blk_cell (blk_below hg4 hbel4) 0).trans rfl
            have q1' := (blk_cell (blk_below hg4 hbel4) 1).trans rfl
            have hw5 := blk_below hw4 hbel4
            have r0 := (blk_cell hw5 0).trans rfl
            have r1 := (blk_cell hw5 1).trans rfl
            have z0 := blk_frozen hw5 0
            have z1 := blk_frozen hw5 1
            have HH := Lib.hid (And.intro hown4 (And.intro hbel4 hw5))
            have hk0 : 0 ≤ (k : Int) + 1 := by omega
            have hk1 : (k : Int) + 1 ≤ n := by omega
            clear hown4 hbel4 hw5 hg4 hw4 hrd4 hA1 hcut
            have hwk : IntKind.i64.wrap ((k : Int) + 1) = (k : Int) + 1 := IntWalk.i64_in _ (by omega)
            have Hap := Lib.hid hap
            clear hap
            go_region_law (refine step_append_run rfl (.tmp 37) (.tmp 41) 27 rfl _ _ (by simp [Act.eval, Act.put]) (by simp [Act.eval, Act.put]) Hap.out ?_)
            all_goals
              go_wp2
              rw [Exit.noGoto_ret]
              refine bodyPost_ret (v := .tuple #[.agg #[.string (strOfNums xs'), .bool long'], .bool true, v4]) (by simp [results, Try.results10, go_sem, r0, r1]) rfl ?_
              have hsn : sNext most (xs, st, long) bs = .line xs' long' (bs.drop (k + 1)) := by rw [HR.out.2, HD.out]; simp [sNext]
              rw [hsn]
              obtain ⟨hown4, hbel4, hw5⟩ := HH.out
              have hwb := Nat.le_trans HS.out.1.2.1 (Nat.le_of_lt (blk_lt HS.out.1.1))
              have hS5 := hS4.out.trans (Step.of_below (g := g) (v := .slice none 0 0) hbel4 (Nat.le_trans hwb hS4.out.keep.1))
              refine ⟨v4, rfl, ?_, ?_, ?_⟩
              · exact own_far (own_far (own_lower hown4 hS4.out.keep.1) hw5 (by decide) 0 _) (blk_set hw5 0 _) (by decide) 1 _
              · have hi := HP.out.1
                have hgn : g ≠ w.heap.size := Nat.ne_of_lt (blk_lt HS.out.1.1)
                exact ⟨blk_far (blk_far (blk_below hi.1 hbel4) hgn _) hgn _, hi.2.1, own_nil _ _ _ _⟩
              · exact (hS5.set_new (Nat.le_refl _) hwb _).set_new (Nat.le_refl _) hwb _
        · have b10 : (cc == 10) = false := beq_eq_false_iff_ne.2 e10
          have hstep := Lib.hid (sNext_step (most := most) (s := (xs', 2, long')) (c := cc) (r := bs.drop (k + 1)) (fun h => e10 h.2))
          clear e10
          by_cases e13 : cc = 13
          · subst e13
            clear b10
            go_wp2_with (go_at_call 12; refine (put_calls wr HR.out.1.1 hm HR.out.1.2.1 13).mono ?_; rintro e w1 ⟨rfl, v1, hi1, hs1⟩; have HA := Lib.hid (HR.out.1.put 13 hi1 hs1); have d2 := hi1.cells.2.2.1; have z2 := hi1.frozen.2.2.1; clear hi1 hs1 c0 c1 c2 c3 f0 f1 f2 f3 hcell)
            go_roundw
            case rel => exact ⟨k + 1, v1, _, by omega, by go_num, Lib.hid ⟨HA.out.cr, by rw [HR.out.2, HD.out, hstep.out]; simp [sStep, stepA, stepB]⟩⟩
            case measure => simp [intOf]; omega
          · have b13 : (cc == 13) = false := beq_eq_false_iff_ne.2 e13
            have hst2 := Lib.hid e13
            clear e13
            have tok1 : True := trivial
            go_wp2_with (first | (go_at_call 12; have _t := tok1; refine (put_calls wr HR.out.1.1 hm HR.out.1.2.1 13).mono ?_; rintro e w1 ⟨rfl, v1, hi1, hs1⟩; have HA := Lib.hid (HR.out.1.put 13 hi1 hs1); clear hi1 hs1 c0 c1 c2 c3 f0 f1 f2 f3 hcell tok1 _t) | (go_at_call 12; refine (put_calls _ HA.out.1 hm HA.out.2.1 cc).mono ?_; rintro e w2 ⟨rfl, v2, hi2, hs2⟩; have HB := Lib.hid (HA.out.put cc hi2 hs2); clear hi2 hs2))
            go_roundw
            case rel => exact ⟨k + 1, v2, _, by omega, by go_num, Lib.hid ⟨HB.out, by rw [HR.out.2, HD.out, hstep.out]; simp [sStep, stepA, stepB, hst2.out]⟩⟩
            case measure => simp [intOf]; omega
      · have b2 : (st' == 2) = false := beq_eq_false_iff_ne.2 e2
        have hstep := Lib.hid (sNext_step (most := most) (s := (xs', st', long')) (c := cc) (r := bs.drop (k + 1)) (fun h => e2 h.1))
        have hst1 := Lib.hid e2
        clear e2
        by_cases e13 : cc = 13
        · subst e13
          go_wp2
          go_roundw
          case rel => exact ⟨k + 1, v', _, by omega, by go_num, Lib.hid ⟨HR.out.1.cr, by rw [HR.out.2, HD.out, hstep.out]; simp [sStep, stepA, stepB, hst1.out]⟩⟩
          case measure => simp [intOf]; omega
        · have b13 : (cc == 13) = false := beq_eq_false_iff_ne.2 e13
          have hst2 := Lib.hid e13
          clear e13
          go_wp2_with (go_at_call 12; refine (put_calls wr HR.out.1.1 hm HR.out.1.2.1 cc).mono ?_; rintro e w1 ⟨rfl, v1, hi1, hs1⟩; have HA := Lib.hid (HR.out.1.put cc hi1 hs1); clear hi1 hs1 c0 c1 c2 c3 f0 f1 f2 f3 hcell)
          go_roundw
          case rel => exact ⟨k + 1, v1, _, by omega, by go_num, Lib.hid ⟨HA.out, by rw [HR.out.2, HD.out, hstep.out]; simp [sStep, stepA, stepB, hst1.out, hst2.out]⟩⟩
          case measure => simp [intOf]; omega
    · have hge : k = n := by omega
      subst hge
      have y0 := (blk_cell HR.out.1.2.2.1 0).trans rfl
      have y1 := (blk_cell HR.out.1.2.2.1 1).trans rfl
      have z0 := blk_frozen HR.out.1.2.2.1 0
      have z1 := blk_frozen HR.out.1.2.2.1 1
      go_wp2
      rw [Exit.noGoto_ret]
      refine bodyPost_ret (v := .tuple #[.agg #[.string ⟨#[]⟩, .bool false], .bool false, .slice none 0 0]) (by simp [results, Try.results10, go_sem, y0, y1]) rfl ?_
      have hsn : sNext most (xs, st, long) bs = .more (xs', st', long') := by
        rw [HR.out.2, List.drop_of_length_le (by rw [HS.out.2.1.1]; omega)]; rfl
      rw [hsn]
      have hwb := Nat.le_trans HS.out.1.2.1 (Nat.le_of_lt (blk_lt HS.out.1.1))
      have hgn : g ≠ w.heap.size := Nat.ne_of_lt (blk_lt HS.out.1.1)
      obtain ⟨hi, hl', hw5, hs5⟩ := HR.out.1
      refine ⟨rfl, v', ⟨blk_far (blk_far hi.1 hgn _) hgn _, hi.2.1, own_far (own_far hi.2.2 hw5 (by decide) 0 _) (blk_set hw5 0 _) (by decide) 1 _⟩, (hs5.set_new (Nat.le_refl _) hwb _).set_new (Nat.le_refl _) hwb _⟩
end Go.Proofs.Ytfpcngoonfbphaa
