/- LineBounds: appends to a row that lives on. -/
import Derived.Test.YtfpcngoonfbphaaKnown
set_option linter.unusedVariables false
set_option linter.unusedSimpArgs false
namespace Go.Proofs.Ytfpcngoonfbphaa
open Go.RowKit Go.Proofs.YtfpcngoonfbphaaW.PrintWords

/-- append outside a region that draws, its run being known. -/
theorem wpList_append_known {P : Program} {ops : Array Oper} {rest : List Oper} {o : Oper} {a : Act} {Q : Exit → Act → World → Prop} {W w1 : World} {v1 : Value} (hgd : o.guard = none) (s x : Operand) (t u : TypeId)
    (ho : o.op = .call { callee := .builtin .append, args := #[s, x], argTypes := #[t, u] }) (v y : Value) (hs : a.eval s = v) (hx : a.eval x = y)
    (hr : (Builtin.append_ #[t, u] o.type #[v, y]).run P W = .ok v1 w1) (h : wpList P ops Q rest (a.put o.dst v1) w1) : wpList P ops Q (o :: rest) a W := by
  refine wpList_plain hgd fun K hK => ?_
  unfold Oper.wp execOp
  simp only [ho, resolve, invoke, builtin, Sem.run_bind, Sem.run_pure, Result.andThen_ok, List.map_toArray, List.map_cons, List.map_nil, hs, hx, hr]
  exact hK _ _ h

theorem own_prefix {W : World} {base g m cap : Nat} {xs ys : List Int} (h : OwnB W base (.slice (some ⟨g, 0, none⟩) m cap) (xs ++ ys)) : OwnB W base (.slice (some ⟨g, 0, none⟩) xs.length cap) xs := by
  obtain ⟨h1, h2⟩ := h
  rcases h2 with ⟨e, _⟩ | ⟨k, cp, cur, e, h3, h4, h5, h6, h7, h8⟩
  · cases e
  · injection e with e1 e2 e3
    injection e1 with e1
    injection e1 with e1
    subst e1 e3
    refine ⟨by simp [nums], .inr ⟨_, _, cur, rfl, h3, h4, by simp at h5; omega, h6, h7, ?_⟩⟩
    have := congrArg (List.take xs.length) h8
    rw [List.take_take] at this
    simp [nums] at this ⊢
    exact this

theorem append1_run (W : World) (base : Nat) (v : Value) (xs : List Int) (c : Int) (HO : OwnB W base v xs) (hb : base ≤ W.heap.size) (hn : xs.length ≤ 100000) :
    ∃ v1 w1, (Builtin.append_ #[27, 27] 27 #[v, .slice (some ⟨W.heap.size, 0, none⟩) 1 1]).run Try.prog (W.alloc (.cells #[.int .u8 c] 5)) = .ok v1 w1 ∧ OwnB w1 base v1 (xs ++ [c]) ∧ OwnB w1 base v xs ∧
      W.grownBy w1 v.ownBlock ∧ ((∃ g cap, v = .slice (some ⟨g, 0, none⟩) xs.length cap ∧ v1 = .slice (some ⟨g, 0, none⟩) (xs ++ [c]).length cap) ∨ ∃ b, v1.ownBlock = some b ∧ W.heap.size ≤ b) ∧ Below base W w1 := by
  obtain ⟨i0, hi, hzz⟩ := Option.map_eq_some_iff.1 info5
  simp only [Prod.mk.injEq] at hzz
  obtain ⟨hz0, hz1, hz2⟩ := hzz
  have hA : Below W.heap.size W (W.alloc (.cells #[.int .u8 c] 5)) := below_alloc (Below.refl _ _) _
  have HO1 := pw_own_below HO hA
  have hnews : ∀ j u, ([.int .u8 c] : List Value)[j]? = some u → (W.alloc (.cells #[.int .u8 c] 5)).cell? ((⟨W.heap.size, 0, none⟩ : Addr).add j) = some u :=
    World.news_of_block (cs := #[.int .u8 c]) (t := 5) (fr := (0, 0)) (heap_alloc_new W _)
  obtain ⟨v1, w1, hrun, h2, h3, _, h5⟩ := run_append_own_at (P := Try.prog) (W.alloc (.cells #[.int .u8 c] 5)) base 27 27 5 i0 (.int .u8 0) 1 1 Try.underlying27 hi hz0 hz1 hz2 rfl (by omega) v xs.length (nums .u8 xs) HO1 ⟨W.heap.size, 0, none⟩ 1 1 [.int .u8 c] rfl hnews
    (by intro u hu; simp only [List.mem_singleton] at hu; subst hu; rfl) (by simp only [maxLen]; omega) (by omega) (Nat.le_trans hb hA.size)
  have how : OwnB w1 base v1 (xs ++ [c]) := by unfold OwnB; simpa [nums] using h2
  have hgr : W.grownBy w1 v.ownBlock := (World.grownBy_alloc W _ _).trans h3
  have hB := ((Below.refl base W).alloc hb (.cells #[.int .u8 c] 5)).grown h3 (Nat.le_trans hb hA.size) (own_base HO)
  rcases HO1.2 with ⟨rfl, e0⟩ | ⟨g, cap, cur, rfl, k3, k4, k5, k6, k7, k8⟩
  · have : xs = [] := List.eq_nil_of_length_eq_zero e0
    subst this
    refine ⟨v1, w1, hrun, how, own_nil _ _ _ _, hgr, .inr ?_, hB⟩
    rcases h5 with h5 | h5
    · obtain ⟨g, cap, e, _⟩ := World.ownsRow.form how (by simp)
      rw [e] at h5
      simp [Value.ownBlock] at h5
    · exact ⟨_, h5, by simp⟩
  · by_cases hroom : xs.length + 1 ≤ cap
    · have hr := run_append_room (P := Try.prog) (W.alloc (.cells #[.int .u8 c] 5)) 27 27 5 i0 Try.underlying27 hi g xs.length cap cur k4 ⟨W.heap.size, 0, none⟩ 1 1 [.int .u8 c] (by rw [hz1]; rfl) hnews (by intro u hu; simp only [List.mem_singleton] at hu; subst hu; rfl) hroom (by rw [hz1]; simp at k7 ⊢; omega)
      have hr2 := hr.symm.trans hrun
      injection hr2 with e1 e2
      subst e1
      exact ⟨_, w1, hrun, how, own_prefix how, hgr, .inl ⟨g, cap, rfl, by simp⟩, hB⟩
    · have hr := run_append_grow (P := Try.prog) (W.alloc (.cells #[.int .u8 c] 5)) 27 27 5 i0 (.int .u8 0) Try.underlying27 hi hz0 ⟨g, 0, none⟩ xs.length cap (nums .u8 xs) (by rw [hz1]; simp [nums]) (HO1.cells (g := g) rfl) ⟨W.heap.size, 0, none⟩ 1 1 [.int .u8 c] (by rw [hz1]; rfl) hnews (by omega) (by omega) (by rw [hz2]; exact growslice_fits (by omega) (by omega))
      have hr2 := hr.symm.trans hrun
      injection hr2 with e1 e2
      subst e1 e2
      exact ⟨_, _, hrun, how, pw_own_below (own_drew HO1) (below_alloc (Below.refl _ _) _), hgr, .inr ⟨_, rfl, by simp⟩, hB⟩

theorem bytes_cells (s : ByteArray) : nums .u8 (bytesOf s) = Lib.strCells s := by simp [nums, bytesOf, Lib.strCells]
theorem appendS_run (W : World) (base : Nat) (v : Value) (xs : List Int) (s : ByteArray) (HO : OwnB W base v xs) (hb : base ≤ W.heap.size) (hn : xs.length ≤ 100000) (hs : s.size ≤ 100000) :
    ∃ v1 w1, (Builtin.append_ #[27, 9] 27 #[v, .string s]).run Try.prog W = .ok v1 w1 ∧ OwnB w1 base v1 (xs ++ bytesOf s) ∧ OwnB w1 base v xs ∧ W.grownBy w1 v.ownBlock ∧ Below base W w1 ∧ (0 < xs.length → v1.ownBlock = v.ownBlock ∨ ∃ b, v1.ownBlock = some b ∧ W.heap.size ≤ b) := by
  obtain ⟨i0, hi, hzz⟩ := Option.map_eq_some_iff.1 info5
  simp only [Prod.mk.injEq] at hzz
  obtain ⟨hz0, hz1, hz2⟩ := hzz
  obtain ⟨v1, w1, hrun, h2, h3, h4⟩ := Lib.run_append_own_string (P := Try.prog) W base 27 9 27 5 i0 Try.underlying27 Try.underlying9 hi hz0 hz1 hz2 v xs.length (nums .u8 xs) HO s (by simp only [maxLen]; omega) (by omega) hb
  have how : OwnB w1 base v1 (xs ++ bytesOf s) := by
    unfold OwnB
    rw [nums_append, bytes_cells, List.length_append, bytesOf_length]
    exact h2
  have hB := (Below.refl base W).grown h3 hb (own_base HO)
  rcases HO.2 with ⟨rfl, e0⟩ | ⟨g, cap, cur, rfl, k3, k4, k5, k6, k7, k8⟩
  · have : xs = [] := List.eq_nil_of_length_eq_zero e0
    subst this
    exact ⟨v1, w1, hrun, how, own_nil _ _ _ _, h3, hB, fun h => by simp at h⟩
  · by_cases hroom : xs.length + s.size ≤ cap
    · have hr := Lib.run_append_room_string (P := Try.prog) W 27 9 27 5 i0 Try.underlying27 Try.underlying9 hi hz1 g xs.length cap cur k4 s hroom (by simp at k7; omega)
      have hr2 := hr.symm.trans hrun
      injection hr2 with e1 e2
      subst e1
      exact ⟨_, w1, hrun, how, own_prefix (ys := bytesOf s) how, h3, hB, fun _ => .inl rfl⟩
    · have hr := Lib.run_append_grow_string (P := Try.prog) W 27 9 27 5 i0 (.int .u8 0) Try.underlying27 Try.underlying9 hi hz0 ⟨g, 0, none⟩ xs.length cap (nums .u8 xs) (by rw [hz1]; simp [nums]) (HO.cells (g := g) rfl) s (by omega) (by omega) (by rw [hz2]; exact growslice_fits (by omega) (by omega))
      have hr2 := hr.symm.trans hrun
      injection hr2 with e1 e2
      subst e1 e2
      exact ⟨_, _, hrun, how, pw_own_below (own_drew HO) (below_alloc (Below.refl _ _) _), h3, hB, fun _ => .inr ⟨_, rfl, by simp⟩⟩
end Go.Proofs.Ytfpcngoonfbphaa
