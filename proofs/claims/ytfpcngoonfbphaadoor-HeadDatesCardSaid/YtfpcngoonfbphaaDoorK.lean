/- Rows of bytes: what is read, what is the call's own, what an append does. -/
import Derived.Test.YtfpcngoonfbphaaDoorProg
import Derived.Test.YtfpcngoonfbphaaDoorWWords
import Derived.Lib.Hide
import Derived.Lib.SlBytesConst
import Derived.RegionTactic
import Derived.ChangeAlike
import Derived.Deep.RegionHeld3
import Derived.Deep.RegionLaw
import Derived.Deep.DeepFit
import Derived.Outline
import Derived.IntWalk
import Derived.StillTailTactics
import Derived.WalkMore
import Derived.ScopeJumps
set_option linter.unusedVariables false
set_option linter.unusedSimpArgs false
namespace Go.Proofs.YtfpcngoonfbphaaDoor
open Go.RowKit Go.Proofs.YtfpcngoonfbphaaDoorW.PrintWords

/-! ### Rows of bytes of the call's own -/
def OwnB (W : World) (base : Nat) (v : Value) (xs : List Int) : Prop := W.ownsRow base 5 1 v xs.length (nums .u8 xs)
theorem infoB : (Tryd.prog.info? 5).map (fun i => (i.zero, i.size, i.bytes)) = some (some (.int .u8 0), 1, 1) := by kernel_rfl
theorem hinfB : Tryd.prog.info? 5 = some Tryd.t5 := by kernel_rfl
theorem hinfBs : Tryd.t5.size = 1 := by kernel_rfl
theorem own_drew {W : World} {base n : Nat} {e : TypeId} {size : Nat} {v : Value} {xs : List Value} (h : W.ownsRow base e size v n xs) : (W.drew).ownsRow base e size v n xs := h
theorem own_lower {W : World} {base base' n : Nat} {e : TypeId} {size : Nat} {v : Value} {xs : List Value} (h : W.ownsRow base e size v n xs) (hb : base' ≤ base) : W.ownsRow base' e size v n xs := by
  obtain ⟨h1, h2⟩ := h
  refine ⟨h1, ?_⟩
  rcases h2 with h2 | ⟨k, cap, cur, e, h3, h4⟩
  · exact .inl h2
  · exact .inr ⟨k, cap, cur, e, Nat.le_trans hb h3, h4⟩
theorem add_block (a : Addr) (j : Nat) : (a.add j).block = a.block := by
  unfold Addr.add; split <;> rfl
theorem own_ne_block {W : World} {base : Nat} {e : TypeId} {size n : Nat} {v : Value} {xs : List Value} (h : W.ownsRow base e size v n xs) {g : Nat} {cs : Array Value} {t : Nat} (hb : W.heap[g]? = some (.cells cs t (0, 0))) (ht : e ≠ t) : v.ownBlock ≠ some g := by
  intro hk
  obtain ⟨cells, hh⟩ := own_typed h g hk
  rw [hb] at hh
  injection hh with hh
  injection hh with _ h2
  exact ht h2.symm
theorem own_reads_all {W : World} {base : Nat} {v : Value} {xs : List Int} (h : OwnB W base v xs) :
    ∃ A c, v = .slice A xs.length c ∧ ReadsInt W .u8 A xs.length xs ∧ xs.length ≤ c ∧ ∀ a, A = some a → v.ownBlock = some a.block ∧ base ≤ a.block ∧ a.block < W.heap.size := by
  obtain ⟨A, c, e, hr⟩ := own_reads h
  refine ⟨A, c, e, hr, ?_, ?_⟩
  · rcases h.2 with ⟨e', h0⟩ | ⟨g, cap, cur, e', _, _, h1, _⟩
    · omega
    · rw [e] at e'
      injection e' with _ _ e3
      omega
  · rintro a rfl
    subst e
    exact ⟨rfl, own_base h _ rfl, own_lt h _ rfl⟩

/-! ### What is read -/
theorem reads_at {w : World} {A : Option Addr} {n : Nat} {bs : List Int} (h : ReadsInt w .u8 A n bs) (k : Nat) (hk : k < n) :
    ∃ ad cc, A = some ad ∧ w.cell? (ad.add k) = some (.int .u8 cc) ∧ bs.drop k = cc :: bs.drop (k + 1) := by
  obtain ⟨ad, e, hc⟩ := h.2.2 (by omega)
  refine ⟨ad, bs.getD k 0, e, hc k hk, ?_⟩
  have hl : k < bs.length := by rw [h.1]; exact hk
  rw [List.drop_eq_getElem_cons hl]
  simp [List.getD_eq_getElem?_getD, List.getElem?_eq_getElem hl]
theorem lit_reads (W : World) (xs : List Int) (fr : Nat × Nat) (hm : xs.length ≤ 9223372036854775807) : ReadsInt (W.alloc (.cells (nums .u8 xs).toArray 5 fr)) .u8 (some ⟨W.heap.size, 0, none⟩) xs.length xs := by
  refine ⟨rfl, hm, fun _ => ⟨_, rfl, fun j hj => ?_⟩⟩
  rw [add_plain]
  unfold World.cell?
  simp only [blk_new]
  simp [nums, List.getD_eq_getElem?_getD, List.getElem?_eq_getElem hj]
/-- A row of bytes that a call hands back: in new memory, to be read. -/
def SB (W : World) (base : Nat) (v : Value) (xs : List Int) : Prop :=
  ∃ A c, v = .slice A xs.length c ∧ ReadsInt W .u8 A xs.length xs ∧ xs.length ≤ c ∧ ∀ a, A = some a → base ≤ a.block
theorem SB.of_own {W : World} {base : Nat} {v : Value} {xs : List Int} (h : OwnB W base v xs) : SB W base v xs := by
  obtain ⟨A, c, e, hr, hc, hb⟩ := own_reads_all h
  exact ⟨A, c, e, hr, hc, fun a ha => (hb a ha).2.1⟩
theorem SB.nil (W : World) (base : Nat) : SB W base (.slice none 0 0) [] := ⟨none, 0, rfl, ⟨rfl, by decide, fun h => absurd h (by decide)⟩, Nat.le_refl _, fun a e => by cases e⟩
theorem SB.below {W W1 : World} {base : Nat} {v : Value} {xs : List Int} (h : SB W base v xs) (hb : Below W.heap.size W W1) : SB W1 base v xs := by
  obtain ⟨A, c, e, hr, hc, ha⟩ := h
  exact ⟨A, c, e, hr.below hb, hc, ha⟩
theorem SB.lower {W : World} {base base' : Nat} {v : Value} {xs : List Int} (h : SB W base v xs) (hb : base' ≤ base) : SB W base' v xs := by
  obtain ⟨A, c, e, hr, hc, ha⟩ := h
  exact ⟨A, c, e, hr, hc, fun a e => Nat.le_trans hb (ha a e)⟩

/-! ### append -/
theorem wpList_append_known {P : Program} {ops : Array Oper} {rest : List Oper} {o : Oper} {a : Act} {Q : Exit → Act → World → Prop} {W w1 : World} {v1 : Value} (hgd : o.guard = none) (s x : Operand) (t u : TypeId)
    (ho : o.op = .call { callee := .builtin .append, args := #[s, x], argTypes := #[t, u] }) (v y : Value) (hs : a.eval s = v) (hx : a.eval x = y)
    (hr : (Builtin.append_ #[t, u] o.type #[v, y]).run P W = .ok v1 w1) (h : wpList P ops Q rest (a.put o.dst v1) w1) : wpList P ops Q (o :: rest) a W := by
  refine wpList_plain hgd fun K hK => ?_
  unfold Oper.wp execOp
  simp only [ho, resolve, invoke, builtin, Sem.run_bind, Sem.run_pure, Result.andThen_ok, List.map_toArray, List.map_cons, List.map_nil, hs, hx, hr]
  exact hK _ _ h
theorem step_append_run {P : Program} {ops : Array Oper} {o : Oper} {a : Act} {w w1 : World} {K : Act → World → Prop} {Q : Exit → Act → World → Prop} {E : Prop} {v1 : Value}
    (hg : o.guard = none) (s x : Operand) (t u : TypeId) (hop : o.op = Op.call { callee := Callee.builtin Builtin.append, args := #[s, x], argTypes := #[t, u] })
    (v y : Value) (hs : a.eval s = v) (hx : a.eval x = y) (hrun : (Builtin.append_ #[t, u] o.type #[v, y]).run P w = .ok v1 w1)
    (hK : K (a.put o.dst v1) w1) : if Region.wanted o (yielded ops a.tmps) = true then Oper.wp P o a w K Q else E := by
  have hw : Region.wanted o (yielded ops a.tmps) = true := by simp [Region.wanted, hg]
  rw [if_pos hw]
  unfold Oper.wp
  simp [execOp, hop, resolve, invoke, builtin, hs, hx, hrun, Result.andThen]
  exact hK
/-- append(v, c). -/
theorem append1_run (W : World) (base : Nat) (v : Value) (xs : List Int) (c : Int) (HO : OwnB W base v xs) (hb : base ≤ W.heap.size) (hn : xs.length ≤ 100000000000) :
    ∃ v1 w1, (Builtin.append_ #[26, 26] 26 #[v, .slice (some ⟨W.heap.size, 0, none⟩) 1 1]).run Tryd.prog (W.alloc (.cells #[.int .u8 c] 5)) = .ok v1 w1 ∧ OwnB w1 base v1 (xs ++ [c]) ∧
      W.grownBy w1 v.ownBlock ∧ (v1.ownBlock = v.ownBlock ∨ ∃ b, v1.ownBlock = some b ∧ W.heap.size ≤ b) ∧ Below base W w1 := by
  obtain ⟨i0, hi, hzz⟩ := Option.map_eq_some_iff.1 infoB
  simp only [Prod.mk.injEq] at hzz
  obtain ⟨hz0, hz1, hz2⟩ := hzz
  have hA : Below W.heap.size W (W.alloc (.cells #[.int .u8 c] 5)) := below_alloc (Below.refl _ _) _
  have HO1 := pw_own_below HO hA
  have hnews : ∀ j u, ([.int .u8 c] : List Value)[j]? = some u → (W.alloc (.cells #[.int .u8 c] 5)).cell? ((⟨W.heap.size, 0, none⟩ : Addr).add j) = some u :=
    World.news_of_block (cs := #[.int .u8 c]) (t := 5) (fr := (0, 0)) (heap_alloc_new W _)
  obtain ⟨v1, w1, hrun, h2, h3, _, h5⟩ := run_append_own_at (P := Tryd.prog) (W.alloc (.cells #[.int .u8 c] 5)) base 26 26 5 i0 (.int .u8 0) 1 1 Tryd.underlying26 hi hz0 hz1 hz2 rfl (by omega) v xs.length (nums .u8 xs) HO1 ⟨W.heap.size, 0, none⟩ 1 1 [.int .u8 c] rfl hnews
    (by intro u hu; simp only [List.mem_singleton] at hu; subst hu; rfl) (by simp only [maxLen]; omega) (by omega) (Nat.le_trans hb hA.size)
  refine ⟨v1, w1, hrun, by unfold OwnB; simpa [nums] using h2, (World.grownBy_alloc W _ _).trans h3, ?_, ((Below.refl base W).alloc hb _).grown h3 (Nat.le_trans hb hA.size) (own_base HO)⟩
  rcases h5 with h5 | h5
  · exact .inl h5
  · exact .inr ⟨_, h5, by simp⟩
/-- append(v, s...), s a string. -/
theorem bytes_cells (s : ByteArray) : nums .u8 (bytesOf s) = Lib.strCells s := by simp [nums, bytesOf, Lib.strCells]
theorem appendS_run (W : World) (base : Nat) (v : Value) (xs : List Int) (s : ByteArray) (HO : OwnB W base v xs) (hb : base ≤ W.heap.size) (hn : xs.length + s.size ≤ 100000000000) :
    ∃ v1 w1, (Builtin.append_ #[26, 9] 26 #[v, .string s]).run Tryd.prog W = .ok v1 w1 ∧ OwnB w1 base v1 (xs ++ bytesOf s) ∧ W.grownBy w1 v.ownBlock ∧ Below base W w1 := by
  obtain ⟨i0, hi, hzz⟩ := Option.map_eq_some_iff.1 infoB
  simp only [Prod.mk.injEq] at hzz
  obtain ⟨hz0, hz1, hz2⟩ := hzz
  obtain ⟨v1, w1, hrun, h2, h3, h4⟩ := Lib.run_append_own_string (P := Tryd.prog) W base 26 9 26 5 i0 Tryd.underlying26 Tryd.underlying9 hi hz0 hz1 hz2 v xs.length (nums .u8 xs) HO s (by simp only [maxLen]; omega) (by omega) hb
  refine ⟨v1, w1, hrun, ?_, h3, (Below.refl base W).grown h3 hb (own_base HO)⟩
  unfold OwnB
  rw [nums_append, bytes_cells, List.length_append, bytesOf_length]
  exact h2
set_option maxRecDepth 100000 in
/-- append(v, ys...), ys a row that is read. -/
theorem appendR_run (W : World) (base : Nat) (v : Value) (xs : List Int) (A : Option Addr) (m c : Nat) (ys : List Int) (HO : OwnB W base v xs) (HR : ReadsInt W .u8 A m ys) (hb : base ≤ W.heap.size) (hn : xs.length + m ≤ 100000000000) :
    ∃ v1 w1, (Builtin.append_ #[26, 26] 26 #[v, .slice A m c]).run Tryd.prog W = .ok v1 w1 ∧ OwnB w1 base v1 (xs ++ ys) ∧ W.grownBy w1 v.ownBlock ∧ (v1.ownBlock = v.ownBlock ∨ ∃ b, v1.ownBlock = some b ∧ W.heap.size ≤ b) ∧ Below base W w1 := by
  obtain ⟨i0, hi, hzz⟩ := Option.map_eq_some_iff.1 infoB
  simp only [Prod.mk.injEq] at hzz
  obtain ⟨hz0, hz1, hz2⟩ := hzz
  have hm1 := HR.1
  rcases A with _ | ad
  · have h0 : m = 0 := by
      rcases Nat.eq_zero_or_pos m with h0 | h0
      · exact h0
      · obtain ⟨ad, h, _⟩ := HR.2.2 h0
        cases h
    subst h0
    obtain rfl : ys = [] := List.eq_nil_of_length_eq_zero HR.1
    refine ⟨v, W, ?_, by simpa using HO, World.grownBy.refl W _, .inl rfl, Below.refl _ _⟩
    clear hn
    rcases HO.2 with ⟨rfl, hn⟩ | ⟨g, cap, cur, rfl, _, _, hnc, _⟩
    · simp [Builtin.append_, run_underlying Tryd.underlying26, sizeOf, typeInfo, hi, Builtin.lenOf, Builtin.firstCells]
    · simp [Builtin.append_, run_underlying Tryd.underlying26, sizeOf, typeInfo, hi, Builtin.lenOf, Builtin.firstCells, hnc, storeCells]
  · have hcells : ∀ j u, (nums .u8 ys)[j]? = some u → W.cell? (ad.add j) = some u := by
      intro j u hu
      have hj : j < ys.length := by
        rcases Nat.lt_or_ge j ys.length with h | h
        · exact h
        · simp [nums, List.getElem?_eq_none h] at hu
      obtain ⟨ad', h', hc⟩ := HR.2.2 (by omega)
      injection h' with h'
      subst h'
      have := hc j (by omega)
      simp [nums, List.getElem?_eq_getElem hj] at hu
      subst hu
      rw [this]
      simp [List.getD_eq_getElem?_getD, List.getElem?_eq_getElem hj]
    obtain ⟨v1, w1, hrun, h2, h3, _, h5⟩ := run_append_own_at (P := Tryd.prog) W base 26 26 5 i0 (.int .u8 0) 1 1 Tryd.underlying26 hi hz0 hz1 hz2 rfl (by omega) v xs.length (nums .u8 xs) HO ad m c (nums .u8 ys) (by simp [nums, hm1]) hcells
      (by intro u hu; simp only [nums, List.mem_map] at hu; obtain ⟨q, _, rfl⟩ := hu; rfl) (by simp only [maxLen]; omega) (by omega) hb
    refine ⟨v1, w1, hrun, by unfold OwnB; simpa [nums, hm1] using h2, h3, ?_, (Below.refl base W).grown h3 hb (own_base HO)⟩
    rcases h5 with h5 | h5
    · exact .inl h5
    · exact .inr ⟨_, h5, Nat.le_refl _⟩
/-- The empty row '[]byte{}'. -/
theorem own_empty (W : World) (base : Nat) (hb : base ≤ W.heap.size) : OwnB (W.alloc (.cells #[] 5)) base (.slice (some ⟨W.heap.size, 0, none⟩) 0 0) [] := by
  have h := World.ownsRow_lit (base := base) (e := 5) (size := 1) W #[] 0 hb (by simp [maxLen]) (by simp)
  have h' : (W.alloc (.cells #[] 5)).ownsRow base 5 1 (.slice (some ⟨W.heap.size, 0, none⟩) 0 0) 0 [] := by simpa using h
  exact h'
theorem ret_int {k : IntKind} {a b : Int} (h : a = b) : Ending.returned (.int k a) = .returned (.int k b) := by rw [h]
theorem ret_bool {a b : Bool} (h : a = b) : Ending.returned (.bool a) = .returned (.bool b) := by rw [h]
theorem ret_str {a b : ByteArray} (h : a = b) : Ending.returned (.string a) = .returned (.string b) := by rw [h]
end Go.Proofs.YtfpcngoonfbphaaDoor
