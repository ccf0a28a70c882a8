/- Plain: lines, fields. -/
import Derived.Lib.IndexMore
import Derived.Lib.IndexBytes
namespace Go.Proofs.YtfpcngoonfbphaaDoor.Pl
set_option linter.unusedVariables false
set_option linter.unusedSimpArgs false

abbrev Bs := List UInt8
abbrev Fld := Bs × Bs
def okC (c : UInt8) : Bool := 33 ≤ c && c ≤ 126 && c != 58
def nameOk (l : Bs) : Bool := l.all okC && !l.isEmpty && decide (l.length ≤ 76)
def foldB (s : Bs) : Bool := match s with | c :: _ => c == 32 || c == 9 | [] => false
def addLast (out : List Fld) (s : Bs) : List Fld := match out.getLast? with | some p => out.dropLast ++ [(p.1, p.2 ++ (13 :: 10 :: s))] | none => out

theorem cut_room (s sep : Bs) (h : (Lib.cut s sep).2.2 = true) : (Lib.cut s sep).1.length + sep.length + (Lib.cut s sep).2.1.length = s.length ∧ s = (Lib.cut s sep).1 ++ sep ++ (Lib.cut s sep).2.1 := by
  unfold Lib.cut at h ⊢
  split at h
  · rename_i h0
    rw [if_pos h0]
    have hr := Lib.index_room s sep h0
    rcases Lib.index_spec s sep with ⟨e, _⟩ | ⟨i, e, hi, ho, _⟩
    · omega
    · rw [e] at hr ⊢
      simp only [Int.toNat_natCast]
      have hir : i + sep.length ≤ s.length := by omega
      refine ⟨by simp; omega, ?_⟩
      have hp : sep.isPrefixOf (s.drop i) = true := ho
      rw [List.isPrefixOf_iff_prefix] at hp
      obtain ⟨t, ht⟩ := hp
      have h1 : s = s.take i ++ s.drop i := (List.take_append_drop i s).symm
      have h2 : s.drop (i + sep.length) = t := by
        rw [← List.drop_drop, ← ht, List.drop_left]
      rw [h2, List.append_assoc, ht, List.take_append_drop]
  · cases h
theorem cut_none (s sep : Bs) (h : (Lib.cut s sep).2.2 = false) : Lib.cut s sep = (s, [], false) := by
  unfold Lib.cut at h ⊢
  split at h
  · cases h
  · rename_i h0
    rw [if_neg h0]

/-- What Split does, from some line on. -/
def splitGo : Nat → List Fld → Bs → List Fld × Bs
  | 0, out, rest => (out, rest)
  | F + 1, out, rest =>
    if rest = [] then (out, []) else
    if !out.isEmpty && foldB (Lib.cut rest [13, 10]).1 then splitGo F (addLast out (Lib.cut rest [13, 10]).1) (Lib.cut rest [13, 10]).2.1
    else if (Lib.cut (Lib.cut rest [13, 10]).1 [58]).2.2 && nameOk (Lib.cut (Lib.cut rest [13, 10]).1 [58]).1 then
      splitGo F (out ++ [((Lib.cut (Lib.cut rest [13, 10]).1 [58]).1, (Lib.cut (Lib.cut rest [13, 10]).1 [58]).2.1)]) (Lib.cut rest [13, 10]).2.1
    else if (Lib.cut rest [13, 10]).1 = [] then (out, (Lib.cut rest [13, 10]).2.1) else (out, rest)
theorem more_lt (rest : Bs) (h : rest ≠ []) : (Lib.cut rest [13, 10]).2.1.length < rest.length := by
  cases hc : (Lib.cut rest [13, 10]).2.2 with
  | true => have := (cut_room rest [13, 10] hc).1; simp at this; omega
  | false =>
    rw [cut_none _ _ hc]
    exact List.length_pos_iff.2 h
theorem more_le (rest : Bs) (h : rest ≠ []) : (Lib.cut rest [13, 10]).1.length + 2 + 3 * (Lib.cut rest [13, 10]).2.1.length ≤ 3 * rest.length := by
  cases hc : (Lib.cut rest [13, 10]).2.2 with
  | true => have := (cut_room rest [13, 10] hc).1; simp at this; omega
  | false =>
    rw [cut_none _ _ hc]
    have := List.length_pos_iff.2 h
    simp; omega
theorem cut_le (s sep : Bs) : (Lib.cut s sep).1.length ≤ s.length ∧ (Lib.cut s sep).2.1.length ≤ s.length := by
  cases hc : (Lib.cut s sep).2.2 with
  | true => have := (cut_room s sep hc).1; omega
  | false => rw [cut_none _ _ hc]; simp
/-- Values are not longer than what was taken. -/
def Fit (N : Nat) (out : List Fld) (rest : Bs) : Prop := ∀ p ∈ out, p.1.length ≤ N ∧ p.2.length + 3 * rest.length ≤ 3 * N
theorem Fit.fold {N : Nat} {out : List Fld} {rest : Bs} (h : Fit N out rest) (hr : rest ≠ []) : Fit N (addLast out (Lib.cut rest [13, 10]).1) (Lib.cut rest [13, 10]).2.1 := by
  have hm := more_le rest hr
  intro p hp
  unfold addLast at hp
  split at hp
  · rename_i q hq
    rcases List.mem_append.1 hp with hp | hp
    · have := h p (List.dropLast_subset _ hp)
      exact ⟨this.1, by omega⟩
    · simp only [List.mem_singleton] at hp
      subst hp
      have := h q (List.mem_of_getLast? hq)
      refine ⟨this.1, ?_⟩
      simp only [List.length_append, List.length_cons]
      omega
  · have := h p hp
    exact ⟨this.1, by omega⟩
theorem Fit.add {N : Nat} {out : List Fld} {rest : Bs} (h : Fit N out rest) (hr : rest ≠ []) (hl : rest.length ≤ N) : Fit N (out ++ [((Lib.cut (Lib.cut rest [13, 10]).1 [58]).1, (Lib.cut (Lib.cut rest [13, 10]).1 [58]).2.1)]) (Lib.cut rest [13, 10]).2.1 := by
  have hm := more_le rest hr
  intro p hp
  rcases List.mem_append.1 hp with hp | hp
  · have := h p hp
    exact ⟨this.1, by omega⟩
  · simp only [List.mem_singleton] at hp
    subst hp
    have := cut_le (Lib.cut rest [13, 10]).1 [58]
    have := cut_le rest [13, 10]
    exact ⟨by simp only; omega, by simp only; omega⟩
end Go.Proofs.YtfpcngoonfbphaaDoor.Pl
