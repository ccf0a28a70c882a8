/- What YtfpcngoonfbphaaDoorRJ needs, in one text: RW, P1, PL, Sh, Sh2, XHx0, K, H1, H2, H3, Shelf, H4, H8, H9, P2, H5, H6, H7, KN, H10, H11, E1, XHx4, XHx5. -/
import Derived.Test.YtfpcngoonfbphaaDoorRows
import Derived.Test.YtfpcngoonfbphaaDoorProg
import Derived.ProofKit
import Derived.OpenShut
import Derived.LaidMore
import Derived.Lay
import Derived.LaidOnce
import Derived.LaidLaws
import Derived.HandedShaped
import Derived.MakeChecks
import Derived.Lib.IndexMore
import Derived.Lib.IndexBytes
import Derived.Test.YtfpcngoonfbphaaDoorWWords
import Derived.Test.YtfpcngoonfbphaaDoorWLast
import Derived.Test.YtfpcngoonfbphaaDoorWShare
import Derived.Test.YtfpcngoonfbphaaDoorWN
import Derived.Test.YtfpcngoonfbphaaDoorWNEv
import Derived.Test.YtfpcngoonfbphaaDoorWMore
import Derived.Lib.ConvBytes
import Derived.Below
import Derived.Deep.Draws
import Derived.Deep.AppendLies
import Derived.Maps.AppendAt
import Derived.OwnWalk
import Derived.Laws.BytesArg
import Derived.Laws.MakeOwn
import Derived.Laws.OwnMore
import Derived.Deep.OwnRows
import Derived.Tactics
import Derived.Laws.Slices
import Derived.WalkKit
import Derived.KernelRfl
import Derived.RowKit3
import Derived.Deep.LoopGhost
import Derived.Deep.QuietTactic
import Derived.BigQuiet
import Derived.WideLaws
import Derived.Deep.DeepCutAuto
import Derived.Deep.CutBlock
import Derived.Deep.RegionHeld3
import Derived.Laws.Rows
import Derived.Lib.AppendStr
import Derived.ArgAppend
import Derived.Laws.IdiomCopy
import Derived.OrdersHeld
import Derived.Laws.BitsLemmas
import Derived.RowKit
import Derived.Test.YtfpcngoonfbphaaDoorWTab
import Derived.Test.YtfpcngoonfbphaaDoorWFour
import Derived.Test.YtfpcngoonfbphaaDoorWQPut
import Derived.Test.YtfpcngoonfbphaaDoorWApart
import Derived.Test.YtfpcngoonfbphaaDoorWArr
import Derived.Test.YtfpcngoonfbphaaDoorWZeros
import Derived.Test.YtfpcngoonfbphaaDoorWFoot
import Derived.Test.YtfpcngoonfbphaaDoorWKept
import Derived.Test.YtfpcngoonfbphaaDoorWFootNe
import Derived.Test.YtfpcngoonfbphaaDoorWAt
import Derived.Test.YtfpcngoonfbphaaDoorWEqStruct
import Derived.Test.YtfpcngoonfbphaaDoorWRepsOne
import Derived.Test.YtfpcngoonfbphaaDoorWInv
import Derived.Test.YtfpcngoonfbphaaDoorWInvWords
import Derived.Test.YtfpcngoonfbphaaDoorWGuard
import Derived.Lib.Hide
import Derived.Lib.SlBytesConst
import Derived.RegionTactic
import Derived.ChangeAlike
import Derived.Deep.RegionLaw
import Derived.Deep.DeepFit
import Derived.Outline
import Derived.IntWalk
import Derived.StillTailTactics
import Derived.WalkMore
import Derived.ScopeJumps
import Derived.WalkSpells
import Derived.Shelf.Small.Strs
import Derived.Shelf.Utf8.RuneCount
import Derived.Shelf.Strconv.Atoi
import Derived.Shelf.Strconv.Itoa0
import Derived.Shelf.Strconv.Itoa1
import Derived.Shelf.LaysM
import Derived.Shelf.Strconv.Itoa2
import Derived.Shelf.Strconv.Itoa3
import Derived.Shelf.Strconv.AtoiErrFast
import Derived.Shelf.Strconv.ParseIntEmpty
import Derived.Shelf.Strconv.AtoiFail
import Derived.Shelf.Strconv.Clone
import Derived.Shelf.Strconv.SyntaxError
import Derived.Shelf.LaysC
import Derived.Shelf.Strconv.ToError
import Derived.Shelf.Strconv.AtoiErr
import Derived.Shelf.Strconv.ErrVar
import Derived.Shelf.Strconv.Lower
import Derived.Shelf.Strconv.ParseUint10
import Derived.Shelf.Strconv.ParseUint10Empty
import Derived.Shelf.Strconv.ParseUint10Any
import Derived.Shelf.Strconv.ParseInt10
import Derived.Shelf.Strconv.AtoiLong
import Derived.Shelf.Strconv.AtoiInnerAll
import Derived.Shelf.Strconv.RangeError
import Derived.Shelf.Strconv.ToErrorRange
import Derived.Shelf.Strconv.AtoiAll
import Derived.Shelf.Strconv.ErrVarAll
import Derived.Shelf.Strconv.ParseUintEmpty
import Derived.Shelf.Strconv.ParseUint10b64
import Derived.Shelf.Strconv.ParseUint10b32
import Derived.Shelf.Strconv.ParseUint10b16
import Derived.Shelf.Strconv.ParseUint10b8
import Derived.Shelf.Strconv.ParseUint10At
import Derived.Shelf.Strconv.ParseInt10At64
import Derived.Shelf.Strconv.ParseInt10At32
import Derived.Shelf.Strconv.ParseInt10At16
import Derived.Shelf.Strconv.ParseInt10At8
import Derived.Shelf.Strconv.ParseInt10All
import Derived.Shelf.Strings.Search1
import Derived.Shelf.Strings.Search2
import Derived.Shelf.Strings.Search3
import Derived.Shelf.Strings.Cut
import Derived.Shelf.Strings.Count
import Derived.Shelf.Strings.Shaped
import Derived.Shelf.Strings.Split
import Derived.Shelf.Strings.SplitShaped
import Derived.Shelf.Unicode.Decode
import Derived.Shelf.Strings.RuneCount
import Derived.Shelf.Strings.Explode
import Derived.Shelf.Unicode.DecodeSlow
import Derived.Shelf.Unicode.DecodeAny
import Derived.Shelf.Bytes.SlSearch0
import Derived.Shelf.Bytes.SlSmallAll
import Derived.Shelf.Bytes.SlEqualAll
import Derived.Shelf.Bytes.Small
/- A wrap of rows that list laid variables, the world's shape kept. -/
set_option linter.unusedVariables false
namespace Go
variable {H : Type} {enc : TypeId × Value → H}
theorem wrapLaidShaped {a : Assume} {C : Checked} {os : Os} {f : FuncId} {fn : Func} {s : ChangeSpec} {conds : List PathCond} {apart fresh handsOn again : Bool} {X : World → Array Value → Prop}
    (hX : ∀ (w w' : World) (args : Array Value), w.heap = w'.heap → X w args → X w' args)
    (own : ownKnob C.prog.godebug = none) (started : os.Started) (noInit : C.prog.inits.idxOf? f = none) (hfn : C.prog.funcs[f]? = some fn)
    (witness : ∃ (w : World) (tape : Tape) (i : Input), w.os = os ∧ (w.forCall tape i).Shaped C.prog ∧ i.vars = [] ∧ Input.okWide C.prog (w.forCall tape i) .any w.heap.size f i ∧
      ((s.pre enc C.prog fn conds apart (w.forCall tape i).memory i.args ∧ X (w.forCall tape i).memory i.args) ∧ sizedMet enc C.prog fn (OpenSpec.ofChange s) apart (w.forCall tape i).memory i.args) ∧ a.holds C.prog (lone (Frame.enter C.prog f i.args .normal) [] (w.forCall tape i)))
    (contract : ∀ (W : World) (base : Nat) (args : Array Value) (ds gs : List (DataW H)) (before : List MemPlace),
      (∀ (j : Nat) t v, fn.params[j]? = some t → args[j]? = some v → Value.okWide C.prog W .any base t v) →
      DataW.Whole enc C.prog fn.params.toList s.vars apart W args.toList ds gs before →
      W.ShapedOpen C.prog →
      Calls C.prog f args W fun e W' => ∃ v, e = .returned v ∧ s.post enc C.prog fn apart fresh handsOn again W args v W') :
    ReturnsInHanded a C os f .any (fun w args => (s.pre enc C.prog fn conds apart w args ∧ X w args) ∧ sizedMet enc C.prog fn (OpenSpec.ofChange s) apart w args) (s.post enc C.prog fn apart fresh handsOn again) := by
  refine returnsInHanded_of_calls own started noInit witness ?_
  intro w tape i _ hsh _ hok hpre hholds
  obtain ⟨_, _, _, fn', hfn', _, _, _, _, hval⟩ := hok
  have e : fn' = fn := Option.some.inj (hfn'.symm.trans hfn)
  subst e
  obtain ⟨⟨⟨ds, gs, before, hw, hc⟩, hx⟩, hz⟩ := hpre
  have hw' := DataW.Whole.of_heap (w' := w.forCall tape i) (by rfl) hw
  refine (contract (w.forCall tape i) w.heap.size i.args ds gs before hval hw' hsh).mono fun e W' ⟨v, he, hp⟩ => ?_
  subst he
  exact ChangeSpec.post_blind hp
end Go

/- Plain: lines, fields. -/
namespace Go.Proofs.YtfpcngoonfbphaaDoor.Pl
set_option linter.unusedVariables false
set_option linter.unusedSimpArgs false

abbrev Bs := List UInt8
abbrev Fld := Bs × Bs
def okC (c : UInt8) : Bool := 33 ≤ c && c ≤ 126 && c != 58
def nameOk (l : Bs) : Bool := l.all okC && !l.isEmpty && decide (l.length ≤ 76)
def foldB (s : Bs) : Bool := match s with | c :: _ => c == 32 || c == 9 | [] => false
def addLast (out : List Fld) (s : Bs) : List Fld := match out.getLast? with | some p => out.dropLast ++ [(p.1, p.2 ++ (13 :: 10 :: s))] | none => out

theorem cut_room (s sep : Bs) (h : (Lib.cut s sep).2.2 = true) : (Lib.cut s sep).1.length + sep.length + (Lib.cut s sep).2.1.length = s.length ∧ s = (Lib.cut s sep).1 ++ sep ++ (Lib.cut s sep).2.1 := by
  unfold Lib.cut at h ⊢
  split at h
  · rename_i h0
    rw [if_pos h0]
    have hr := Lib.index_room s sep h0
    rcases Lib.index_spec s sep with ⟨e, _⟩ | ⟨i, e, hi, ho, _⟩
    · omega
    · rw [e] at hr ⊢
      simp only [Int.toNat_natCast]
      have hir : i + sep.length ≤ s.length := by omega
      refine ⟨by simp; omega, ?_⟩
      have hp : sep.isPrefixOf (s.drop i) = true := ho
      rw [List.isPrefixOf_iff_prefix] at hp
      obtain ⟨t, ht⟩ := hp
      have h1 : s = s.take i ++ s.drop i := (List.take_append_drop i s).symm
      have h2 : s.drop (i + sep.length) = t := by
        rw [← List.drop_drop, ← ht, List.drop_left]
      rw [h2, List.append_assoc, ht, List.take_append_drop]
  · cases h
theorem cut_none (s sep : Bs) (h : (Lib.cut s sep).2.2 = false) : Lib.cut s sep = (s, [], false) := by
  unfold Lib.cut at h ⊢
  split at h
  · cases h
  · rename_i h0
    rw [if_neg h0]

/-- What Split does, from some line on. -/
def splitGo : Nat → List Fld → Bs → List Fld × Bs
  | 0, out, rest => (out, rest)
  | F + 1, out, rest =>
    if rest = [] then (out, []) else
    if !out.isEmpty && foldB (Lib.cut rest [13, 10]).1 then splitGo F (addLast out (Lib.cut rest [13, 10]).1) (Lib.cut rest [13, 10]).2.1
    else if (Lib.cut (Lib.cut rest [13, 10]).1 [58]).2.2 && nameOk (Lib.cut (Lib.cut rest [13, 10]).1 [58]).1 then
      splitGo F (out ++ [((Lib.cut (Lib.cut rest [13, 10]).1 [58]).1, (Lib.cut (Lib.cut rest [13, 10]).1 [58]).2.1)]) (Lib.cut rest [13, 10]).2.1
    else if (Lib.cut rest [13, 10]).1 = [] then (out, (Lib.cut rest [13, 10]).2.1) else (out, rest)
theorem more_lt (rest : Bs) (h : rest ≠ []) : (Lib.cut rest [13, 10]).2.1.length < rest.length := by
  cases hc : (Lib.cut rest [13, 10]).2.2 with
  | true => have := (cut_room rest [13, 10] hc).1; simp at this; omega
  | false =>
    rw [cut_none _ _ hc]
    exact List.length_pos_iff.2 h
theorem more_le (rest : Bs) (h : rest ≠ []) : (Lib.cut rest [13, 10]).1.length + 2 + 3 * (Lib.cut rest [13, 10]).2.1.length ≤ 3 * rest.length := by
  cases hc : (Lib.cut rest [13, 10]).2.2 with
  | true => have := (cut_room rest [13, 10] hc).1; simp at this; omega
  | false =>
    rw [cut_none _ _ hc]
    have := List.length_pos_iff.2 h
    simp; omega
theorem cut_le (s sep : Bs) : (Lib.cut s sep).1.length ≤ s.length ∧ (Lib.cut s sep).2.1.length ≤ s.length := by
  cases hc : (Lib.cut s sep).2.2 with
  | true => have := (cut_room s sep hc).1; omega
  | false => rw [cut_none _ _ hc]; simp
/-- Values are not longer than what was taken. -/
def Fit (N : Nat) (out : List Fld) (rest : Bs) : Prop := ∀ p ∈ out, p.1.length ≤ N ∧ p.2.length + 3 * rest.length ≤ 3 * N
theorem Fit.fold {N : Nat} {out : List Fld} {rest : Bs} (h : Fit N out rest) (hr : rest ≠ []) : Fit N (addLast out (Lib.cut rest [13, 10]).1) (Lib.cut rest [13, 10]).2.1 := by
  have hm := more_le rest hr
  intro p hp
  unfold addLast at hp
  split at hp
  · rename_i q hq
    rcases List.mem_append.1 hp with hp | hp
    · have := h p (List.dropLast_subset _ hp)
      exact ⟨this.1, by omega⟩
    · simp only [List.mem_singleton] at hp
      subst hp
      have := h q (List.mem_of_getLast? hq)
      refine ⟨this.1, ?_⟩
      simp only [List.length_append, List.length_cons]
      omega
  · have := h p hp
    exact ⟨this.1, by omega⟩
theorem Fit.add {N : Nat} {out : List Fld} {rest : Bs} (h : Fit N out rest) (hr : rest ≠ []) (hl : rest.length ≤ N) : Fit N (out ++ [((Lib.cut (Lib.cut rest [13, 10]).1 [58]).1, (Lib.cut (Lib.cut rest [13, 10]).1 [58]).2.1)]) (Lib.cut rest [13, 10]).2.1 := by
  have hm := more_le rest hr
  intro p hp
  rcases List.mem_append.1 hp with hp | hp
  · have := h p hp
    exact ⟨this.1, by omega⟩
  · simp only [List.mem_singleton] at hp
    subst hp
    have := cut_le (Lib.cut rest [13, 10]).1 [58]
    have := cut_le rest [13, 10]
    exact ⟨by simp only; omega, by simp only; omega⟩
end Go.Proofs.YtfpcngoonfbphaaDoor.Pl

/- Plain: a text's lines; what Split says of them. -/
namespace Go.Proofs.YtfpcngoonfbphaaDoor.Pl
set_option linter.unusedVariables false
set_option linter.unusedSimpArgs false

theorem cut_hit (b : UInt8) (l sub : Bs) (h : sub.isPrefixOf (b :: l) = true) : Lib.cut (b :: l) sub = ([], (b :: l).drop sub.length, true) := by
  have e : Lib.index (b :: l) sub = 0 := by unfold Lib.index; rw [if_pos h]
  unfold Lib.cut
  rw [if_pos (by omega), e]
  simp
theorem cut_miss (b : UInt8) (l sub : Bs) (h : sub.isPrefixOf (b :: l) = false) : Lib.cut (b :: l) sub = (b :: (Lib.cut l sub).1, (Lib.cut l sub).2.1, (Lib.cut l sub).2.2) := by
  rcases Lib.index_spec l sub with ⟨h1, _⟩ | ⟨i, h1, _, _, _⟩
  · have e : Lib.index (b :: l) sub = -1 := by unfold Lib.index; rw [h, h1]; rfl
    unfold Lib.cut
    rw [e, h1]
    rfl
  · have e : Lib.index (b :: l) sub = (i : Int) + 1 := by
      unfold Lib.index
      rw [h, h1]
      have : ((i : Int) == -1) = false := by rw [beq_eq_false_iff_ne]; omega
      simp [this]
    unfold Lib.cut
    rw [e, h1, if_pos (by omega), if_pos (by omega)]
    have e1 : ((i : Int) + 1).toNat = i + 1 := by omega
    rw [e1, Int.toNat_natCast, show i + 1 + sub.length = (i + sub.length) + 1 from by omega]
    rfl
theorem cut_nil (sub : Bs) (h : sub ≠ []) : Lib.cut [] sub = ([], [], false) := by
  cases sub with
  | nil => exact absurd rfl h
  | cons a t => rfl

/-- No CR LF inside. -/
def noNL : Bs → Bool
  | [] => true
  | c :: t => !(c == 13 && t.head? == some 10) && noNL t
theorem noNL_tail {c : UInt8} {t : Bs} (h : noNL (c :: t) = true) : noNL t = true := by
  unfold noNL at h
  simp only [Bool.and_eq_true] at h
  exact h.2
theorem pre2 (a b : UInt8) (c : UInt8) (t : Bs) : [a, b].isPrefixOf (c :: t) = (a == c && t.head? == some b) := by
  cases t with
  | nil => simp [List.isPrefixOf]
  | cons d t =>
    have e : ((some d : Option UInt8) == some b) = (b == d) := by
      rw [Bool.eq_iff_iff]; simp only [beq_iff_eq, Option.some.injEq]; exact eq_comm
    simp [List.isPrefixOf, e]
theorem cut_line (l rest : Bs) (h : noNL l = true) : Lib.cut (l ++ 13 :: 10 :: rest) [13, 10] = (l, rest, true) := by
  induction l with
  | nil => rw [List.nil_append, cut_hit _ _ _ (by simp [List.isPrefixOf])]; rfl
  | cons c t ih =>
    have hm : [(13 : UInt8), 10].isPrefixOf (c :: (t ++ 13 :: 10 :: rest)) = false := by
      rw [pre2]
      unfold noNL at h
      simp only [Bool.and_eq_true, Bool.not_eq_true', Bool.and_eq_false_iff] at h
      rcases h.1 with h1 | h1
      · rw [show ((13 : UInt8) == c) = false from by rw [beq_eq_false_iff_ne] at h1 ⊢; exact fun e => h1 e.symm]; rfl
      · cases t with
        | nil => simp
        | cons d t => simp only [List.cons_append, List.head?_cons] at h1 ⊢; rw [h1]; simp
    rw [List.cons_append, cut_miss _ _ _ hm, ih (noNL_tail h)]
/-- Lines, each with CR LF behind. -/
def joinL (ls : List Bs) : Bs := ls.flatMap fun l => l ++ [13, 10]
theorem joinL_cons (l : Bs) (ls : List Bs) : joinL (l :: ls) = l ++ 13 :: 10 :: joinL ls := by simp [joinL]
theorem joinL_nil : joinL [] = [] := rfl
theorem joinL_append (a b : List Bs) : joinL (a ++ b) = joinL a ++ joinL b := by simp [joinL]
theorem noNL_before : ∀ (l : Bs) (rest : Bs), (Lib.cut (l ++ rest) [13, 10]).1 = l → noNL l = true := by
  intro l
  induction l with
  | nil => intro _ _; rfl
  | cons c t ih =>
    intro rest h
    rw [List.cons_append] at h
    cases hp : [(13 : UInt8), 10].isPrefixOf (c :: (t ++ rest)) with
    | true => rw [cut_hit _ _ _ hp] at h; cases h
    | false =>
      rw [cut_miss _ _ _ hp] at h
      injection h with _ h
      have h2 := ih rest h
      unfold noNL
      rw [h2, Bool.and_true]
      rw [pre2] at hp
      cases t with
      | nil => simp
      | cons d t =>
        simp only [List.cons_append, List.head?_cons] at hp ⊢
        rw [Bool.not_eq_true']
        rw [show (c == 13) = ((13 : UInt8) == c) from by rw [Bool.eq_iff_iff]; simp only [beq_iff_eq]; exact eq_comm]
        exact hp
/-- A text that is empty or ends with CR LF is its lines. -/
theorem lines_of : ∀ (n : Nat) (w : Bs), w.length ≤ n → (w = [] ∨ [13, 10] <:+ w) → ∃ ls, w = joinL ls ∧ ∀ l ∈ ls, noNL l = true := by
  intro n
  induction n with
  | zero =>
    intro w hl _
    exact ⟨[], List.eq_nil_of_length_eq_zero (by omega), by simp⟩
  | succ n ih =>
    intro w hl hw
    rcases hw with rfl | hw
    · exact ⟨[], rfl, by simp⟩
    · obtain ⟨t, rfl⟩ := hw
      have hf : (Lib.cut (t ++ [13, 10]) [13, 10]).2.2 = true := by
        clear hl
        induction t with
        | nil => rw [List.nil_append, cut_hit _ _ _ (by decide)]
        | cons c t iht =>
          rw [List.cons_append]
          cases hp : [(13 : UInt8), 10].isPrefixOf (c :: (t ++ [13, 10])) with
          | true => rw [cut_hit _ _ _ hp]
          | false => rw [cut_miss _ _ _ hp]; exact iht
      obtain ⟨h1, h2⟩ := cut_room _ _ hf
      generalize hc : Lib.cut (t ++ [13, 10]) [13, 10] = cc at h1 h2 hf
      obtain ⟨l, rest, fnd⟩ := cc
      simp only at h1 h2 hf
      have hno : noNL l = true := noNL_before l ([13, 10] ++ rest) (by rw [← List.append_assoc, ← h2, hc])
      have hrest : rest = [] ∨ [13, 10] <:+ rest := by
        rcases Nat.lt_or_ge rest.length 2 with h3 | h3
        · cases rest with
          | nil => exact .inl rfl
          | cons c u =>
            exfalso
            have hu : u = [] := List.eq_nil_of_length_eq_zero (by simp at h3; omega)
            subst hu
            have e2 : t ++ [13] ++ [10] = l ++ [13, 10] ++ [c] := by simpa using h2
            obtain ⟨e3, _⟩ := List.append_inj' e2 rfl
            have e4 : t ++ [(13 : UInt8)] = (l ++ [13]) ++ [10] := by simpa using e3
            obtain ⟨_, e5⟩ := List.append_inj' e4 rfl
            exact absurd e5 (by decide)
        · right
          have hs : [13, 10] <:+ l ++ [13, 10] ++ rest := by rw [← h2]; exact List.suffix_append _ _
          have hr : rest <:+ l ++ [13, 10] ++ rest := List.suffix_append _ _
          exact List.suffix_of_suffix_length_le hs hr (by simpa using h3)
      obtain ⟨ls, e, hls⟩ := ih rest (by simp only [List.length_cons, List.length_nil, List.length_append] at h1 hl; omega) hrest
      refine ⟨l :: ls, ?_, ?_⟩
      · rw [joinL_cons, ← e, h2]; simp
      · intro x hx
        rcases List.mem_cons.1 hx with rfl | hx
        · exact hno
        · exact hls x hx

/-- What Split says of lines. -/
def splitL : List Fld → List Bs → List Fld × Bs
  | out, [] => (out, [])
  | out, l :: ls =>
    if !out.isEmpty && foldB l then splitL (addLast out l) ls
    else if (Lib.cut l [58]).2.2 && nameOk (Lib.cut l [58]).1 then splitL (out ++ [((Lib.cut l [58]).1, (Lib.cut l [58]).2.1)]) ls
    else if l = [] then (out, joinL ls) else (out, joinL (l :: ls))
theorem splitGo_joinL (ls : List Bs) : ∀ (F : Nat) (out : List Fld), (∀ l ∈ ls, noNL l = true) → (joinL ls).length < F → splitGo F out (joinL ls) = splitL out ls := by
  induction ls with
  | nil =>
    intro F out _ hF
    obtain ⟨F, rfl⟩ : ∃ F', F = F' + 1 := ⟨F - 1, by omega⟩
    rfl
  | cons l ls ih =>
    intro F out hn hF
    obtain ⟨F, rfl⟩ : ∃ F', F = F' + 1 := ⟨F - 1, by omega⟩
    have hc : Lib.cut (joinL (l :: ls)) [13, 10] = (l, joinL ls, true) := by rw [joinL_cons]; exact cut_line l _ (hn l List.mem_cons_self)
    have hne : joinL (l :: ls) ≠ [] := by rw [joinL_cons]; simp
    have hlen : (joinL ls).length < F := by rw [joinL_cons] at hF; simp only [List.length_append, List.length_cons] at hF; omega
    have ih' := fun out => ih F out (fun x hx => hn x (List.mem_cons_of_mem _ hx)) hlen
    rw [splitGo, if_neg hne, hc, splitL]
    simp only [ih']
end Go.Proofs.YtfpcngoonfbphaaDoor.Pl

/- The world's shape carried along; '[]byte(s)' of a string as a row that is only read. -/
set_option linter.unusedVariables false
namespace Go.Proofs.YtfpcngoonfbphaaDoor
open Go.RowKit Go.Proofs.YtfpcngoonfbphaaDoorW.PrintWords

theorem shaped_below {B : Nat} {w w' : World} (h : w.ShapedOpen Tryd.prog) (hb : Below B w w') (hB : w.heap.size ≤ B) : w'.ShapedOpen Tryd.prog :=
  World.ShapedOpen.keptBut (may := fun _ => False) h (Below.frame ⟨hb.os, hb.tape, hb.output, hb.size, fun k hk => hb.block k (Nat.lt_of_lt_of_le hk hB)⟩ _) (fun _ hf => hf.elim)
/-- A block's cells are the same: what is read in it is the same. -/
theorem reads_move {W W' : World} {k : IntKind} {g n : Nat} {xs : List Int} (h : ReadsInt W k (some ⟨g, 0, none⟩) n xs) (hm : W'.heap[g]? = W.heap[g]?) : ReadsInt W' k (some ⟨g, 0, none⟩) n xs := by
  refine ⟨h.1, h.2.1, fun h0 => ?_⟩
  obtain ⟨ad, e, hc⟩ := h.2.2 h0
  refine ⟨ad, e, fun j hj => ?_⟩
  injection e with e
  subst e
  rw [← hc j hj, add_plain]
  unfold World.cell?
  simp only [hm]
theorem conv_V (W : World) (e : TypeId) (s : ByteArray) (hs : s.size ≤ 9223372036854775807) : Kd.V (Kd.int .u8) e (Lib.bytesWorld W e s) W.heap.size (fun k_ => (W.heap.size ≤ k_)) (.slice (some ⟨W.heap.size, 0, none⟩) s.size (grownCap W s.size 0 e)) (bytesOf s) := by
  have hl := bytesOf_length s
  refine ⟨some ⟨W.heap.size, 0, none⟩, grownCap W s.size 0 e, by rw [hl], by rw [hl]; exact grownCap_ge W s.size 0 _, fun W' hk => ?_⟩
  rw [hl]
  refine Kd.C_of_reads (d := (0 : Int)) (h1 := fun _ => rfl) (reads_move (bytes_reads W e s hs) (hk W.heap.size (Nat.le_refl _) (by rw [Lib.bytesWorld_size]; omega)))
theorem V_conv {P : Program} {ops : Array Oper} {rest : List Oper} {o : Oper} {a : Act} {Q : Exit → Act → World → Prop} {W : World} (hgd : o.guard = none) {N : Tmp} (_hN : o.dst = some N) (t1 t2 e : TypeId) (x : Operand) (ho : o.op = .convert t1 t2 x) (s : ByteArray) (hx : a.eval x = .string s)
    (u1 : P.underlying t1 = some .string) (u2 : P.underlying t2 = some (.slice e)) (u3 : P.underlying e = some (.int .u8)) (hs : s.size ≤ 9223372036854775807)
    (h : ∀ v1 w1, Kd.V (Kd.int .u8) e w1 W.heap.size (fun k_ => (W.heap.size ≤ k_)) v1 (bytesOf s) → Below W.heap.size W w1 → wpList P ops Q rest (a.put o.dst v1) w1) : wpList P ops Q (o :: rest) a W := by
  refine Kd.event_run hgd ?_ (h _ _ (conv_V W e s hs) (bytes_below (Below.refl _ _) (Nat.le_refl _) e s))
  have hr := Lib.run_convert_string_bytes (P := P) W t1 t2 e s u1 u2 u3
  simp [execOp, ho, hx, hr]
end Go.Proofs.YtfpcngoonfbphaaDoor

/- Small facts that the printed walks use. -/
set_option linter.unusedVariables false
namespace Go.Proofs.YtfpcngoonfbphaaDoor
theorem add_blk (a : Addr) (j : Nat) : (a.add j).block = a.block := by
  unfold Addr.add; split <;> rfl
end Go.Proofs.YtfpcngoonfbphaaDoor

/- Contracts of Go functions: for each function a Lean function with its answers, and the proof that the Go code comes to these. Written by wip/px.py of this session, upon the kit's printer. -/
namespace Go.Proofs.YtfpcngoonfbphaaDoor.XH
open Go.RowKit Go.Proofs.YtfpcngoonfbphaaDoorW.PrintWords Go.Proofs.YtfpcngoonfbphaaDoorW.PrintLast Go.Proofs.YtfpcngoonfbphaaDoorW.PrintMore
attribute [local go_sem] max2_int min2_int max_two min_two max_three min_three max_four min_four   -- for this text's walks alone
set_option linter.unusedVariables false
set_option linter.unusedSimpArgs false



def errW : Option Int → Value
  | none => .nilIface
  | some c => .iface 0 (.int .i64 c)
theorem errW_none : errW none = .nilIface := rfl
theorem errW_some (c : Int) : errW (some c) = .iface 0 (.int .i64 c) := rfl

theorem info5 : (Tryd.prog.info? 5).map (fun i => (i.zero, i.size, i.bytes)) = some (some (.int .u8 0), 1, 1) := by kernel_rfl
theorem info9 : (Tryd.prog.info? 9).map (fun i => (i.zero, i.size, i.bytes)) = some (some (.string ⟨#[]⟩), 1, 16) := by kernel_rfl
theorem info34 : (Tryd.prog.info? 34).map (fun i => (i.zero, i.size, i.bytes)) = some (some (.agg #[(.string ⟨#[]⟩), (.string ⟨#[]⟩)]), 2, 32) := by kernel_rfl
theorem info68 : (Tryd.prog.info? 68).map (fun i => (i.zero, i.size, i.bytes)) = some (some (.agg #[(.string ⟨#[]⟩), (.string ⟨#[]⟩)]), 2, 32) := by kernel_rfl
-- the values' own types
def rd_L3 (xs : List (List Int)) (i : Int) : (List Int) := xs.getD i.toNat ([] : List Int)
theorem at_L3 {w : World} {A : Option Addr} {n : Nat} {xs : List (List Int)} (h : Kd.C (Kd.slice 5 (Kd.int .u8)) w A n xs) (i : Int) (h0 : 0 ≤ i) (h1 : i < n) : ∃ ad A0 c0, A = some ad ∧ w.cell? (ad.add i.toNat) = some (.slice A0 (rd_L3 xs i).length c0) ∧ (rd_L3 xs i).length ≤ c0 ∧ (Kd.int .u8).C w A0 (rd_L3 xs i).length (rd_L3 xs i) := by
  obtain ⟨ad, c, e, _, hK, hc0⟩ := Kd.C_get h ([] : List Int) i h0 h1
  have hc : ∀ j u, c[j]? = some u → w.cell? (ad.add (i.toNat * 1 + j)) = some u := hc0
  obtain ⟨A0, c0, rfl, l0, g0⟩ := hK
  exact ⟨ad, A0, c0, e, by have hq := hc 0 _ rfl; rwa [Nat.mul_one, Nat.add_zero] at hq, l0, g0⟩

/-! #### struct type 34 -/
structure S34 where
  f0 : ByteArray
  f1 : ByteArray
def z34 : S34 := ⟨(⟨#[]⟩ : ByteArray), (⟨#[]⟩ : ByteArray)⟩
def k34 : Kd S34 := Kd.iso (Kd.pair Kd.string Kd.string) (fun x : S34 => (x.f0, x.f1))
theorem k34_open {w : World} {x : S34} {cs : List Value} (h : k34.K w x cs) : cs = [.string x.f0, .string x.f1] := by
  obtain ⟨_, _, rfl, rfl, rfl⟩ := h
  exact rfl
theorem k34_openM {w : World} {base : Nat} {ok : Nat → Prop} {x : S34} {cs : List Value} (h : k34.M w base ok x cs) : cs = [.string x.f0, .string x.f1] := by
  obtain ⟨_, _, rfl, rfl, rfl⟩ := h
  exact rfl
theorem k34_mk (w : World) (x : S34)  : k34.K w x [.string x.f0, .string x.f1] := ⟨[.string x.f0], [.string x.f1], rfl, rfl, rfl⟩
theorem k34_mkM (w : World) (base : Nat) (ok : Nat → Prop) (x : S34)  : k34.M w base ok x [.string x.f0, .string x.f1] := ⟨[.string x.f0], [.string x.f1], rfl, rfl, rfl⟩
theorem k34_mkF (W : World) (ok : Nat → Prop) (x : S34) : Kd.FK k34 W ok x [.string x.f0, .string x.f1] := fun W2 _ => k34_mk W2 x
def rd_T34 (xs : List S34) (i : Int) : S34 := xs.getD i.toNat z34
theorem at_T34 {w : World} {A : Option Addr} {n : Nat} {xs : List S34} (h : Kd.C k34 w A n xs) (i : Int) (h0 : 0 ≤ i) (h1 : i < n) : ∃ ad , A = some ad ∧ w.cell? (ad.add (i.toNat * 2)) = some (.string (rd_T34 xs i).f0) ∧ w.cell? ⟨(ad.add (i.toNat * 2)).block, (ad.add (i.toNat * 2)).off + 1, none⟩ = some (.string (rd_T34 xs i).f1) := by
  obtain ⟨ad, c, e, _, hK, hc0⟩ := Kd.C_get h z34 i h0 h1
  have hc : ∀ j u, c[j]? = some u → w.cell? (ad.add (i.toNat * 2 + j)) = some u := hc0
  obtain rfl := k34_open hK
  exact ⟨ad, e, hc 0 _ rfl, by rw [← add_field _ _ 1 (by omega)]; exact hc 1 _ rfl⟩

def rd_L5 (xs : List (List S34)) (i : Int) : (List S34) := xs.getD i.toNat ([] : List S34)
theorem at_L5 {w : World} {A : Option Addr} {n : Nat} {xs : List (List S34)} (h : Kd.C (Kd.slice 34 k34) w A n xs) (i : Int) (h0 : 0 ≤ i) (h1 : i < n) : ∃ ad A0 c0, A = some ad ∧ w.cell? (ad.add i.toNat) = some (.slice A0 (rd_L5 xs i).length c0) ∧ (rd_L5 xs i).length ≤ c0 ∧ k34.C w A0 (rd_L5 xs i).length (rd_L5 xs i) := by
  obtain ⟨ad, c, e, _, hK, hc0⟩ := Kd.C_get h ([] : List S34) i h0 h1
  have hc : ∀ j u, c[j]? = some u → w.cell? (ad.add (i.toNat * 1 + j)) = some u := hc0
  obtain ⟨A0, c0, rfl, l0, g0⟩ := hK
  exact ⟨ad, A0, c0, e, by have hq := hc 0 _ rfl; rwa [Nat.mul_one, Nat.add_zero] at hq, l0, g0⟩

/-! #### struct type 68 -/
structure S68 where
  f0 : ByteArray
  f1 : ByteArray
def z68 : S68 := ⟨(⟨#[]⟩ : ByteArray), (⟨#[]⟩ : ByteArray)⟩
def k68 : Kd S68 := Kd.iso (Kd.pair Kd.string Kd.string) (fun x : S68 => (x.f0, x.f1))
theorem k68_open {w : World} {x : S68} {cs : List Value} (h : k68.K w x cs) : cs = [.string x.f0, .string x.f1] := by
  obtain ⟨_, _, rfl, rfl, rfl⟩ := h
  exact rfl
theorem k68_openM {w : World} {base : Nat} {ok : Nat → Prop} {x : S68} {cs : List Value} (h : k68.M w base ok x cs) : cs = [.string x.f0, .string x.f1] := by
  obtain ⟨_, _, rfl, rfl, rfl⟩ := h
  exact rfl
theorem k68_mk (w : World) (x : S68)  : k68.K w x [.string x.f0, .string x.f1] := ⟨[.string x.f0], [.string x.f1], rfl, rfl, rfl⟩
theorem k68_mkM (w : World) (base : Nat) (ok : Nat → Prop) (x : S68)  : k68.M w base ok x [.string x.f0, .string x.f1] := ⟨[.string x.f0], [.string x.f1], rfl, rfl, rfl⟩
theorem k68_mkF (W : World) (ok : Nat → Prop) (x : S68) : Kd.FK k68 W ok x [.string x.f0, .string x.f1] := fun W2 _ => k68_mk W2 x
def rd_T68 (xs : List S68) (i : Int) : S68 := xs.getD i.toNat z68
theorem at_T68 {w : World} {A : Option Addr} {n : Nat} {xs : List S68} (h : Kd.C k68 w A n xs) (i : Int) (h0 : 0 ≤ i) (h1 : i < n) : ∃ ad , A = some ad ∧ w.cell? (ad.add (i.toNat * 2)) = some (.string (rd_T68 xs i).f0) ∧ w.cell? ⟨(ad.add (i.toNat * 2)).block, (ad.add (i.toNat * 2)).off + 1, none⟩ = some (.string (rd_T68 xs i).f1) := by
  obtain ⟨ad, c, e, _, hK, hc0⟩ := Kd.C_get h z68 i h0 h1
  have hc : ∀ j u, c[j]? = some u → w.cell? (ad.add (i.toNat * 2 + j)) = some u := hc0
  obtain rfl := k68_open hK
  exact ⟨ad, e, hc 0 _ rfl, by rw [← add_field _ _ 1 (by omega)]; exact hc 1 _ rfl⟩

def rd_L7 (xs : List (List S68)) (i : Int) : (List S68) := xs.getD i.toNat ([] : List S68)
theorem at_L7 {w : World} {A : Option Addr} {n : Nat} {xs : List (List S68)} (h : Kd.C (Kd.slice 68 k68) w A n xs) (i : Int) (h0 : 0 ≤ i) (h1 : i < n) : ∃ ad A0 c0, A = some ad ∧ w.cell? (ad.add i.toNat) = some (.slice A0 (rd_L7 xs i).length c0) ∧ (rd_L7 xs i).length ≤ c0 ∧ k68.C w A0 (rd_L7 xs i).length (rd_L7 xs i) := by
  obtain ⟨ad, c, e, _, hK, hc0⟩ := Kd.C_get h ([] : List S68) i h0 h1
  have hc : ∀ j u, c[j]? = some u → w.cell? (ad.add (i.toNat * 1 + j)) = some u := hc0
  obtain ⟨A0, c0, rfl, l0, g0⟩ := hK
  exact ⟨ad, A0, c0, e, by have hq := hc 0 _ rfl; rwa [Nat.mul_one, Nat.add_zero] at hq, l0, g0⟩

end Go.Proofs.YtfpcngoonfbphaaDoor.XH

/- Rows of bytes: what is read, what is the call's own, what an append does. -/
set_option linter.unusedVariables false
set_option linter.unusedSimpArgs false
namespace Go.Proofs.YtfpcngoonfbphaaDoor
open Go.RowKit Go.Proofs.YtfpcngoonfbphaaDoorW.PrintWords

/-! ### Rows of bytes of the call's own -/
def OwnB (W : World) (base : Nat) (v : Value) (xs : List Int) : Prop := W.ownsRow base 5 1 v xs.length (nums .u8 xs)
theorem infoB : (Tryd.prog.info? 5).map (fun i => (i.zero, i.size, i.bytes)) = some (some (.int .u8 0), 1, 1) := by kernel_rfl
theorem hinfB : Tryd.prog.info? 5 = some Tryd.t5 := by kernel_rfl
theorem hinfBs : Tryd.t5.size = 1 := by kernel_rfl
theorem own_drew {W : World} {base n : Nat} {e : TypeId} {size : Nat} {v : Value} {xs : List Value} (h : W.ownsRow base e size v n xs) : (W.drew).ownsRow base e size v n xs := h
theorem own_lower {W : World} {base base' n : Nat} {e : TypeId} {size : Nat} {v : Value} {xs : List Value} (h : W.ownsRow base e size v n xs) (hb : base' ≤ base) : W.ownsRow base' e size v n xs := by
  obtain ⟨h1, h2⟩ := h
  refine ⟨h1, ?_⟩
  rcases h2 with h2 | ⟨k, cap, cur, e, h3, h4⟩
  · exact .inl h2
  · exact .inr ⟨k, cap, cur, e, Nat.le_trans hb h3, h4⟩
theorem add_block (a : Addr) (j : Nat) : (a.add j).block = a.block := by
  unfold Addr.add; split <;> rfl
theorem own_ne_block {W : World} {base : Nat} {e : TypeId} {size n : Nat} {v : Value} {xs : List Value} (h : W.ownsRow base e size v n xs) {g : Nat} {cs : Array Value} {t : Nat} (hb : W.heap[g]? = some (.cells cs t (0, 0))) (ht : e ≠ t) : v.ownBlock ≠ some g := by
  intro hk
  obtain ⟨cells, hh⟩ := own_typed h g hk
  rw [hb] at hh
  injection hh with hh
  injection hh with _ h2
  exact ht h2.symm
theorem own_reads_all {W : World} {base : Nat} {v : Value} {xs : List Int} (h : OwnB W base v xs) :
    ∃ A c, v = .slice A xs.length c ∧ ReadsInt W .u8 A xs.length xs ∧ xs.length ≤ c ∧ ∀ a, A = some a → v.ownBlock = some a.block ∧ base ≤ a.block ∧ a.block < W.heap.size := by
  obtain ⟨A, c, e, hr⟩ := own_reads h
  refine ⟨A, c, e, hr, ?_, ?_⟩
  · rcases h.2 with ⟨e', h0⟩ | ⟨g, cap, cur, e', _, _, h1, _⟩
    · omega
    · rw [e] at e'
      injection e' with _ _ e3
      omega
  · rintro a rfl
    subst e
    exact ⟨rfl, own_base h _ rfl, own_lt h _ rfl⟩

/-! ### What is read -/
theorem reads_at {w : World} {A : Option Addr} {n : Nat} {bs : List Int} (h : ReadsInt w .u8 A n bs) (k : Nat) (hk : k < n) :
    ∃ ad cc, A = some ad ∧ w.cell? (ad.add k) = some (.int .u8 cc) ∧ bs.drop k = cc :: bs.drop (k + 1) := by
  obtain ⟨ad, e, hc⟩ := h.2.2 (by omega)
  refine ⟨ad, bs.getD k 0, e, hc k hk, ?_⟩
  have hl : k < bs.length := by rw [h.1]; exact hk
  rw [List.drop_eq_getElem_cons hl]
  simp [List.getD_eq_getElem?_getD, List.getElem?_eq_getElem hl]
theorem lit_reads (W : World) (xs : List Int) (fr : Nat × Nat) (hm : xs.length ≤ 9223372036854775807) : ReadsInt (W.alloc (.cells (nums .u8 xs).toArray 5 fr)) .u8 (some ⟨W.heap.size, 0, none⟩) xs.length xs := by
  refine ⟨rfl, hm, fun _ => ⟨_, rfl, fun j hj => ?_⟩⟩
  rw [add_plain]
  unfold World.cell?
  simp only [blk_new]
  simp [nums, List.getD_eq_getElem?_getD, List.getElem?_eq_getElem hj]
/-- A row of bytes that a call hands back: in new memory, to be read. -/
def SB (W : World) (base : Nat) (v : Value) (xs : List Int) : Prop :=
  ∃ A c, v = .slice A xs.length c ∧ ReadsInt W .u8 A xs.length xs ∧ xs.length ≤ c ∧ ∀ a, A = some a → base ≤ a.block
theorem SB.of_own {W : World} {base : Nat} {v : Value} {xs : List Int} (h : OwnB W base v xs) : SB W base v xs := by
  obtain ⟨A, c, e, hr, hc, hb⟩ := own_reads_all h
  exact ⟨A, c, e, hr, hc, fun a ha => (hb a ha).2.1⟩
theorem SB.nil (W : World) (base : Nat) : SB W base (.slice none 0 0) [] := ⟨none, 0, rfl, ⟨rfl, by decide, fun h => absurd h (by decide)⟩, Nat.le_refl _, fun a e => by cases e⟩
theorem SB.below {W W1 : World} {base : Nat} {v : Value} {xs : List Int} (h : SB W base v xs) (hb : Below W.heap.size W W1) : SB W1 base v xs := by
  obtain ⟨A, c, e, hr, hc, ha⟩ := h
  exact ⟨A, c, e, hr.below hb, hc, ha⟩
theorem SB.lower {W : World} {base base' : Nat} {v : Value} {xs : List Int} (h : SB W base v xs) (hb : base' ≤ base) : SB W base' v xs := by
  obtain ⟨A, c, e, hr, hc, ha⟩ := h
  exact ⟨A, c, e, hr, hc, fun a e => Nat.le_trans hb (ha a e)⟩

/-! ### append -/
theorem wpList_append_known {P : Program} {ops : Array Oper} {rest : List Oper} {o : Oper} {a : Act} {Q : Exit → Act → World → Prop} {W w1 : World} {v1 : Value} (hgd : o.guard = none) (s x : Operand) (t u : TypeId)
    (ho : o.op = .call { callee := .builtin .append, args := #[s, x], argTypes := #[t, u] }) (v y : Value) (hs : a.eval s = v) (hx : a.eval x = y)
    (hr : (Builtin.append_ #[t, u] o.type #[v, y]).run P W = .ok v1 w1) (h : wpList P ops Q rest (a.put o.dst v1) w1) : wpList P ops Q (o :: rest) a W := by
  refine wpList_plain hgd fun K hK => ?_
  unfold Oper.wp execOp
  simp only [ho, resolve, invoke, builtin, Sem.run_bind, Sem.run_pure, Result.andThen_ok, List.map_toArray, List.map_cons, List.map_nil, hs, hx, hr]
  exact hK _ _ h
theorem step_append_run {P : Program} {ops : Array Oper} {o : Oper} {a : Act} {w w1 : World} {K : Act → World → Prop} {Q : Exit → Act → World → Prop} {E : Prop} {v1 : Value}
    (hg : o.guard = none) (s x : Operand) (t u : TypeId) (hop : o.op = Op.call { callee := Callee.builtin Builtin.append, args := #[s, x], argTypes := #[t, u] })
    (v y : Value) (hs : a.eval s = v) (hx : a.eval x = y) (hrun : (Builtin.append_ #[t, u] o.type #[v, y]).run P w = .ok v1 w1)
    (hK : K (a.put o.dst v1) w1) : if Region.wanted o (yielded ops a.tmps) = true then Oper.wp P o a w K Q else E := by
  have hw : Region.wanted o (yielded ops a.tmps) = true := by simp [Region.wanted, hg]
  rw [if_pos hw]
  unfold Oper.wp
  simp [execOp, hop, resolve, invoke, builtin, hs, hx, hrun, Result.andThen]
  exact hK
/-- append(v, c). -/
theorem append1_run (W : World) (base : Nat) (v : Value) (xs : List Int) (c : Int) (HO : OwnB W base v xs) (hb : base ≤ W.heap.size) (hn : xs.length ≤ 100000000000) :
    ∃ v1 w1, (Builtin.append_ #[26, 26] 26 #[v, .slice (some ⟨W.heap.size, 0, none⟩) 1 1]).run Tryd.prog (W.alloc (.cells #[.int .u8 c] 5)) = .ok v1 w1 ∧ OwnB w1 base v1 (xs ++ [c]) ∧
      W.grownBy w1 v.ownBlock ∧ (v1.ownBlock = v.ownBlock ∨ ∃ b, v1.ownBlock = some b ∧ W.heap.size ≤ b) ∧ Below base W w1 := by
  obtain ⟨i0, hi, hzz⟩ := Option.map_eq_some_iff.1 infoB
  simp only [Prod.mk.injEq] at hzz
  obtain ⟨hz0, hz1, hz2⟩ := hzz
  have hA : Below W.heap.size W (W.alloc (.cells #[.int .u8 c] 5)) := below_alloc (Below.refl _ _) _
  have HO1 := pw_own_below HO hA
  have hnews : ∀ j u, ([.int .u8 c] : List Value)[j]? = some u → (W.alloc (.cells #[.int .u8 c] 5)).cell? ((⟨W.heap.size, 0, none⟩ : Addr).add j) = some u :=
    World.news_of_block (cs := #[.int .u8 c]) (t := 5) (fr := (0, 0)) (heap_alloc_new W _)
  obtain ⟨v1, w1, hrun, h2, h3, _, h5⟩ := run_append_own_at (P := Tryd.prog) (W.alloc (.cells #[.int .u8 c] 5)) base 26 26 5 i0 (.int .u8 0) 1 1 Tryd.underlying26 hi hz0 hz1 hz2 rfl (by omega) v xs.length (nums .u8 xs) HO1 ⟨W.heap.size, 0, none⟩ 1 1 [.int .u8 c] rfl hnews
    (by intro u hu; simp only [List.mem_singleton] at hu; subst hu; rfl) (by simp only [maxLen]; omega) (by omega) (Nat.le_trans hb hA.size)
  refine ⟨v1, w1, hrun, by unfold OwnB; simpa [nums] using h2, (World.grownBy_alloc W _ _).trans h3, ?_, ((Below.refl base W).alloc hb _).grown h3 (Nat.le_trans hb hA.size) (own_base HO)⟩
  rcases h5 with h5 | h5
  · exact .inl h5
  · exact .inr ⟨_, h5, by simp⟩
/-- append(v, s...), s a string. -/
theorem bytes_cells (s : ByteArray) : nums .u8 (bytesOf s) = Lib.strCells s := by simp [nums, bytesOf, Lib.strCells]
theorem appendS_run (W : World) (base : Nat) (v : Value) (xs : List Int) (s : ByteArray) (HO : OwnB W base v xs) (hb : base ≤ W.heap.size) (hn : xs.length + s.size ≤ 100000000000) :
    ∃ v1 w1, (Builtin.append_ #[26, 9] 26 #[v, .string s]).run Tryd.prog W = .ok v1 w1 ∧ OwnB w1 base v1 (xs ++ bytesOf s) ∧ W.grownBy w1 v.ownBlock ∧ Below base W w1 := by
  obtain ⟨i0, hi, hzz⟩ := Option.map_eq_some_iff.1 infoB
  simp only [Prod.mk.injEq] at hzz
  obtain ⟨hz0, hz1, hz2⟩ := hzz
  obtain ⟨v1, w1, hrun, h2, h3, h4⟩ := Lib.run_append_own_string (P := Tryd.prog) W base 26 9 26 5 i0 Tryd.underlying26 Tryd.underlying9 hi hz0 hz1 hz2 v xs.length (nums .u8 xs) HO s (by simp only [maxLen]; omega) (by omega) hb
  refine ⟨v1, w1, hrun, ?_, h3, (Below.refl base W).grown h3 hb (own_base HO)⟩
  unfold OwnB
  rw [nums_append, bytes_cells, List.length_append, bytesOf_length]
  exact h2
set_option maxRecDepth 100000 in
/-- append(v, ys...), ys a row that is read. -/
theorem appendR_run (W : World) (base : Nat) (v : Value) (xs : List Int) (A : Option Addr) (m c : Nat) (ys : List Int) (HO : OwnB W base v xs) (HR : ReadsInt W .u8 A m ys) (hb : base ≤ W.heap.size) (hn : xs.length + m ≤ 100000000000) :
    ∃ v1 w1, (Builtin.append_ #[26, 26] 26 #[v, .slice A m c]).run Tryd.prog W = .ok v1 w1 ∧ OwnB w1 base v1 (xs ++ ys) ∧ W.grownBy w1 v.ownBlock ∧ (v1.ownBlock = v.ownBlock ∨ ∃ b, v1.ownBlock = some b ∧ W.heap.size ≤ b) ∧ Below base W w1 := by
  obtain ⟨i0, hi, hzz⟩ := Option.map_eq_some_iff.1 infoB
  simp only [Prod.mk.injEq] at hzz
  obtain ⟨hz0, hz1, hz2⟩ := hzz
  have hm1 := HR.1
  rcases A with _ | ad
  · have h0 : m = 0 := by
      rcases Nat.eq_zero_or_pos m with h0 | h0
      · exact h0
      · obtain ⟨ad, h, _⟩ := HR.2.2 h0
        cases h
    subst h0
    obtain rfl : ys = [] := List.eq_nil_of_length_eq_zero HR.1
    refine ⟨v, W, ?_, by simpa using HO, World.grownBy.refl W _, .inl rfl, Below.refl _ _⟩
    clear hn
    rcases HO.2 with ⟨rfl, hn⟩ | ⟨g, cap, cur, rfl, _, _, hnc, _⟩
    · simp [Builtin.append_, run_underlying Tryd.underlying26, sizeOf, typeInfo, hi, Builtin.lenOf, Builtin.firstCells]
    · simp [Builtin.append_, run_underlying Tryd.underlying26, sizeOf, typeInfo, hi, Builtin.lenOf, Builtin.firstCells, hnc, storeCells]
  · have hcells : ∀ j u, (nums .u8 ys)[j]? = some u → W.cell? (ad.add j) = some u := by
      intro j u hu
      have hj : j < ys.length := by
        rcases Nat.lt_or_ge j ys.length with h | h
        · exact h
        · simp [nums, List.getElem?_eq_none h] at hu
      obtain ⟨ad', h', hc⟩ := HR.2.2 (by omega)
      injection h' with h'
      subst h'
      have := hc j (by omega)
      simp [nums, List.getElem?_eq_getElem hj] at hu
      subst hu
      rw [this]
      simp [List.getD_eq_getElem?_getD, List.getElem?_eq_getElem hj]
    obtain ⟨v1, w1, hrun, h2, h3, _, h5⟩ := run_append_own_at (P := Tryd.prog) W base 26 26 5 i0 (.int .u8 0) 1 1 Tryd.underlying26 hi hz0 hz1 hz2 rfl (by omega) v xs.length (nums .u8 xs) HO ad m c (nums .u8 ys) (by simp [nums, hm1]) hcells
      (by intro u hu; simp only [nums, List.mem_map] at hu; obtain ⟨q, _, rfl⟩ := hu; rfl) (by simp only [maxLen]; omega) (by omega) hb
    refine ⟨v1, w1, hrun, by unfold OwnB; simpa [nums, hm1] using h2, h3, ?_, (Below.refl base W).grown h3 hb (own_base HO)⟩
    rcases h5 with h5 | h5
    · exact .inl h5
    · exact .inr ⟨_, h5, Nat.le_refl _⟩
/-- The empty row '[]byte{}'. -/
theorem own_empty (W : World) (base : Nat) (hb : base ≤ W.heap.size) : OwnB (W.alloc (.cells #[] 5)) base (.slice (some ⟨W.heap.size, 0, none⟩) 0 0) [] := by
  have h := World.ownsRow_lit (base := base) (e := 5) (size := 1) W #[] 0 hb (by simp [maxLen]) (by simp)
  have h' : (W.alloc (.cells #[] 5)).ownsRow base 5 1 (.slice (some ⟨W.heap.size, 0, none⟩) 0 0) 0 [] := by simpa using h
  exact h'
theorem ret_int {k : IntKind} {a b : Int} (h : a = b) : Ending.returned (.int k a) = .returned (.int k b) := by rw [h]
theorem ret_bool {a b : Bool} (h : a = b) : Ending.returned (.bool a) = .returned (.bool b) := by rw [h]
theorem ret_str {a b : ByteArray} (h : a = b) : Ending.returned (.string a) = .returned (.string b) := by rw [h]
end Go.Proofs.YtfpcngoonfbphaaDoor

/- Clone, Concat, HasSuffix, Whole. -/
set_option linter.unusedVariables false
set_option linter.unusedSimpArgs false
namespace Go.Proofs.YtfpcngoonfbphaaDoor
open Go.RowKit Go.Proofs.YtfpcngoonfbphaaDoorW.PrintWords

def endsB (xs ys : List Int) : Bool := decide (ys.length ≤ xs.length) && ((strOfNums (xs.drop (xs.length - ys.length))).toList == (strOfNums ys).toList)

theorem Equal_calls (w : World) (A : Option Addr) (n c : Nat) (xs : List Int) (hr : ReadsInt w .u8 A n xs) (A' : Option Addr) (n' c' : Nat) (ys : List Int) (hr' : ReadsInt w .u8 A' n' ys) :
    Calls Tryd.prog 87 #[.slice A n c, .slice A' n' c'] w fun e w' => e = .returned (.bool ((strOfNums xs).toList == (strOfNums ys).toList)) ∧ w = w' := by
  have h1 := string_of_reads (P := Tryd.prog) (c := c) Tryd.underlying26 Tryd.underlying5 Tryd.underlying9 hr
  have h2 := string_of_reads (P := Tryd.prog) (c := c') Tryd.underlying26 Tryd.underlying5 Tryd.underlying9 hr'
  clear hr hr'
  go_enter Tryd.func87, Tryd.ntmps87
  go_wp2
  go_ret
  exact ⟨rfl, rfl⟩

theorem HasSuffix_calls (w : World) (A : Option Addr) (n c : Nat) (xs : List Int) (hr : ReadsInt w .u8 A n xs) (hnc : n ≤ c) (hn : n ≤ 1000000000) (A' : Option Addr) (n' c' : Nat) (ys : List Int) (hr' : ReadsInt w .u8 A' n' ys) (hn' : n' ≤ 1000000000) :
    Calls Tryd.prog 67 #[.slice A n c, .slice A' n' c'] w fun e w' => e = .returned (.bool (endsB xs ys)) ∧ w = w' := by
  have e1 := hr.1
  have e2 := hr'.1
  by_cases h : n' ≤ n
  · obtain ⟨m, hm⟩ : ∃ m, m = n - n' := ⟨_, rfl⟩
    obtain ⟨A1, hcut, hA1⟩ := print_cut (P := Tryd.prog) 26 5 .i64 Tryd.underlying26 hinfB hinfBs A n c m (by omega)
    have hr1 := hA1 w .u8 xs hnc hr
    have hE := Lib.hid (Equal_calls w A1 (n - m) (c - m) (xs.drop m) hr1 A' n' c' ys hr')
    have hF : Hid (endsB xs ys = ((strOfNums (xs.drop m)).toList == (strOfNums ys).toList)) := Lib.hid (by simp [endsB, e1, e2, h, hm])
    have hd : decide (n' ≤ n) = true := decide_eq_true h
    have hs : (n : Int) - (n' : Int) = (m : Int) := by omega
    clear hr hr' hr1 hA1 e1 e2
    have hm1 : m ≤ n := by omega
    clear hm
    go_enter Tryd.func67, Tryd.ntmps67
    go_wp2_with (go_at_call 87; refine hE.out.mono ?_; rintro e w' ⟨rfl, rfl⟩)
    go_ret
    exact ⟨ret_bool hF.out.symm, rfl⟩
  · have hF : Hid (endsB xs ys = false) := Lib.hid (by simp [endsB, e1, e2, h])
    have hd : decide (n' ≤ n) = false := decide_eq_false h
    clear hr hr' e1 e2
    go_enter Tryd.func67, Tryd.ntmps67
    go_wp2
    go_ret
    exact ⟨ret_bool hF.out.symm, rfl⟩

theorem Clone_calls (w : World) (A : Option Addr) (n c : Nat) (xs : List Int) (hr : ReadsInt w .u8 A n xs) (hn : n ≤ 1000000000) :
    Calls Tryd.prog 68 #[.slice A n c] w fun e w' => ∃ v, e = .returned v ∧ SB w' w.heap.size v xs ∧ Below w.heap.size w w' := by
  rcases A with _ | ad
  · have h0 : n = 0 := by
      rcases Nat.eq_zero_or_pos n with h0 | h0
      · exact h0
      · obtain ⟨ad, h, _⟩ := hr.2.2 h0
        cases h
    subst h0
    obtain rfl : xs = [] := List.eq_nil_of_length_eq_zero hr.1
    clear hr hn
    have he := Lib.run_eql_slice_nil (P := Tryd.prog) w 26 5 none 0 c 0 0 Tryd.underlying26
    go_enter Tryd.func68, Tryd.ntmps68
    go_wp2
    go_ret
    exact ⟨_, rfl, SB.nil _ _, Below.refl _ _⟩
  · have hB : Below w.heap.size w (w.alloc (.cells #[] 5)) := below_alloc (Below.refl _ _) _
    obtain ⟨v1, w1, hrun, ho, hg, ha, hb⟩ := appendR_run (w.alloc (.cells #[] 5)) w.heap.size _ [] (some ad) n c xs (own_empty w w.heap.size (Nat.le_refl _)) (hr.below hB) hB.size (by simp; omega)
    have HR := Lib.hid hrun
    have HQ := Lib.hid (And.intro ho hb)
    have he := Lib.run_eql_slice_nil (P := Tryd.prog) w 26 5 (some ad) n c 0 0 Tryd.underlying26
    clear hrun ho hb hg ha hr hn
    go_enter Tryd.func68, Tryd.ntmps68
    go_wp2_with (at_builtin; refine wpList_append_known rfl (.tmp 5) (.tmp 6) 26 26 rfl (.slice (some ⟨w.heap.size, 0, none⟩) 0 0) (.slice (some ad) n c) rfl rfl HR.out ?_)
    go_ret
    exact ⟨_, rfl, SB.of_own (by simpa using HQ.out.1), hB.trans HQ.out.2⟩

theorem zero_one (n : Nat) : ∀ u ∈ (Builtin.zeroCells (Value.int .u8 0).cells n).toList, u.oneCell' = true := by
  intro u hu
  have hr := Kd.reps_zeros (R := fun (x : Int) cs => cs = [.int .u8 0]) (z := .int .u8 0) (size := 1) (z0 := 0) rfl (by omega) rfl n
  obtain ⟨j, hj, rfl⟩ := List.mem_iff_getElem.1 hu
  have h1 := hr.1
  simp only [List.length_replicate, Nat.mul_one] at h1
  have h2 := hr.2 j 0 (by rw [List.getElem?_replicate]; simp; omega)
  rw [Nat.mul_one] at h2
  have h3 := congrArg List.head? h2
  rw [List.head?_take, if_neg (by decide), List.head?_drop, List.getElem?_eq_getElem hj] at h3
  injection h3 with h3
  rw [h3]
  rfl
theorem own_cut0 {W : World} {base g n cap : Nat} {ys : List Value} (h : W.ownsRow base 5 1 (.slice (some ⟨g, 0, none⟩) n cap) n ys) : OwnB W base (.slice (some ⟨g, 0, none⟩) 0 cap) [] := by
  rcases h.2 with ⟨e, _⟩ | ⟨k, cp, cur, e, h3, h4, h5, h6, h7, h8⟩
  · cases e
  · injection e with e1 e2 e3
    injection e1 with e1
    injection e1 with e1
    subst e1 e3
    exact ⟨rfl, .inr ⟨_, _, cur, rfl, h3, h4, Nat.zero_le _, h6, h7, by simp [nums]⟩⟩

theorem Grow_zero (w : World) : Calls Tryd.prog 70 #[.slice none 0 0, .int .i64 0] w fun e w' => e = .returned (.slice none 0 0) ∧ w = w' := by
  go_enter Tryd.func70, Tryd.ntmps70
  go_wp2
  go_ret
  exact ⟨rfl, rfl⟩
set_option maxRecDepth 1000000 in
theorem Grow_some (w : World) (n : Nat) (h0 : 0 < n) (hn : n ≤ 1000000000) :
    Calls Tryd.prog 70 #[.slice none 0 0, .int .i64 n] w fun e w' => ∃ v, e = .returned v ∧ OwnB w' w.heap.size v [] ∧ Below w.heap.size w w' := by
  obtain ⟨i0, hi, hzz⟩ := Option.map_eq_some_iff.1 infoB
  simp only [Prod.mk.injEq] at hzz
  obtain ⟨hz0, hz1, hz2⟩ := hzz
  obtain ⟨v1, w1, hr, ho, hg, ha⟩ := run_append_zeros (P := Tryd.prog) w w.heap.size 26 3 26 5 i0 (.int .u8 0) 1 1 Tryd.underlying26 Tryd.underlying3 hi hz0 hz1 hz2 rfl (by omega) (by omega) (.slice none 0 0) 0 [] (own_nil _ _ _ _) .i64 n
    (zero_one n) (by omega) (Nat.le_refl _)
  have hb : Below w.heap.size w w1 := (Below.refl _ _).grown hg (Nat.le_refl _) (by intro k hk; simp [Value.ownBlock] at hk)
  obtain ⟨g, cap, rfl, hgb, hgl⟩ := World.ownsRow.form ho (by omega)
  have hc := own_cut0 ho
  have HR := Lib.hid hr
  have HQ := Lib.hid (And.intro hc hb)
  clear hr ho hg ha hb hc hi hz0 hz1 hz2 hgb hgl
  have hd : decide (0 < (n : Int)) = true := decide_eq_true (by omega)
  have hn1 : (n : Int) ≤ 1000000000 := by omega
  clear hn
  go_enter Tryd.func70, Tryd.ntmps70
  go_wp2_with (at_builtin; refine wpList_append_known rfl (.tmp 20) (.tmp 21) 26 3 rfl (.slice none 0 0) (.int .i64 n) rfl rfl HR.out ?_)
  go_ret
  exact ⟨_, rfl, HQ.out.1, HQ.out.2⟩

/-- The parts that Concat joins: address, capacity, bytes. -/
abbrev Part := Option Addr × Nat × List Int
def Parts (W : World) (g : Nat) (ps : List Part) : Prop := ∀ (j : Nat) (p : Part), ps[j]? = some p → W.cell? ⟨g, j, none⟩ = some (.slice p.1 p.2.2.length p.2.1) ∧ ReadsInt W .u8 p.1 p.2.2.length p.2.2
theorem Parts.below {W W1 : World} {g : Nat} {ps : List Part} (h : Parts W g ps) (hb : Below W.heap.size W W1) : Parts W1 g ps := fun j p hj => ⟨pw_cell_below hb (h j p hj).1, (h j p hj).2.below hb⟩
def sumOf (ps : List Part) : Nat := (ps.map fun p => p.2.2.length).sum
def joinOf (ps : List Part) : List Int := ps.flatMap fun p => p.2.2
theorem sumOf_join (ps : List Part) : (joinOf ps).length = sumOf ps := by simp [joinOf, sumOf, List.length_flatMap]
theorem take_step {α : Type} {l : List α} {k : Nat} {x : α} (h : l[k]? = some x) : l.take (k + 1) = l.take k ++ [x] := by
  have hk := (List.getElem?_eq_some_iff.1 h).1
  rw [List.take_succ_eq_append_getElem hk, (List.getElem?_eq_some_iff.1 h).2]
theorem sum_take_le (ps : List Part) (k : Nat) : sumOf (ps.take k) ≤ sumOf ps := by
  have h : sumOf ps = sumOf (ps.take k) + sumOf (ps.drop k) := by
    conv => lhs; rw [← List.take_append_drop k ps]
    unfold sumOf
    rw [List.map_append, List.sum_append]
  omega

set_option maxHeartbeats 1000000 in
set_option maxRecDepth 1000000 in
theorem Concat_calls (w : World) (g : Nat) (ps : List Part) (hp : Parts w g ps) (hm : ps.length ≤ 1000) (hs : sumOf ps ≤ 1000000000) :
    Calls Tryd.prog 50 #[.slice (some ⟨g, 0, none⟩) ps.length ps.length] w fun e w' => ∃ v, e = .returned v ∧ OwnB w' w.heap.size v (joinOf ps) ∧ Below w.heap.size w w' := by
  have HP := Lib.hid hp
  clear hp
  go_enter Tryd.func50, Tryd.ntmps50
  go_wp2
  go_loop [3, 11] (fun sz i => ∃ k : Nat, k ≤ ps.length ∧ i = .int .i64 k ∧ sz = .int .i64 (sumOf (ps.take k) : Nat)) (fun _ i => ps.length - (intOf i).toNat)
  case atStart => exact ⟨0, Nat.zero_le _, rfl, rfl⟩
  case round =>
    obtain ⟨k, hk, rfl, rfl⟩ := hrel
    by_cases hlt : k < ps.length
    · obtain ⟨p, hpk⟩ : ∃ p, ps[k]? = some p := ⟨_, List.getElem?_eq_getElem hlt⟩
      obtain ⟨hc, _⟩ := HP.out k p hpk
      have hst : Hid (sumOf (ps.take (k + 1)) = sumOf (ps.take k) + p.2.2.length) := Lib.hid (by rw [take_step hpk]; simp [sumOf])
      have hle := sum_take_le ps (k + 1)
      rw [hst.out] at hle
      have hneg : decide (((sumOf (ps.take k) : Nat) : Int) + (p.2.2.length : Int) < 0) = false := decide_eq_false (by omega)
      have hneg' : decide ((((sumOf (ps.take k)) + p.2.2.length : Nat) : Int) < 0) = false := decide_eq_false (by omega)
      obtain ⟨pa, pc, px⟩ := p
      simp only at hst hle hneg hneg' hc
      clear hpk
      go_wp2
      go_round
      case rel => exact ⟨k + 1, by omega, by go_num, by rw [hst.out]; go_num⟩
      case measure => simp [intOf]; omega
    · have hkn : ps.take k = ps := List.take_of_length_le (by omega)
      rw [hkn]
      clear hkn
      obtain ⟨T, hT⟩ : ∃ T, T = sumOf ps := ⟨_, rfl⟩
      rw [← hT]
      rw [← hT] at hs
      have HG : Hid (Calls Tryd.prog 70 #[.slice none 0 0, .int .i64 T] w fun e w' => ∃ v, e = .returned v ∧ OwnB w' w.heap.size v [] ∧ Below w.heap.size w w') := by
        rcases Nat.eq_zero_or_pos T with h0 | h0
        · subst h0
          exact Lib.hid ((Grow_zero w).mono (by rintro e w' ⟨rfl, rfl⟩; exact ⟨_, rfl, own_nil _ _ _ _, Below.refl _ _⟩))
        · exact Lib.hid (Grow_some w T h0 hs)
      have hs' := Lib.hid hs
      have hT' := Lib.hid hT
      clear hs hT
      go_wp2_with (go_at_call 70; refine HG.out.mono ?_; rintro e w1 ⟨v0, rfl, ho1, hb1⟩; have HB1 := Lib.hid (And.intro ho1 hb1); clear ho1 hb1)
      go_loopw [6, 27] (fun v i wr => ∃ k : Nat, k ≤ ps.length ∧ i = .int .i64 k ∧ Hid (OwnB wr w.heap.size v (joinOf (ps.take k)) ∧ Below w.heap.size w wr)) (fun _ i _ => ps.length - (intOf i).toNat)
      case atStart => exact ⟨0, Nat.zero_le _, rfl, HB1⟩
      case round =>
        obtain ⟨k, hk, rfl, HR⟩ := hrel
        by_cases hlt : k < ps.length
        · obtain ⟨p, hpk⟩ : ∃ p, ps[k]? = some p := ⟨_, List.getElem?_eq_getElem hlt⟩
          obtain ⟨hc, hrd⟩ := (HP.out.below HR.out.2) k p hpk
          have hst : Hid (joinOf (ps.take (k + 1)) = joinOf (ps.take k) ++ p.2.2) := Lib.hid (by rw [take_step hpk]; simp [joinOf])
          have hle := sum_take_le ps (k + 1)
          rw [← sumOf_join, hst.out, List.length_append] at hle
          obtain ⟨v1, w2, hrun, ho, hg, ha, hb⟩ := appendR_run wr w.heap.size u6 _ p.1 p.2.2.length p.2.1 p.2.2 HR.out.1 hrd HR.out.2.size (by have := hs'.out; have := hT'.out; omega)
          have HA := Lib.hid hrun
          have HQ := Lib.hid (And.intro ho hb)
          obtain ⟨pa, pc, px⟩ := p
          simp only at hst hc HA HQ
          clear hpk hrun ho hg ha hb hrd hle
          go_wp2_with (at_builtin; refine wpList_append_known rfl (.tmp 31) (.tmp 32) 26 26 rfl u6 (.slice pa px.length pc) rfl rfl HA.out ?_)
          go_roundw
          case rel => exact ⟨k + 1, by omega, by go_num, Lib.hid ⟨by rw [hst.out]; exact HQ.out.1, HR.out.2.trans HQ.out.2⟩⟩
          case measure => simp [intOf]; omega
        · go_wp2
          go_ret
          refine ⟨_, rfl, ?_, HR.out.2⟩
          have := HR.out.1
          rwa [List.take_of_length_le (by omega)] at this
end Go.Proofs.YtfpcngoonfbphaaDoor

/- Whole. -/
set_option linter.unusedVariables false
set_option linter.unusedSimpArgs false
namespace Go.Proofs.YtfpcngoonfbphaaDoor
open Go.RowKit Go.Proofs.YtfpcngoonfbphaaDoorW.PrintWords

def crlf : List Int := [13, 10]
def whole (xs : List Int) : List Int := if xs = [] ∨ endsB xs crlf = true then xs else xs ++ crlf

theorem crlf_world (w : World) : Lib.bytesWorld w 0 ⟨#[]⟩ = Lib.bytesWorld w 0 ⟨#[]⟩ := rfl
theorem kcrlf (w : World) : (convert 26 26 (.slice (some ⟨w.heap.size, 0, none⟩) 2 2)).run Tryd.prog (w.alloc (.cells #[.int .u8 13, .int .u8 10] 5)) = .ok (.slice (some ⟨w.heap.size, 0, none⟩) 2 2) (w.alloc (.cells #[.int .u8 13, .int .u8 10] 5 (2, 3))) :=
  Lib.run_convert_bytes_const (P := Tryd.prog) w 26 5 #[.int .u8 13, .int .u8 10] 2 2 Tryd.underlying26 Tryd.underlying5

set_option maxHeartbeats 1000000 in
set_option maxRecDepth 1000000 in
theorem Whole_calls (w : World) (A : Option Addr) (n c : Nat) (xs : List Int) (hr : ReadsInt w .u8 A n xs) (hnc : n ≤ c) (hn : n ≤ 1000000) :
    Calls Tryd.prog 44 #[.slice A n c] w fun e w' => ∃ v, e = .returned v ∧ SB w' w.heap.size v (whole xs) ∧ Below w.heap.size w w' := by
  by_cases h0 : n = 0
  · have hw : Hid (whole xs = xs) := Lib.hid (by
      obtain rfl : xs = [] := List.eq_nil_of_length_eq_zero (by rw [hr.1, h0])
      simp [whole])
    have hC := Lib.hid (Clone_calls w A n c xs hr (by omega))
    have hb : (n == 0) = true := beq_iff_eq.2 h0
    have hb' : ((n : Int) == 0) = true := by simpa using h0
    clear hr h0 hn
    go_enter Tryd.func44, Tryd.ntmps44
    go_wp2_with (go_at_call 68; refine hC.out.mono ?_; rintro e w1 ⟨v, rfl, hs, hb⟩; have HS := Lib.hid (And.intro hs hb); clear hs hb)
    go_ret
    exact ⟨v, rfl, by rw [hw.out]; exact HS.out.1, HS.out.2⟩
  · have hb : (n == 0) = false := beq_eq_false_iff_ne.2 h0
    have hb' : ((n : Int) == 0) = false := by simpa using h0
    have hne : xs ≠ [] := by rintro rfl; exact h0 hr.1.symm
    have hA := below_alloc (Below.refl w.heap.size w) (.cells #[.int .u8 13, .int .u8 10] 5 (2, 3))
    have hH := HasSuffix_calls (w.alloc (.cells #[.int .u8 13, .int .u8 10] 5 (2, 3))) A n c xs (hr.below hA) hnc (by omega) _ 2 2 crlf (lit_reads w crlf (2, 3) (by decide)) (by decide)
    have hk := kcrlf w
    cases he : endsB xs crlf with
    | true =>
      rw [he] at hH
      have hw : Hid (whole xs = xs) := Lib.hid (by simp [whole, he])
      have HH := Lib.hid hH
      have HC := Lib.hid (Clone_calls _ A n c xs (hr.below hA) (by omega))
      clear hr h0 hn hH he hne
      have HA := Lib.hid hA
      clear hA
      go_enter Tryd.func44, Tryd.ntmps44
      go_wp2_with (first | (go_at_call 67; refine HH.out.mono ?_; rintro e w1 ⟨rfl, rfl⟩) | (go_at_call 68; refine HC.out.mono ?_; rintro e w1 ⟨v, rfl, hs, hb⟩; have HS := Lib.hid (And.intro hs hb); clear hs hb))
      go_ret
      exact ⟨v, rfl, by rw [hw.out]; exact HS.out.1.lower HA.out.size, below_then HA.out HA.out.size HS.out.2⟩
    | false =>
      rw [he] at hH
      have hw : Hid (whole xs = joinOf [(A, c, xs), (some ⟨w.heap.size + 1, 0, none⟩, 2, crlf)]) := Lib.hid (by simp [whole, he, hne, joinOf])
      have HH := Lib.hid hH
      have e1 : (w.alloc (.cells #[.int .u8 13, .int .u8 10] 5 (2, 3))).heap.size = w.heap.size + 1 := by simp
      have hk2 := kcrlf (w.alloc (.cells #[.int .u8 13, .int .u8 10] 5 (2, 3)))
      rw [e1] at hk2
      have hB := below_alloc hA (.cells #[.int .u8 13, .int .u8 10] 5 (2, 3))
      have hD := below_alloc hB (.cells #[.slice A n c, .slice (some ⟨w.heap.size + 1, 0, none⟩) 2 2] 26)
      have hl := lit_reads (w.alloc (.cells #[.int .u8 13, .int .u8 10] 5 (2, 3))) crlf (2, 3) (by decide)
      rw [e1] at hl
      have hps : Parts (((w.alloc (.cells #[.int .u8 13, .int .u8 10] 5 (2, 3))).alloc (.cells #[.int .u8 13, .int .u8 10] 5 (2, 3))).alloc (.cells #[.slice A n c, .slice (some ⟨w.heap.size + 1, 0, none⟩) 2 2] 26)) (w.heap.size + 1 + 1) [(A, c, xs), (some ⟨w.heap.size + 1, 0, none⟩, 2, crlf)] := by
        have e2 : ((w.alloc (.cells #[.int .u8 13, .int .u8 10] 5 (2, 3))).alloc (.cells #[.int .u8 13, .int .u8 10] 5 (2, 3))).heap.size = w.heap.size + 1 + 1 := by simp
        have hnew := blk_new ((w.alloc (.cells #[.int .u8 13, .int .u8 10] 5 (2, 3))).alloc (.cells #[.int .u8 13, .int .u8 10] 5 (2, 3))) (.cells #[.slice A n c, .slice (some ⟨w.heap.size + 1, 0, none⟩) 2 2] 26)
        rw [e2] at hnew
        have hx1 := hr.1
        intro j p hj
        match j, hj with
        | 0, hj =>
          simp only [List.getElem?_cons_zero, Option.some.injEq] at hj
          subst hj
          refine ⟨(blk_cell hnew 0).trans (by rw [hx1]; rfl), ?_⟩
          simp only [hx1]
          exact hr.below hD
        | 1, hj =>
          simp only [List.getElem?_cons_succ, List.getElem?_cons_zero, Option.some.injEq] at hj
          subst hj
          exact ⟨(blk_cell hnew 1).trans rfl, hl.below (below_alloc (Below.refl _ _) _)⟩
        | j + 2, hj => simp at hj
      have HC := Lib.hid (Concat_calls _ _ _ hps (by simp) (by have := hr.1; simp [sumOf, crlf]; omega))
      have HD := Lib.hid hD
      clear hr h0 hn hH he hne hA hB hD hl hps e1
      go_enter Tryd.func44, Tryd.ntmps44
      go_wp2_with (first | (go_at_call 67; refine HH.out.mono ?_; rintro e w1 ⟨rfl, rfl⟩) | (go_at_call 50; refine HC.out.mono ?_; rintro e w1 ⟨v, rfl, ho, hb⟩; have HS := Lib.hid (And.intro ho hb); clear ho hb))
      go_ret
      exact ⟨v, rfl, by rw [hw.out]; exact (SB.of_own HS.out.1).lower HD.out.size, below_then HD.out HD.out.size HS.out.2⟩
end Go.Proofs.YtfpcngoonfbphaaDoor

/- Name. -/
set_option linter.unusedVariables false
set_option linter.unusedSimpArgs false
namespace Go.Proofs.YtfpcngoonfbphaaDoor
open Go.RowKit Go.Proofs.YtfpcngoonfbphaaDoorW.PrintWords Go.Proofs.YtfpcngoonfbphaaDoor.Pl

theorem size_mk (l : List UInt8) : (⟨l.toArray⟩ : ByteArray).size = l.length := by simp [ByteArray.size]
theorem eta_mk (s : ByteArray) : s = ⟨s.data.toList.toArray⟩ := by cases s; simp
theorem toList_mk (l : List UInt8) : (⟨l.toArray⟩ : ByteArray).toList = l := by
  rw [ByteArray.toList_eq]
theorem get_data (s : ByteArray) (k : Nat) (h : k < s.size) : s.data.toList[k]? = some s[k] := by
  have h' : k < s.data.toList.length := by rw [data_length]; exact h
  rw [List.getElem?_eq_getElem h']
  rfl




theorem name_no {l : List UInt8} {k : Nat} {c : UInt8} (h : l[k]? = some c) (hc : okC c = false) : nameOk l = false := by
  have : l.all okC = false := by
    rw [List.all_eq_false]
    exact ⟨c, List.mem_of_getElem? h, by simp [hc]⟩
  simp [nameOk, this]

set_option maxHeartbeats 1000000 in
theorem Name_calls (s : ByteArray) (w : World) (hs : s.size ≤ 10000000) :
    Calls Tryd.prog 20 #[.string s] w fun e w' => e = .returned (.bool (nameOk s.data.toList)) ∧ w = w' := by
  have hl : s.data.toList.length = s.size := data_length s
  go_enter Tryd.func20, Tryd.ntmps20
  go_wp2
  go_loop [6] (fun i => ∃ k : Nat, k ≤ s.size ∧ i = .int .i64 k ∧ Hid ((s.data.toList.take k).all okC = true)) (fun i => s.size - (intOf i).toNat)
  case atStart => exact ⟨0, Nat.zero_le _, rfl, Lib.hid (by simp)⟩
  case round =>
    obtain ⟨k, hk, rfl, HA⟩ := hrel
    by_cases hlt : k < s.size
    · have hg := Lib.hid (get_data s k hlt)
      have hc : s[k].toNat < 256 := s[k].toNat_lt
      by_cases b1 : s[k].toNat < 33
      · have d1 : decide ((s[k].toNat : Int) < 33) = true := decide_eq_true (by omega)
        have hn : Hid (nameOk s.data.toList = false) := Lib.hid (name_no hg.out (by simp [okC, UInt8.le_iff_toNat_le]; omega))
        go_wp2
        go_ret
        exact ⟨ret_bool hn.out.symm, rfl⟩
      have d1 : decide ((s[k].toNat : Int) < 33) = false := decide_eq_false (by omega)
      by_cases b2 : 126 < s[k].toNat
      · have d2 : decide (126 < (s[k].toNat : Int)) = true := decide_eq_true (by omega)
        have hn : Hid (nameOk s.data.toList = false) := Lib.hid (name_no hg.out (by simp [okC, UInt8.le_iff_toNat_le]; omega))
        go_wp2
        go_ret
        exact ⟨ret_bool hn.out.symm, rfl⟩
      have d2 : decide (126 < (s[k].toNat : Int)) = false := decide_eq_false (by omega)
      by_cases b3 : s[k].toNat = 58
      · have d3 : ((s[k].toNat : Int) == 58) = true := beq_iff_eq.2 (by omega)
        have hn : Hid (nameOk s.data.toList = false) := Lib.hid (name_no hg.out (by
          have : s[k] = 58 := UInt8.toNat_inj.1 (by rw [b3]; rfl)
          rw [this]; decide))
        clear b3
        go_wp2
        go_ret
        exact ⟨ret_bool hn.out.symm, rfl⟩
      have d3 : ((s[k].toNat : Int) == 58) = false := beq_eq_false_iff_ne.2 (by omega)
      have hok : Hid (okC s[k] = true) := Lib.hid (by
        have : s[k] ≠ 58 := fun h => b3 (by rw [h]; rfl)
        simp [okC, UInt8.le_iff_toNat_le, this]; omega)
      clear b3
      go_wp2
      go_round
      case rel => exact ⟨k + 1, by omega, by go_num, Lib.hid (by rw [take_step hg.out]; simp [HA.out, hok.out])⟩
      case measure => simp [intOf]; omega
    · have hall : Hid (s.data.toList.all okC = true) := Lib.hid (by have := HA.out; rwa [List.take_of_length_le (by omega)] at this)
      by_cases h0 : s.size = 0
      · have hn : Hid (nameOk s.data.toList = false) := Lib.hid (by
          have : s.data.toList = [] := List.eq_nil_of_length_eq_zero (by omega)
          simp [this, nameOk])
        have he : s.toList = [] := by rw [ByteArray.toList_eq]; exact List.eq_nil_of_length_eq_zero (by omega)
        go_wp2
        go_ret
        exact ⟨ret_bool hn.out.symm, rfl⟩
      · have hne : s.toList.isEmpty = false := by
          rw [ByteArray.toList_eq]
          cases h : s.data.toList with
          | nil => rw [h] at hl; simp at hl; omega
          | cons a b => rfl
        have hn : Hid (nameOk s.data.toList = decide ((s.size : Int) ≤ 76)) := Lib.hid (by
          have : s.data.toList.isEmpty = false := by have := hne; rwa [ByteArray.toList_eq] at this
          unfold nameOk
          rw [hall.out, this, hl]
          simp
          omega)
        go_wp2
        go_ret
        exact ⟨ret_bool hn.out.symm, rfl⟩
end Go.Proofs.YtfpcngoonfbphaaDoor

/-
  DERIVED: THE SHELF's CONTRACTS AT THIS DUMP, IN PLAIN WORDS (tools/lay-plain.mjs out of 'TrydShelf.lean', which tools/lay-shelf.mjs wrote): THE SAME DECLARATIONS UNDER THE SAME NAMES: 'import', 'namespace', 'open', 'def', 'theorem' AND NOTHING ELSE: no command of the shelf's: FOR A HAND-IN. Each laying: the table of numbers ('.._ren') and one theorem, a field a fact of the dump's own or the kernel's comparison; each contract: ONE APPLICATION.
-/
namespace Go.Proofs
open Go.Shelf
def Tryd.lays171_ren : Go.Shelf.Ren := ⟨fun | 171 => 66 | 243 => 86 | 246 => 103 | 283 => 114 | 284 => 115 | 285 => 116 | 286 => 117 | 129 => 126 | 317 => 125 | 318 => 127 | 319 => 128 | 320 => 129 | 337 => 136 | 338 => 137 | n => n, fun | 3 => 3 | 9 => 9 | 2 => 2 | 4 => 4 | 171 => 106 | 0 => 0 | 53 => 107 | 37 => 26 | 5 => 5 | 173 => 110 | 212 => 119 | 51 => 56 | 20 => 20 | 213 => 120 | 46 => 92 | 232 => 138 | 233 => 139 | n => n, fun | 17 => 1 | 18 => 6 | 19 => 7 | n => n⟩
theorem Tryd.lays171 : Go.Proofs.Lays.n171 Tryd.prog Tryd.lays171_ren := {
  mixed := by kernel_rfl
  f129 := Tryd.func126.trans (congrArg some (by kernel_rfl))
  f171 := Tryd.func66.trans (congrArg some (by kernel_rfl))
  f243 := Tryd.func86.trans (congrArg some (by kernel_rfl))
  f246 := Tryd.func103.trans (congrArg some (by kernel_rfl))
  f283 := Tryd.func114.trans (congrArg some (by kernel_rfl))
  f284 := Tryd.func115.trans (congrArg some (by kernel_rfl))
  f285 := Tryd.func116.trans (congrArg some (by kernel_rfl))
  f286 := Tryd.func117.trans (congrArg some (by kernel_rfl))
  f317 := Tryd.func125.trans (congrArg some (by kernel_rfl))
  f318 := Tryd.func127.trans (congrArg some (by kernel_rfl))
  f319 := Tryd.func128.trans (congrArg some (by kernel_rfl))
  f320 := Tryd.func129.trans (congrArg some (by kernel_rfl))
  f337 := Tryd.func136.trans (congrArg some (by kernel_rfl))
  f338 := Tryd.func137.trans (congrArg some (by kernel_rfl))
  t0 := Tryd.underlying0
  a0 := Tryd.isAgg0
  z0 := Tryd.sizeOf0
  v0 := Tryd.zeroValue0
  t2 := Tryd.underlying2
  a2 := Tryd.isAgg2
  z2 := Tryd.sizeOf2
  v2 := Tryd.zeroValue2
  t3 := Tryd.underlying3
  a3 := Tryd.isAgg3
  z3 := Tryd.sizeOf3
  v3 := Tryd.zeroValue3
  t4 := Tryd.underlying4
  a4 := Tryd.isAgg4
  z4 := Tryd.sizeOf4
  v4 := Tryd.zeroValue4
  t5 := Tryd.underlying5
  a5 := Tryd.isAgg5
  z5 := Tryd.sizeOf5
  v5 := Tryd.zeroValue5
  t9 := Tryd.underlying9
  a9 := Tryd.isAgg9
  z9 := Tryd.sizeOf9
  v9 := Tryd.zeroValue9
  t20 := Tryd.underlying20
  a20 := Tryd.isAgg20
  z20 := Tryd.sizeOf20
  v20 := Tryd.zeroValue20
  t37 := Tryd.underlying26
  a37 := Tryd.isAgg26
  z37 := Tryd.sizeOf26
  v37 := Tryd.zeroValue26
  t46 := Tryd.underlying92
  a46 := Tryd.isAgg92
  z46 := Tryd.sizeOf92
  v46 := Tryd.zeroValue92
  t51 := Tryd.underlying56
  a51 := Tryd.isAgg56
  z51 := Tryd.sizeOf56
  v51 := Tryd.zeroValue56
  t53 := Tryd.underlying107
  a53 := Tryd.isAgg107
  z53 := Tryd.sizeOf107
  v53 := Tryd.zeroValue107
  t171 := Tryd.underlying106
  a171 := Tryd.isAgg106
  z171 := Tryd.sizeOf106
  v171 := Tryd.zeroValue106
  t173 := Tryd.underlying110
  a173 := Tryd.isAgg110
  z173 := Tryd.sizeOf110
  v173 := Tryd.zeroValue110
  t212 := Tryd.underlying119
  a212 := Tryd.isAgg119
  z212 := Tryd.sizeOf119
  v212 := Tryd.zeroValue119
  t213 := Tryd.underlying120
  a213 := Tryd.isAgg120
  z213 := Tryd.sizeOf120
  t232 := Tryd.underlying138
  a232 := Tryd.isAgg138
  z232 := Tryd.sizeOf138
  v232 := Tryd.zeroValue138
  t233 := Tryd.underlying139
  a233 := Tryd.isAgg139
  z233 := Tryd.sizeOf139
  v233 := Tryd.zeroValue139
  g17 := by kernel_rfl
  g18 := by kernel_rfl
  g19 := by kernel_rfl }
open Go.RowKit Go.Sort Go.Lib in
/-- THE ROAD WITHOUT THE TABLE: 0 <= i < 100: NO PREMISE ON THE WORLD, AND THE WORLD IS AS IT WAS: a row that keeps its argument in that range need list no table ('laid = []'). (LAID: no walk: one application.) -/
theorem Tryd.strconv_Itoa_small (i : Nat) (hi : i < 100) (w : World) :
    Calls Tryd.prog 66 #[.int .i64 i] w fun e w' => e = .returned (.string ⟨(Lib.decDigits i).toArray⟩) ∧ w' = w := Any.strconv_Itoa_small Tryd.lays171 i hi w
def Tryd.laysM145_ren : Go.Shelf.Ren := ⟨fun | 145 => 45 | 220 => 69 | 219 => 88 | 217 => 104 | 225 => 105 | 224 => 106 | 267 => 107 | 266 => 118 | 314 => 119 | n => n, fun | 9 => 9 | 4 => 4 | 59 => 65 | 3 => 3 | 5 => 5 | 46 => 92 | 146 => 112 | 51 => 56 | n => n, fun | 1 => 0 | n => n⟩
theorem Tryd.laysM145 : Go.Proofs.LaysM.n145 Tryd.prog Tryd.laysM145_ren := {
  mixed := by kernel_rfl
  f145 := Tryd.func45.trans (congrArg some (by kernel_rfl))
  f217 := Tryd.func104.trans (congrArg some (by kernel_rfl))
  f219 := Tryd.func88.trans (congrArg some (by kernel_rfl))
  f220 := Tryd.func69.trans (congrArg some (by kernel_rfl))
  f224 := Tryd.func106.trans (congrArg some (by kernel_rfl))
  f225 := Tryd.func105.trans (congrArg some (by kernel_rfl))
  f266 := Tryd.func118.trans (congrArg some (by kernel_rfl))
  f267 := Tryd.func107.trans (congrArg some (by kernel_rfl))
  f314 := Tryd.func119.trans (congrArg some (by kernel_rfl))
  t3 := Tryd.underlying3
  a3 := Tryd.isAgg3
  z3 := Tryd.sizeOf3
  v3 := Tryd.zeroValue3
  t4 := Tryd.underlying4
  a4 := Tryd.isAgg4
  z4 := Tryd.sizeOf4
  v4 := Tryd.zeroValue4
  t5 := Tryd.underlying5
  a5 := Tryd.isAgg5
  z5 := Tryd.sizeOf5
  v5 := Tryd.zeroValue5
  t9 := Tryd.underlying9
  a9 := Tryd.isAgg9
  z9 := Tryd.sizeOf9
  v9 := Tryd.zeroValue9
  t46 := Tryd.underlying92
  a46 := Tryd.isAgg92
  z46 := Tryd.sizeOf92
  v46 := Tryd.zeroValue92
  t51 := Tryd.underlying56
  a51 := Tryd.isAgg56
  z51 := Tryd.sizeOf56
  v51 := Tryd.zeroValue56
  t59 := Tryd.underlying65
  a59 := Tryd.isAgg65
  z59 := Tryd.sizeOf65
  v59 := Tryd.zeroValue65
  t146 := Tryd.underlying112
  a146 := Tryd.isAgg112
  z146 := Tryd.sizeOf112
  v146 := Tryd.zeroValue112
  g1 := by kernel_rfl
  i3 := by kernel_rfl
  i4 := by kernel_rfl
  i5 := by kernel_rfl
  i9 := by kernel_rfl
  i46 := by kernel_rfl
  i51 := by kernel_rfl
  i59 := by kernel_rfl
  i146 := by kernel_rfl
  m1 := by kernel_rfl
  s1_3 := fun w h => Go.Proofs.cell_of_shapedOpen_int (zero := #[.int .i64 0]) (t := 3) h (of_decide_eq_true (by kernel_rfl)) (by kernel_rfl) rfl (by kernel_rfl) (by kernel_rfl) Tryd.underlying3 }
open Go.RowKit Go.Lib in
theorem Tryd.strings_Cut_shaped (s sep : ByteArray) (w : World) (h : w.ShapedOpen Tryd.prog) (hs : s.size < 4294967281) :
    Calls Tryd.prog 45 #[.string s, .string sep] w fun e w' => e = .returned (.tuple #[.string ⟨(Lib.cut s.data.toList sep.data.toList).1.toArray⟩, .string ⟨(Lib.cut s.data.toList sep.data.toList).2.1.toArray⟩, .bool (Lib.cut s.data.toList sep.data.toList).2.2]) ∧ ∃ n, w' = w.drewN n := Any.strings_Cut_shaped Tryd.laysM145 s sep w h hs
end Go.Proofs

/- Split. -/
set_option linter.unusedVariables false
set_option linter.unusedSimpArgs false
namespace Go.Proofs.YtfpcngoonfbphaaDoor
open Go.RowKit Go.Proofs.YtfpcngoonfbphaaDoorW.PrintWords Go.Proofs.YtfpcngoonfbphaaDoor.Pl

/-- A slice's bytes, as numbers. -/
def i8 (l : Bs) : List Int := l.map fun b => (b.toNat : Int)
theorem i8_len (l : Bs) : (i8 l).length = l.length := by simp [i8]
theorem bytesOf_mk (l : Bs) : bytesOf ⟨l.toArray⟩ = i8 l := by simp [bytesOf, i8]
theorem strOf_i8 (l : Bs) : strOfNums (i8 l) = ⟨l.toArray⟩ := by
  unfold strOfNums i8
  congr 2
  rw [List.map_map]
  conv => rhs; rw [← List.map_id l]
  apply List.map_congr_left
  intro b _
  simp
/-- A string conversion's row, to be read. -/
theorem conv_sb (W : World) (s : ByteArray) (hs : s.size ≤ 9223372036854775807) : SB (Lib.bytesWorld W 5 s) W.heap.size (.slice (some ⟨W.heap.size, 0, none⟩) s.size (grownCap W s.size 0 5)) (bytesOf s) := by
  refine ⟨some ⟨W.heap.size, 0, none⟩, grownCap W s.size 0 5, by rw [bytesOf_length], ?_, by rw [bytesOf_length]; exact grownCap_ge W s.size 0 _, fun a e => by injection e with e; subst e; exact Nat.le_refl _⟩
  rw [bytesOf_length]
  exact bytes_reads W 5 s hs
theorem conv_below (W : World) (s : ByteArray) : Below W.heap.size W (Lib.bytesWorld W 5 s) := bytes_below (Below.refl _ _) (Nat.le_refl _) _ _

/-! ### Rows of fields -/
def fldCells (l : List Fld) : List Value := l.flatMap fun p => [.string ⟨p.1.toArray⟩, .string ⟨p.2.toArray⟩]
theorem fldCells_len (l : List Fld) : (fldCells l).length = l.length * 2 := by
  induction l with
  | nil => rfl
  | cons a l ih => simp [fldCells] at ih ⊢; omega
theorem fldCells_snoc (l : List Fld) (p : Fld) : fldCells (l ++ [p]) = fldCells l ++ [.string ⟨p.1.toArray⟩, .string ⟨p.2.toArray⟩] := by simp [fldCells]
def OwnF (W : World) (base : Nat) (v : Value) (l : List Fld) : Prop := W.ownsRow base 34 2 v l.length (fldCells l)
theorem infoF : (Tryd.prog.info? 34).map (fun i => (i.zero, i.size, i.bytes)) = some (some (.agg #[.string ⟨#[]⟩, .string ⟨#[]⟩]), 2, 32) := by kernel_rfl
theorem split_last {α : Type} (l : List α) (h : l ≠ []) : ∃ l' x, l = l' ++ [x] := ⟨l.dropLast, l.getLast h, (List.dropLast_concat_getLast h).symm⟩
theorem addLast_snoc (l : List Fld) (p : Fld) (s : Bs) : addLast (l ++ [p]) s = l ++ [(p.1, p.2 ++ (13 :: 10 :: s))] := by simp [addLast]
/-- The last field's cells, and what a store into its value does. -/
theorem own_last {W : World} {base : Nat} {v : Value} {l : List Fld} {p : Fld} (h : OwnF W base v (l ++ [p])) :
    ∃ g c, v = .slice (some ⟨g, 0, none⟩) (l.length + 1) c ∧ W.cell? ⟨g, l.length * 2 + 1, none⟩ = some (.string ⟨p.2.toArray⟩) ∧ W.frozen? ⟨g, l.length * 2 + 1, none⟩ = false ∧ base ≤ g ∧
      ∀ u : Bs, OwnF (W.setCell ⟨g, l.length * 2 + 1, none⟩ (.string ⟨u.toArray⟩)) base v (l ++ [(p.1, u)]) := by
  obtain ⟨g, c, e, hg, _⟩ := World.ownsRow.form h (by simp)
  have hl : (l ++ [p]).length = l.length + 1 := by simp
  rw [hl] at e
  subst e
  have hc := World.ownsRow.cells h (g := g) rfl (l.length * 2 + 1) (.string ⟨p.2.toArray⟩) (by rw [fldCells_snoc, List.getElem?_append_right (by rw [fldCells_len]; omega), fldCells_len]; simp)
  rw [add_plain] at hc
  refine ⟨g, c, rfl, hc, ?_, hg, fun u => ?_⟩
  · rcases h.2 with ⟨e', _⟩ | ⟨k, cp, cur, e', _, hh, _⟩
    · cases e'
    · injection e' with e1
      injection e1 with e1
      injection e1 with e1
      subst e1
      exact blk_frozen hh _
  · have h' : W.ownsRow base 34 2 (.slice (some ⟨g, 0, none⟩) (l.length + 1) c) (l.length + 1) (fldCells (l ++ [p])) := by unfold OwnF at h; rw [hl] at h; exact h
    have hs := (World.ownsRow.stored h' (l.length * 2 + 1) (.string ⟨u.toArray⟩)).1
    unfold OwnF
    rw [fldCells_snoc] at hs ⊢
    rw [show (l ++ [(p.1, u)]).length = l.length + 1 from by simp]
    rw [List.set_append_right _ _ (by rw [fldCells_len]; omega), fldCells_len] at hs
    simpa using hs

/-- A slice lies in another block than a row of one's own. -/
def Apart (vo vb : Value) : Prop := ∀ a n c, vb = .slice (some a) n c → some a.block ≠ vo.ownBlock
theorem apart_own {W : World} {base : Nat} {v : Value} {l : List Fld} (h : OwnF W base v l) (n c : Nat) : Apart v (.slice (some ⟨W.heap.size, 0, none⟩) n c) := by
  intro a n' c' e hk
  injection e with e1
  injection e1 with e1
  subst e1
  have := own_lt h _ hk.symm
  exact Nat.lt_irrefl _ this
def SplitPost (w : World) (r : List Fld × Bs) (e : Ending) (w' : World) : Prop :=
  ∃ vo vb, e = .returned (.tuple #[vo, vb]) ∧ OwnF w' w.heap.size vo r.1 ∧ SB w' w.heap.size vb (i8 r.2) ∧ Below w.heap.size w w' ∧ Apart vo vb

theorem Cut_calls (w : World) (hsh : w.ShapedOpen Tryd.prog) (r sep : Bs) (hs : r.length < 4294967281) :
    Calls Tryd.prog 45 #[.string ⟨r.toArray⟩, .string ⟨sep.toArray⟩] w fun e w' => e = .returned (.tuple #[.string ⟨(Lib.cut r sep).1.toArray⟩, .string ⟨(Lib.cut r sep).2.1.toArray⟩, .bool (Lib.cut r sep).2.2]) ∧ ∃ n, w' = w.drewN n :=
  Tryd.strings_Cut_shaped ⟨r.toArray⟩ ⟨sep.toArray⟩ w hsh (by rw [size_mk]; exact hs)
theorem appendF_run (W : World) (base : Nat) (v : Value) (l : List Fld) (p : Fld) (HO : OwnF W base v l) (hb : base ≤ W.heap.size) (hn : l.length ≤ 100000000) :
    ∃ v1 w1, (Builtin.append_ #[28, 28] 28 #[v, .slice (some ⟨W.heap.size, 0, none⟩) 1 1]).run Tryd.prog (W.alloc (.cells #[.string ⟨p.1.toArray⟩, .string ⟨p.2.toArray⟩] 34)) = .ok v1 w1 ∧ OwnF w1 base v1 (l ++ [p]) ∧ W.grownBy w1 v.ownBlock ∧ Below base W w1 := by
  obtain ⟨i0, hi, hzz⟩ := Option.map_eq_some_iff.1 infoF
  simp only [Prod.mk.injEq] at hzz
  obtain ⟨hz0, hz1, hz2⟩ := hzz
  have hA : Below W.heap.size W (W.alloc (.cells #[.string ⟨p.1.toArray⟩, .string ⟨p.2.toArray⟩] 34)) := below_alloc (Below.refl _ _) _
  have HO1 := pw_own_below HO hA
  have hnews : ∀ j u, ([.string ⟨p.1.toArray⟩, .string ⟨p.2.toArray⟩] : List Value)[j]? = some u → (W.alloc (.cells #[.string ⟨p.1.toArray⟩, .string ⟨p.2.toArray⟩] 34)).cell? ((⟨W.heap.size, 0, none⟩ : Addr).add j) = some u :=
    World.news_of_block (cs := #[.string ⟨p.1.toArray⟩, .string ⟨p.2.toArray⟩]) (t := 34) (fr := (0, 0)) (heap_alloc_new W _)
  obtain ⟨v1, w1, hrun, h2, h3, _, h5⟩ := run_append_own_at (P := Tryd.prog) (W.alloc (.cells #[.string ⟨p.1.toArray⟩, .string ⟨p.2.toArray⟩] 34)) base 28 28 34 i0 (.agg #[.string ⟨#[]⟩, .string ⟨#[]⟩]) 2 32 Tryd.underlying28 hi hz0 hz1 hz2 rfl (by omega) v l.length (fldCells l) HO1 ⟨W.heap.size, 0, none⟩ 1 1 [.string ⟨p.1.toArray⟩, .string ⟨p.2.toArray⟩] rfl hnews
    (by intro u hu; simp at hu; rcases hu with rfl | rfl <;> rfl) (by simp only [maxLen]; omega) (by omega) (Nat.le_trans hb hA.size)
  refine ⟨v1, w1, hrun, ?_, (World.grownBy_alloc W _ _).trans h3, ((Below.refl base W).alloc hb _).grown h3 (Nat.le_trans hb hA.size) (own_base HO)⟩
  unfold OwnF
  rw [fldCells_snoc]
  simpa using h2
theorem byte_of {c d : UInt8} {t : Bs} {h0 : 0 < (⟨(c :: t).toArray⟩ : ByteArray).size} (h : (((⟨(c :: t).toArray⟩ : ByteArray)[0]'h0).toNat : Int) = (d.toNat : Int)) (_hd : d.toNat < 256) : c = d := by
  have h' : (c.toNat : Int) = (d.toNat : Int) := h
  exact UInt8.toNat_inj.1 (by omega)
theorem app_mk (a b : Bs) : (⟨a.toArray⟩ : ByteArray) ++ ⟨b.toArray⟩ = ⟨(a ++ b).toArray⟩ := by
  apply ByteArray.ext
  simp
theorem fold_own {W : World} {base g : Nat} {v : Value} {l : List Fld} {p : Fld} {c0 : UInt8} {t : Bs} (h : ∀ u : Bs, OwnF (W.setCell ⟨g, l.length * 2 + 1, none⟩ (.string ⟨u.toArray⟩)) base v (l ++ [(p.1, u)])) (k1 k2 : Nat) :
    OwnF ((W.drewN (k1 + k2)).setCell ⟨g, l.length * 2 + 1, none⟩ (.string ((⟨p.2.toArray⟩ : ByteArray) ++ ((⟨#[13, 10]⟩ : ByteArray) ++ ⟨(c0 :: t).toArray⟩)))) base v (l ++ [(p.1, p.2 ++ (13 :: 10 :: (c0 :: t)))]) := by
  have e : ((⟨p.2.toArray⟩ : ByteArray) ++ ((⟨#[13, 10]⟩ : ByteArray) ++ ⟨(c0 :: t).toArray⟩)) = ⟨(p.2 ++ (13 :: 10 :: (c0 :: t))).toArray⟩ := by
    rw [show (⟨#[13, 10]⟩ : ByteArray) = ⟨([13, 10] : Bs).toArray⟩ from rfl, app_mk, app_mk]
    rfl
  rw [e]
  exact h _
theorem emp_cons (c : UInt8) (t : Bs) : ((⟨(c :: t).toArray⟩ : ByteArray)).toList.isEmpty = false := by rw [toList_mk]; rfl

set_option maxHeartbeats 2000000 in
set_option maxRecDepth 1000000 in
theorem Split_calls (w : World) (hsh : w.ShapedOpen Tryd.prog) (A : Option Addr) (n c : Nat) (xs : List Int) (ws : Bs) (hws : whole xs = i8 ws) (hwl : ws.length ≤ 100000) (hr : ReadsInt w .u8 A n xs) (hnc : n ≤ c) (hn : n ≤ 1000000) :
    Calls Tryd.prog 13 #[.slice A n c] w (SplitPost w (splitGo (ws.length + 1) [] ws)) := by
  have HW := Whole_calls w A n c xs hr hnc hn
  rw [hws] at HW
  have HW := Lib.hid HW
  have HSH := Lib.hid hsh
  clear hr hnc hn hws hsh
  go_enter Tryd.func13, Tryd.ntmps13
  go_wp2_with fail
  refine HW.out.mono ?_
  rintro e w1 ⟨v, rfl, ⟨A1, c1, rfl, hr1, hc1, ha1⟩, hb1⟩
  have hcv := string_of_reads (P := Tryd.prog) (c := c1) Tryd.underlying26 Tryd.underlying5 Tryd.underlying9 hr1
  rw [strOf_i8] at hcv
  have HB1 := Lib.hid hb1
  clear hb1 hr1 hc1 ha1 HW
  go_wp2
  go_loopw [4, 5] (fun vo rest wr => ∃ (out : List Fld) (r : Bs) (F : Nat), rest = .string ⟨r.toArray⟩ ∧ Hid (OwnF wr w.heap.size vo out ∧ Below w.heap.size w wr ∧ splitGo F out r = splitGo (ws.length + 1) [] ws ∧ r.length < F ∧ r.length ≤ ws.length ∧ Fit ws.length out r ∧ out.length + r.length ≤ ws.length + 1))
    (fun _ rest _ => match rest with | .string s => s.size | _ => 0)
  case atStart => exact ⟨[], ws, ws.length + 1, rfl, Lib.hid ⟨own_nil _ _ _ _, HB1.out, rfl, by omega, Nat.le_refl _, (fun p hp => by cases hp), by simp⟩⟩
  case round =>
    obtain ⟨out, r, F, rfl, HR⟩ := hrel
    by_cases h0 : r = []
    · subst h0
      have hfin : Hid (splitGo (ws.length + 1) [] ws = (out, [])) := Lib.hid (by
        rw [← HR.out.2.2.1]
        obtain ⟨F, rfl⟩ : ∃ F', F = F' + 1 := ⟨F - 1, by have := HR.out.2.2.2.1; omega⟩
        rfl)
      go_wp2
      refine bodyPost_ret (v := .tuple #[u4, .slice none 0 0]) (by simp [results, Tryd.results13, go_sem]) rfl ?_
      rw [hfin.out]
      exact ⟨_, _, rfl, HR.out.1, SB.nil _ _, HR.out.2.1, fun a n c e => by cases e⟩
    · obtain ⟨F, rfl⟩ : ∃ F', F = F' + 1 := ⟨F - 1, by have := HR.out.2.2.2.1; omega⟩
      have hstep := HR.out.2.2.1
      rw [splitGo, if_neg h0] at hstep
      have hlt := more_lt r h0
      have hfold := HR.out.2.2.2.2.2.1.fold h0
      have hadd := HR.out.2.2.2.2.2.1.add h0 HR.out.2.2.2.2.1
      have hcle := cut_le r [13, 10]
      have hne : List.isEmpty r = false := by
        cases r with
        | nil => exact absurd rfl h0
        | cons a b => rfl
      obtain ⟨Ao, co, rfl⟩ := own_slice HR.out.1
      have hC1 := Cut_calls wr (shaped_below HSH.out HR.out.2.1 (Nat.le_refl _)) r [13, 10] (by have := HR.out.2.2.2.2.1; omega)
      have hC2 : ∀ k, Calls Tryd.prog 45 #[.string ⟨(Lib.cut r [13, 10]).1.toArray⟩, .string ⟨#[58]⟩] (wr.drewN k) _ := fun k => Cut_calls (wr.drewN k) (shaped_below HSH.out (pw_below_drewN HR.out.2.1 k) (Nat.le_refl _)) (Lib.cut r [13, 10]).1 [58] (by have := HR.out.2.2.2.2.1; omega)
      generalize hcc : Lib.cut r [13, 10] = cc at *
      obtain ⟨s1, m1, b1⟩ := cc
      simp only at hstep hlt hfold hadd hcle hC1 hC2
      generalize hdd : Lib.cut s1 [58] = dd at *
      obtain ⟨nm, vl, is⟩ := dd
      simp only at hstep hadd hC2
      have HC1 := Lib.hid hC1
      have HC2 := Lib.hid hC2
      have HST := Lib.hid hstep
      have HLT := Lib.hid (And.intro hlt (And.intro hfold (And.intro hadd (And.intro hcle (show nm.length ≤ 10000000 from by have := HR.out.2.2.2.2.1; have := cut_le s1 [58]; rw [hdd] at this; simp only at this hcle; omega)))))
      clear hC1 hC2 hstep hlt hfold hadd hcle hcc hdd h0
      have tok1 : True := trivial
      cases s1 with
      | nil =>
        have hnf : (!out.isEmpty && foldB ([] : Bs)) = false := by simp [foldB]
        have hst2 := HST.out
        rw [hnf, if_neg (by decide)] at hst2
        have kb := fun W => print_bytes (P := Tryd.prog) 9 26 5 Tryd.underlying9 Tryd.underlying26 Tryd.underlying5 ⟨m1.toArray⟩ W
        by_cases hnm : (is && nameOk nm) = true
        · rw [if_pos hnm] at hst2
          have HS2 := Lib.hid hst2
          clear hst2 hnf HST kb
          have his : is = true := by cases is; · simp at hnm
                                     · rfl
          subst his
          have hnm2 : nameOk nm = true := by simpa using hnm
          have HN : ∀ k, Calls Tryd.prog 20 #[.string ⟨nm.toArray⟩] (wr.drewN k) fun e w' => e = .returned (.bool true) ∧ wr.drewN k = w' := fun k => by have h := Name_calls ⟨nm.toArray⟩ (wr.drewN k) (by rw [size_mk]; exact HLT.out.2.2.2.2); rwa [show nameOk (⟨nm.toArray⟩ : ByteArray).data.toList = true from hnm2] at h
          have HN := Lib.hid HN
          have HAF := Lib.hid (fun k => appendF_run (wr.drewN k) w.heap.size _ out (nm, vl) (pw_own_drewN HR.out.1 k) HR.out.2.1.size (by have := HR.out.2.2.2.2.2.2; omega))
          clear hnm hnm2
          go_wp2_with (first | (go_at_call 45; have _t := tok1; refine HC1.out.mono ?_; rintro e w2 ⟨rfl, k1, rfl⟩; clear tok1 _t) | (go_at_call 45; refine (HC2.out _).mono ?_; rintro e w2 ⟨rfl, k2, rfl⟩) | (go_at_call 20; refine (HN.out _).mono ?_; rintro e w2 ⟨rfl, rfl⟩) | (at_builtin; obtain ⟨v9, w9, hr9, ho9, hg9, hb9⟩ := HAF.out (k1 + k2); refine wpList_append_known rfl (.tmp 68) (.tmp 72) 28 28 rfl (.slice Ao out.length co) (.slice (some ⟨wr.heap.size, 0, none⟩) 1 1) rfl rfl hr9 ?_; have HQ9 := Lib.hid (And.intro ho9 hb9); clear hr9 ho9 hg9 hb9))
          all_goals
            go_roundw
            case rel => exact ⟨_, m1, F, rfl, Lib.hid ⟨HQ9.out.1, (pw_below_drewN HR.out.2.1 _).trans HQ9.out.2, HS2.out, by have := HR.out.2.2.2.1; have := HLT.out.1; omega, by have := HR.out.2.2.2.2.1; have := HLT.out.1; omega, HLT.out.2.2.1, by have := HR.out.2.2.2.2.2.2; have := HLT.out.1; simp; omega⟩⟩
            case measure => have := HLT.out.1; simp [ByteArray.size]; omega
        · rw [if_neg hnm] at hst2
          have hfin : splitGo (ws.length + 1) [] ws = (out, m1) := by rw [← hst2]; simp
          have HS2 := Lib.hid hfin
          clear hst2 hnf HST hfin
          cases is with
          | true =>
            have hnm2 : nameOk nm = false := by simpa using hnm
            have HN : ∀ k, Calls Tryd.prog 20 #[.string ⟨nm.toArray⟩] (wr.drewN k) fun e w' => e = .returned (.bool false) ∧ wr.drewN k = w' := fun k => by have h := Name_calls ⟨nm.toArray⟩ (wr.drewN k) (by rw [size_mk]; exact HLT.out.2.2.2.2); rwa [show nameOk (⟨nm.toArray⟩ : ByteArray).data.toList = false from hnm2] at h
            have HN := Lib.hid HN
            clear hnm hnm2
            go_wp2_with (first | (go_at_call 45; have _t := tok1; refine HC1.out.mono ?_; rintro e w2 ⟨rfl, k1, rfl⟩; clear tok1 _t) | (go_at_call 45; refine (HC2.out _).mono ?_; rintro e w2 ⟨rfl, k2, rfl⟩) | (go_at_call 20; refine (HN.out _).mono ?_; rintro e w2 ⟨rfl, rfl⟩))
            all_goals
              go_ret2
              rw [HS2.out]
              exact ⟨_, _, rfl, pw_own_below (pw_own_drewN HR.out.1 _) (conv_below _ _), by have h := conv_sb (wr.drewN (k1 + k2)) ⟨m1.toArray⟩ (by rw [size_mk]; have := HR.out.2.2.2.2.1; have := HLT.out.1; omega); rw [bytesOf_mk] at h; exact h.lower HR.out.2.1.size, below_then (pw_below_drewN HR.out.2.1 _) HR.out.2.1.size (conv_below _ _), apart_own (W := wr.drewN (k1 + k2)) (pw_own_drewN HR.out.1 _) _ _⟩
          | false =>
            clear hnm
            go_wp2_with (first | (go_at_call 45; have _t := tok1; refine HC1.out.mono ?_; rintro e w2 ⟨rfl, k1, rfl⟩; clear tok1 _t) | (go_at_call 45; refine (HC2.out _).mono ?_; rintro e w2 ⟨rfl, k2, rfl⟩))
            all_goals
              go_ret2
              rw [HS2.out]
              exact ⟨_, _, rfl, pw_own_below (pw_own_drewN HR.out.1 _) (conv_below _ _), by have h := conv_sb (wr.drewN (k1 + k2)) ⟨m1.toArray⟩ (by rw [size_mk]; have := HR.out.2.2.2.2.1; have := HLT.out.1; omega); rw [bytesOf_mk] at h; exact h.lower HR.out.2.1.size, below_then (pw_below_drewN HR.out.2.1 _) HR.out.2.1.size (conv_below _ _), apart_own (W := wr.drewN (k1 + k2)) (pw_own_drewN HR.out.1 _) _ _⟩
      | cons c0 t =>
        by_cases ho : 0 < out.length
        · by_cases e32 : c0 = 32
          · skip
            have hnf : (!out.isEmpty && foldB (c0 :: t)) = true := by
              have hoe : out ≠ [] := by rintro rfl; simp at ho
              simp [foldB, e32, hoe]
            have hst2 := HST.out
            rw [if_pos hnf] at hst2
            have HS2 := Lib.hid hst2
            have d32 : ((((⟨(c0 :: t).toArray⟩ : ByteArray)[0]'(by rw [size_mk]; simp)).toNat : Int) == 32) = true := beq_iff_eq.2 (by show (c0.toNat : Int) = 32; rw [e32]; rfl)
            clear hst2 hnf HST e32
            obtain ⟨l, p, rfl⟩ := split_last out (by rintro rfl; simp at ho)
            obtain ⟨g, cg, e0, hcl, hfz, hbg, hset⟩ := own_last HR.out.1
            have hset' := fun k1 k2 => fold_own (c0 := c0) (t := t) hset k1 k2
            simp only [List.length_append, List.length_singleton] at hset' e0
            have HQ := Lib.hid (And.intro hbg hset')
            injection e0 with e1 e2 e3
            subst e1 e3
            clear hbg hset hset' e2 ho
            have hsz := Lib.hid (HR.out.2.2.2.2.2.1 p (by simp))
            have hb0 := HLT.out.2.2.2.1.1
            simp only [List.length_cons] at hb0
            have hb1 : ¬ (9223372036854775807 < 2 + (t.length + 1)) := by have := HR.out.2.2.2.2.1; omega
            have hb2 : ¬ (9223372036854775807 < p.2.length + (2 + (t.length + 1))) := by have := hsz.out.2; have := HR.out.2.2.2.2.1; omega
            clear hb0
            have hl0 := HR.out.2.2.2.2.2.2
            rw [List.length_append, List.length_singleton] at hl0
            have hl1 : l.length ≤ 100001 := by omega
            have HL0 := Lib.hid hl0
            clear hl0
            go_wp2_with (first | (go_at_call 45; have _t := tok1; refine HC1.out.mono ?_; rintro e w2 ⟨rfl, k1, rfl⟩; clear tok1 _t) | (go_at_call 45; refine (HC2.out _).mono ?_; rintro e w2 ⟨rfl, k2, rfl⟩))
            all_goals
              go_roundw
              case rel => exact ⟨addLast (l ++ [p]) (c0 :: t), m1, F, rfl, Lib.hid ⟨by rw [addLast_snoc]; exact HQ.out.2 k1 k2, ((pw_below_drewN HR.out.2.1 _).setCell HQ.out.1 _), HS2.out, by have := HR.out.2.2.2.1; have := HLT.out.1; omega, by have := HR.out.2.2.2.2.1; have := HLT.out.1; omega, HLT.out.2.1, by have := HL0.out; have := HLT.out.1; rw [addLast_snoc, List.length_append, List.length_singleton]; omega⟩⟩
              case measure => have := HLT.out.1; simp [ByteArray.size]; omega
          · by_cases e9 : c0 = 9
            · skip
              have hnf : (!out.isEmpty && foldB (c0 :: t)) = true := by
                have hoe : out ≠ [] := by rintro rfl; simp at ho
                simp [foldB, e9, hoe]
              have hst2 := HST.out
              rw [if_pos hnf] at hst2
              have HS2 := Lib.hid hst2
              have d9 : ((((⟨(c0 :: t).toArray⟩ : ByteArray)[0]'(by rw [size_mk]; simp)).toNat : Int) == 9) = true := beq_iff_eq.2 (by show (c0.toNat : Int) = 9; rw [e9]; rfl)
              have d32 : ((((⟨(c0 :: t).toArray⟩ : ByteArray)[0]'(by rw [size_mk]; simp)).toNat : Int) == 32) = false := beq_eq_false_iff_ne.2 (fun h => e32 (byte_of h (by decide)))
              clear hst2 hnf HST e9 e32
              obtain ⟨l, p, rfl⟩ := split_last out (by rintro rfl; simp at ho)
              obtain ⟨g, cg, e0, hcl, hfz, hbg, hset⟩ := own_last HR.out.1
              have hset' := fun k1 k2 => fold_own (c0 := c0) (t := t) hset k1 k2
              simp only [List.length_append, List.length_singleton] at hset' e0
              have HQ := Lib.hid (And.intro hbg hset')
              injection e0 with e1 e2 e3
              subst e1 e3
              clear hbg hset hset' e2 ho
              have hsz := Lib.hid (HR.out.2.2.2.2.2.1 p (by simp))
              have hb0 := HLT.out.2.2.2.1.1
              simp only [List.length_cons] at hb0
              have hb1 : ¬ (9223372036854775807 < 2 + (t.length + 1)) := by have := HR.out.2.2.2.2.1; omega
              have hb2 : ¬ (9223372036854775807 < p.2.length + (2 + (t.length + 1))) := by have := hsz.out.2; have := HR.out.2.2.2.2.1; omega
              clear hb0
              have hl0 := HR.out.2.2.2.2.2.2
              rw [List.length_append, List.length_singleton] at hl0
              have hl1 : l.length ≤ 100001 := by omega
              have HL0 := Lib.hid hl0
              clear hl0
              go_wp2_with (first | (go_at_call 45; have _t := tok1; refine HC1.out.mono ?_; rintro e w2 ⟨rfl, k1, rfl⟩; clear tok1 _t) | (go_at_call 45; refine (HC2.out _).mono ?_; rintro e w2 ⟨rfl, k2, rfl⟩))
              all_goals
                go_roundw
                case rel => exact ⟨addLast (l ++ [p]) (c0 :: t), m1, F, rfl, Lib.hid ⟨by rw [addLast_snoc]; exact HQ.out.2 k1 k2, ((pw_below_drewN HR.out.2.1 _).setCell HQ.out.1 _), HS2.out, by have := HR.out.2.2.2.1; have := HLT.out.1; omega, by have := HR.out.2.2.2.2.1; have := HLT.out.1; omega, HLT.out.2.1, by have := HL0.out; have := HLT.out.1; rw [addLast_snoc, List.length_append, List.length_singleton]; omega⟩⟩
                case measure => have := HLT.out.1; simp [ByteArray.size]; omega
            · have d32 : ((((⟨(c0 :: t).toArray⟩ : ByteArray)[0]'(by rw [size_mk]; simp)).toNat : Int) == 32) = false := beq_eq_false_iff_ne.2 (fun h => e32 (byte_of h (by decide)))
              have d9 : ((((⟨(c0 :: t).toArray⟩ : ByteArray)[0]'(by rw [size_mk]; simp)).toNat : Int) == 9) = false := beq_eq_false_iff_ne.2 (fun h => e9 (byte_of h (by decide)))
              have hnf : (!out.isEmpty && foldB (c0 :: t)) = false := by simp [foldB, e32, e9]
              have hst2 := HST.out
              rw [hnf, if_neg (by decide)] at hst2
              have kb := fun W => print_bytes (P := Tryd.prog) 9 26 5 Tryd.underlying9 Tryd.underlying26 Tryd.underlying5 ⟨r.toArray⟩ W
              by_cases hnm : (is && nameOk nm) = true
              · rw [if_pos hnm] at hst2
                have HS2 := Lib.hid hst2
                clear hst2 hnf HST kb
                have his : is = true := by cases is; · simp at hnm
                                           · rfl
                subst his
                have hnm2 : nameOk nm = true := by simpa using hnm
                have HN : ∀ k, Calls Tryd.prog 20 #[.string ⟨nm.toArray⟩] (wr.drewN k) fun e w' => e = .returned (.bool true) ∧ wr.drewN k = w' := fun k => by have h := Name_calls ⟨nm.toArray⟩ (wr.drewN k) (by rw [size_mk]; exact HLT.out.2.2.2.2); rwa [show nameOk (⟨nm.toArray⟩ : ByteArray).data.toList = true from hnm2] at h
                have HN := Lib.hid HN
                have HAF := Lib.hid (fun k => appendF_run (wr.drewN k) w.heap.size _ out (nm, vl) (pw_own_drewN HR.out.1 k) HR.out.2.1.size (by have := HR.out.2.2.2.2.2.2; omega))
                clear hnm hnm2
                go_wp2_with (first | (go_at_call 45; have _t := tok1; refine HC1.out.mono ?_; rintro e w2 ⟨rfl, k1, rfl⟩; clear tok1 _t) | (go_at_call 45; refine (HC2.out _).mono ?_; rintro e w2 ⟨rfl, k2, rfl⟩) | (go_at_call 20; refine (HN.out _).mono ?_; rintro e w2 ⟨rfl, rfl⟩) | (at_builtin; obtain ⟨v9, w9, hr9, ho9, hg9, hb9⟩ := HAF.out (k1 + k2); refine wpList_append_known rfl (.tmp 68) (.tmp 72) 28 28 rfl (.slice Ao out.length co) (.slice (some ⟨wr.heap.size, 0, none⟩) 1 1) rfl rfl hr9 ?_; have HQ9 := Lib.hid (And.intro ho9 hb9); clear hr9 ho9 hg9 hb9))
                all_goals
                  go_roundw
                  case rel => exact ⟨_, m1, F, rfl, Lib.hid ⟨HQ9.out.1, (pw_below_drewN HR.out.2.1 _).trans HQ9.out.2, HS2.out, by have := HR.out.2.2.2.1; have := HLT.out.1; omega, by have := HR.out.2.2.2.2.1; have := HLT.out.1; omega, HLT.out.2.2.1, by have := HR.out.2.2.2.2.2.2; have := HLT.out.1; simp; omega⟩⟩
                  case measure => have := HLT.out.1; simp [ByteArray.size]; omega
              · rw [if_neg hnm] at hst2
                have hfin : splitGo (ws.length + 1) [] ws = (out, r) := by rw [← hst2]; simp
                have HS2 := Lib.hid hfin
                clear hst2 hnf HST hfin
                cases is with
                | true =>
                  have hnm2 : nameOk nm = false := by simpa using hnm
                  have HN : ∀ k, Calls Tryd.prog 20 #[.string ⟨nm.toArray⟩] (wr.drewN k) fun e w' => e = .returned (.bool false) ∧ wr.drewN k = w' := fun k => by have h := Name_calls ⟨nm.toArray⟩ (wr.drewN k) (by rw [size_mk]; exact HLT.out.2.2.2.2); rwa [show nameOk (⟨nm.toArray⟩ : ByteArray).data.toList = false from hnm2] at h
                  have HN := Lib.hid HN
                  clear hnm hnm2
                  go_wp2_with (first | (go_at_call 45; have _t := tok1; refine HC1.out.mono ?_; rintro e w2 ⟨rfl, k1, rfl⟩; clear tok1 _t) | (go_at_call 45; refine (HC2.out _).mono ?_; rintro e w2 ⟨rfl, k2, rfl⟩) | (go_at_call 20; refine (HN.out _).mono ?_; rintro e w2 ⟨rfl, rfl⟩))
                  all_goals
                    go_ret2
                    rw [HS2.out]
                    exact ⟨_, _, rfl, pw_own_below (pw_own_drewN HR.out.1 _) (conv_below _ _), by have h := conv_sb (wr.drewN (k1 + k2)) ⟨r.toArray⟩ (by rw [size_mk]; have := HR.out.2.2.2.2.1; have := HLT.out.1; omega); rw [bytesOf_mk] at h; exact h.lower HR.out.2.1.size, below_then (pw_below_drewN HR.out.2.1 _) HR.out.2.1.size (conv_below _ _), apart_own (W := wr.drewN (k1 + k2)) (pw_own_drewN HR.out.1 _) _ _⟩
                | false =>
                  clear hnm
                  go_wp2_with (first | (go_at_call 45; have _t := tok1; refine HC1.out.mono ?_; rintro e w2 ⟨rfl, k1, rfl⟩; clear tok1 _t) | (go_at_call 45; refine (HC2.out _).mono ?_; rintro e w2 ⟨rfl, k2, rfl⟩))
                  all_goals
                    go_ret2
                    rw [HS2.out]
                    exact ⟨_, _, rfl, pw_own_below (pw_own_drewN HR.out.1 _) (conv_below _ _), by have h := conv_sb (wr.drewN (k1 + k2)) ⟨r.toArray⟩ (by rw [size_mk]; have := HR.out.2.2.2.2.1; have := HLT.out.1; omega); rw [bytesOf_mk] at h; exact h.lower HR.out.2.1.size, below_then (pw_below_drewN HR.out.2.1 _) HR.out.2.1.size (conv_below _ _), apart_own (W := wr.drewN (k1 + k2)) (pw_own_drewN HR.out.1 _) _ _⟩
        · have d0 : decide (0 < out.length) = false := decide_eq_false ho
          have hnf : (!out.isEmpty && foldB (c0 :: t)) = false := by
            have hoe : out = [] := List.eq_nil_of_length_eq_zero (by omega)
            simp [hoe]
          have hst2 := HST.out
          rw [hnf, if_neg (by decide)] at hst2
          have kb := fun W => print_bytes (P := Tryd.prog) 9 26 5 Tryd.underlying9 Tryd.underlying26 Tryd.underlying5 ⟨r.toArray⟩ W
          by_cases hnm : (is && nameOk nm) = true
          · rw [if_pos hnm] at hst2
            have HS2 := Lib.hid hst2
            clear hst2 hnf HST kb
            have his : is = true := by cases is; · simp at hnm
                                       · rfl
            subst his
            have hnm2 : nameOk nm = true := by simpa using hnm
            have HN : ∀ k, Calls Tryd.prog 20 #[.string ⟨nm.toArray⟩] (wr.drewN k) fun e w' => e = .returned (.bool true) ∧ wr.drewN k = w' := fun k => by have h := Name_calls ⟨nm.toArray⟩ (wr.drewN k) (by rw [size_mk]; exact HLT.out.2.2.2.2); rwa [show nameOk (⟨nm.toArray⟩ : ByteArray).data.toList = true from hnm2] at h
            have HN := Lib.hid HN
            have HAF := Lib.hid (fun k => appendF_run (wr.drewN k) w.heap.size _ out (nm, vl) (pw_own_drewN HR.out.1 k) HR.out.2.1.size (by have := HR.out.2.2.2.2.2.2; omega))
            clear hnm hnm2
            go_wp2_with (first | (go_at_call 45; have _t := tok1; refine HC1.out.mono ?_; rintro e w2 ⟨rfl, k1, rfl⟩; clear tok1 _t) | (go_at_call 45; refine (HC2.out _).mono ?_; rintro e w2 ⟨rfl, k2, rfl⟩) | (go_at_call 20; refine (HN.out _).mono ?_; rintro e w2 ⟨rfl, rfl⟩) | (at_builtin; obtain ⟨v9, w9, hr9, ho9, hg9, hb9⟩ := HAF.out (k1 + k2); refine wpList_append_known rfl (.tmp 68) (.tmp 72) 28 28 rfl (.slice Ao out.length co) (.slice (some ⟨wr.heap.size, 0, none⟩) 1 1) rfl rfl hr9 ?_; have HQ9 := Lib.hid (And.intro ho9 hb9); clear hr9 ho9 hg9 hb9))
            all_goals
              go_roundw
              case rel => exact ⟨_, m1, F, rfl, Lib.hid ⟨HQ9.out.1, (pw_below_drewN HR.out.2.1 _).trans HQ9.out.2, HS2.out, by have := HR.out.2.2.2.1; have := HLT.out.1; omega, by have := HR.out.2.2.2.2.1; have := HLT.out.1; omega, HLT.out.2.2.1, by have := HR.out.2.2.2.2.2.2; have := HLT.out.1; simp; omega⟩⟩
              case measure => have := HLT.out.1; simp [ByteArray.size]; omega
          · rw [if_neg hnm] at hst2
            have hfin : splitGo (ws.length + 1) [] ws = (out, r) := by rw [← hst2]; simp
            have HS2 := Lib.hid hfin
            clear hst2 hnf HST hfin
            cases is with
            | true =>
              have hnm2 : nameOk nm = false := by simpa using hnm
              have HN : ∀ k, Calls Tryd.prog 20 #[.string ⟨nm.toArray⟩] (wr.drewN k) fun e w' => e = .returned (.bool false) ∧ wr.drewN k = w' := fun k => by have h := Name_calls ⟨nm.toArray⟩ (wr.drewN k) (by rw [size_mk]; exact HLT.out.2.2.2.2); rwa [show nameOk (⟨nm.toArray⟩ : ByteArray).data.toList = false from hnm2] at h
              have HN := Lib.hid HN
              clear hnm hnm2
              go_wp2_with (first | (go_at_call 45; have _t := tok1; refine HC1.out.mono ?_; rintro e w2 ⟨rfl, k1, rfl⟩; clear tok1 _t) | (go_at_call 45; refine (HC2.out _).mono ?_; rintro e w2 ⟨rfl, k2, rfl⟩) | (go_at_call 20; refine (HN.out _).mono ?_; rintro e w2 ⟨rfl, rfl⟩))
              all_goals
                go_ret2
                rw [HS2.out]
                exact ⟨_, _, rfl, pw_own_below (pw_own_drewN HR.out.1 _) (conv_below _ _), by have h := conv_sb (wr.drewN (k1 + k2)) ⟨r.toArray⟩ (by rw [size_mk]; have := HR.out.2.2.2.2.1; have := HLT.out.1; omega); rw [bytesOf_mk] at h; exact h.lower HR.out.2.1.size, below_then (pw_below_drewN HR.out.2.1 _) HR.out.2.1.size (conv_below _ _), apart_own (W := wr.drewN (k1 + k2)) (pw_own_drewN HR.out.1 _) _ _⟩
            | false =>
              clear hnm
              go_wp2_with (first | (go_at_call 45; have _t := tok1; refine HC1.out.mono ?_; rintro e w2 ⟨rfl, k1, rfl⟩; clear tok1 _t) | (go_at_call 45; refine (HC2.out _).mono ?_; rintro e w2 ⟨rfl, k2, rfl⟩))
              all_goals
                go_ret2
                rw [HS2.out]
                exact ⟨_, _, rfl, pw_own_below (pw_own_drewN HR.out.1 _) (conv_below _ _), by have h := conv_sb (wr.drewN (k1 + k2)) ⟨r.toArray⟩ (by rw [size_mk]; have := HR.out.2.2.2.2.1; have := HLT.out.1; omega); rw [bytesOf_mk] at h; exact h.lower HR.out.2.1.size, below_then (pw_below_drewN HR.out.2.1 _) HR.out.2.1.size (conv_below _ _), apart_own (W := wr.drewN (k1 + k2)) (pw_own_drewN HR.out.1 _) _ _⟩
end Go.Proofs.YtfpcngoonfbphaaDoor

/- addr.Lower, head.Get, head.Hops. -/
set_option linter.unusedVariables false
set_option linter.unusedSimpArgs false
namespace Go.Proofs.YtfpcngoonfbphaaDoor
open Go.RowKit Go.Proofs.YtfpcngoonfbphaaDoorW.PrintWords Go.Proofs.YtfpcngoonfbphaaDoor.Pl

namespace Pl
def lowB (c : UInt8) : UInt8 := if 65 ≤ c ∧ c ≤ 90 then c ||| 32 else c
def low (l : Bs) : Bs := l.map lowB
end Pl
/-- What Lower has written when it stands at k. -/
def lowAt (l : Bs) (k : Nat) : Bs := Pl.low (l.take k) ++ l.drop k
theorem lowAt_len (l : Bs) (k : Nat) : (lowAt l k).length = l.length := by simp [lowAt, Pl.low]; omega
theorem lowAt_get (l : Bs) (k : Nat) (h : k < l.length) : (lowAt l k)[k]'(by rw [lowAt_len]; exact h) = l[k] := by
  unfold lowAt
  rw [List.getElem_append_right (by simp [Pl.low]; omega)]
  simp [Pl.low, Nat.min_eq_left (Nat.le_of_lt h)]
theorem lowAt_step (l : Bs) (k : Nat) (h : k < l.length) : lowAt l (k + 1) = (lowAt l k).set k (Pl.lowB l[k]) := by
  unfold lowAt
  rw [List.set_append_right _ _ (by simp [Pl.low]; omega)]
  have e : k - (Pl.low (l.take k)).length = 0 := by simp [Pl.low]; omega
  rw [e, List.drop_eq_getElem_cons h, List.set_cons_zero]
  rw [List.take_succ_eq_append_getElem h]
  unfold Pl.low
  rw [List.map_append, List.append_assoc]
  rfl
theorem lowAt_same (l : Bs) (k : Nat) (h : k < l.length) (hc : Pl.lowB l[k] = l[k]) : lowAt l (k + 1) = lowAt l k := by
  rw [lowAt_step l k h, hc]
  conv => lhs; rw [← lowAt_get l k h]
  rw [List.set_getElem_self]
/-- A row that Lower writes: its cells, and that they may be written. -/
def LowW (W : World) (g : Nat) (l : Bs) : Prop := ∀ j (hj : j < l.length), W.cell? ⟨g, j, none⟩ = some (.int .u8 l[j].toNat) ∧ W.frozen? ⟨g, j, none⟩ = false
theorem LowW.store {W : World} {g : Nat} {l : Bs} (h : LowW W g l) (k : Nat) (hk : k < l.length) (c : UInt8) : LowW (W.setCell ⟨g, k, none⟩ (.int .u8 c.toNat)) g (l.set k c) := by
  intro j hj
  have hj' : j < l.length := by simpa using hj
  refine ⟨?_, by rw [World.frozen?_setCell]; exact (h j hj').2⟩
  by_cases e : j = k
  · subst e
    rw [World.cell?_setCell_same _ _ _ (h j hj').1]
    simp
  · rw [World.cell?_setCell_other _ _ _ _ (by intro q; injection q with _ q2; exact e q2.symm), (h j hj').1]
    rw [List.getElem_set_ne (by omega)]
theorem LowW.reads {W : World} {g : Nat} {l : Bs} (h : LowW W g l) (hm : l.length ≤ 9223372036854775807) : ReadsInt W .u8 (some ⟨g, 0, none⟩) l.length (i8 l) := by
  refine ⟨i8_len l, hm, fun _ => ⟨_, rfl, fun j hj => ?_⟩⟩
  rw [add_plain, (h j hj).1]
  simp [i8, List.getD_eq_getElem?_getD, List.getElem?_eq_getElem hj]
theorem conv_low (W : World) (s : Bs) : LowW (Lib.bytesWorld W 5 ⟨s.toArray⟩) W.heap.size s := by
  intro j hj
  refine ⟨?_, ?_⟩
  · rw [Lib.bytesWorld_cell W 5 ⟨s.toArray⟩ j (by rw [size_mk]; exact hj)]
    simp [List.getD_eq_getElem?_getD, List.getElem?_eq_getElem hj]
  · unfold World.frozen?
    rw [Lib.bytesWorld_at_new]
    have : j < (Lib.bytesCells W 5 ⟨s.toArray⟩).size := by
      unfold Lib.bytesCells
      rw [Array.size_append, Array.size_map]
      simp
      omega
    simp
    omega
theorem low_or : ∀ c : UInt8, 65 ≤ c.toNat → c.toNat ≤ 90 → (Pl.lowB c).toNat = c.toNat ||| 32 := by
  intro c h1 h2
  unfold Pl.lowB
  rw [if_pos (by simp only [UInt8.le_iff_toNat_le]; exact ⟨h1, h2⟩), UInt8.toNat_or]
  rfl
theorem or_bits : ∀ n, n < 91 → bits BinOp.or IntKind.u8 ((n : Nat) : Int) 32 = ((n ||| 32 : Nat) : Int) := by decide +kernel
theorem low_no : ∀ c : UInt8, (c.toNat < 65 ∨ 90 < c.toNat) → Pl.lowB c = c := by
  intro c h
  unfold Pl.lowB
  rw [if_neg (by simp only [UInt8.le_iff_toNat_le]; intro q; have q1 : 65 ≤ c.toNat := q.1; have q2 : c.toNat ≤ 90 := q.2; omega)]
set_option maxHeartbeats 1000000 in
theorem Lower_calls (s : Bs) (w : World) (hs : s.length ≤ 10000000) :
    Calls Tryd.prog 46 #[.string ⟨s.toArray⟩] w fun e w' => e = .returned (.string ⟨(Pl.low s).toArray⟩) ∧ Below w.heap.size w w' := by
  have kb := fun W => print_bytes (P := Tryd.prog) 9 26 5 Tryd.underlying9 Tryd.underlying26 Tryd.underlying5 ⟨s.toArray⟩ W
  have hsz := size_mk s
  have HL := Lib.hid (conv_low w s)
  have HB := Lib.hid (conv_below w ⟨s.toArray⟩)
  go_enter Tryd.func46, Tryd.ntmps46
  go_wp2
  go_loopw [10] (fun i wr => ∃ k : Nat, k ≤ s.length ∧ i = .int .i64 k ∧ Hid (LowW wr w.heap.size (lowAt s k) ∧ Below w.heap.size w wr)) (fun i _ => s.length - (intOf i).toNat)
  case atStart => exact ⟨0, Nat.zero_le _, rfl, Lib.hid ⟨HL.out, HB.out⟩⟩
  case round =>
    obtain ⟨k, hk, rfl, HR⟩ := hrel
    by_cases hlt : k < s.length
    · have hc : wr.cell? ⟨w.heap.size, k, none⟩ = some (.int .u8 s[k].toNat) := by
        have := (HR.out.1 k (by rw [lowAt_len]; exact hlt)).1
        rw [lowAt_get s k hlt] at this
        exact this
      have hz := (HR.out.1 k (by rw [lowAt_len]; exact hlt)).2
      have hlow := Lib.hid (low_or s[k])
      have hno := Lib.hid (low_no s[k])
      have hsame := Lib.hid (lowAt_same s k hlt)
      have hstep := Lib.hid (lowAt_step s k hlt)
      have hc256 : s[k].toNat < 256 := s[k].toNat_lt
      by_cases b1 : 65 ≤ s[k].toNat
      · have d1 : decide (65 ≤ (s[k].toNat : Int)) = true := decide_eq_true (by omega)
        by_cases b2 : s[k].toNat ≤ 90
        · have d2 : decide ((s[k].toNat : Int) ≤ 90) = true := decide_eq_true (by omega)
          go_wp2
          go_roundw
          case rel => exact ⟨k + 1, by omega, by go_num, Lib.hid ⟨by have h := HR.out.1.store k (by rw [lowAt_len]; exact hlt) (Pl.lowB s[k]); rw [← hstep.out, hlow.out (by omega) (by omega), ← or_bits _ (by omega)] at h; exact h, HR.out.2.setCell (Nat.le_refl _) _⟩⟩
          case measure => simp [intOf]; omega
        · have d2 : decide ((s[k].toNat : Int) ≤ 90) = false := decide_eq_false (by omega)
          go_wp2
          go_roundw
          case rel => exact ⟨k + 1, by omega, by go_num, Lib.hid ⟨by rw [hsame.out (hno.out (.inr (by omega)))]; exact HR.out.1, HR.out.2⟩⟩
          case measure => simp [intOf]; omega
      · have d1 : decide (65 ≤ (s[k].toNat : Int)) = false := decide_eq_false (by omega)
        go_wp2
        go_roundw
        case rel => exact ⟨k + 1, by omega, by go_num, Lib.hid ⟨by rw [hsame.out (hno.out (.inl (by omega)))]; exact HR.out.1, HR.out.2⟩⟩
        case measure => simp [intOf]; omega
    · have hcv : ∀ c, (convert 26 9 (.slice (some ⟨w.heap.size, 0, none⟩) s.length c)).run Tryd.prog wr = .ok (.string ⟨(Pl.low s).toArray⟩) wr := by
        intro c
        have e : lowAt s k = Pl.low s := by unfold lowAt; rw [List.take_of_length_le (by omega), List.drop_of_length_le (by omega), List.append_nil]
        have h := string_of_reads (c := c) (P := Tryd.prog) Tryd.underlying26 Tryd.underlying5 Tryd.underlying9 (HR.out.1.reads (by rw [lowAt_len]; omega))
        rw [lowAt_len, e, strOf_i8] at h
        exact h
      go_wp2
      go_ret
      exact ⟨rfl, HR.out.2⟩
end Go.Proofs.YtfpcngoonfbphaaDoor

/- head.Get, head.Hops. -/
set_option linter.unusedVariables false
set_option linter.unusedSimpArgs false
namespace Go.Proofs.YtfpcngoonfbphaaDoor
open Go.RowKit Go.Proofs.YtfpcngoonfbphaaDoorW.PrintWords Go.Proofs.YtfpcngoonfbphaaDoor.Pl

namespace Pl
def hit (nm : Bs) (p : Fld) : Bool := low p.1 == low nm
def getV (l : List Fld) (nm : Bs) : Bs := ((l.find? (hit nm)).map (·.2)).getD []
def getN (l : List Fld) (nm : Bs) : Nat := l.countP (hit nm)
theorem getN_take_le (l : List Fld) (nm : Bs) (k : Nat) : getN (l.take k) nm ≤ k := Nat.le_trans List.countP_le_length (by simp; omega)
theorem getN_miss {l : List Fld} {nm : Bs} {k : Nat} (hk : k < l.length) (h : hit nm l[k] = false) : getN (l.take (k + 1)) nm = getN (l.take k) nm := by
  unfold getN; rw [List.take_succ_eq_append_getElem hk, List.countP_append]; simp [h]
theorem getN_hit {l : List Fld} {nm : Bs} {k : Nat} (hk : k < l.length) (h : hit nm l[k] = true) : getN (l.take (k + 1)) nm = getN (l.take k) nm + 1 := by
  unfold getN; rw [List.take_succ_eq_append_getElem hk, List.countP_append]; simp [h]
theorem getV_miss {l : List Fld} {nm : Bs} {k : Nat} (hk : k < l.length) (h : hit nm l[k] = false) : getV (l.take (k + 1)) nm = getV (l.take k) nm := by
  unfold getV; rw [List.take_succ_eq_append_getElem hk, List.find?_append]; simp [h]
theorem getV_first {l : List Fld} {nm : Bs} {k : Nat} (hk : k < l.length) (h : hit nm l[k] = true) (h0 : getN (l.take k) nm = 0) : getV (l.take (k + 1)) nm = l[k].2 := by
  have hn : (l.take k).find? (hit nm) = none := by
    rw [List.find?_eq_none]
    intro x hx hh
    unfold getN at h0
    rw [List.countP_eq_zero] at h0
    exact h0 x hx hh
  unfold getV; rw [List.take_succ_eq_append_getElem hk, List.find?_append, hn]; simp [h]
theorem getV_later {l : List Fld} {nm : Bs} {k : Nat} (hk : k < l.length) (h0 : getN (l.take k) nm ≠ 0) : getV (l.take (k + 1)) nm = getV (l.take k) nm := by
  have hs : ∃ x, (l.take k).find? (hit nm) = some x := by
    cases hf : (l.take k).find? (hit nm) with
    | some x => exact ⟨x, rfl⟩
    | none =>
      exfalso
      apply h0
      unfold getN
      rw [List.countP_eq_zero]
      intro x hx
      rw [List.find?_eq_none] at hf
      exact hf x hx
  obtain ⟨x, hx⟩ := hs
  unfold getV; rw [List.take_succ_eq_append_getElem hk, List.find?_append, hx]; simp
end Pl

/-- A row of fields, as read. -/
def FldRd (W : World) (A : Option Addr) (n : Nat) (l : List Fld) : Prop :=
  l.length = n ∧ (0 < n → ∃ g o, A = some ⟨g, o, none⟩ ∧ ∀ j (hj : j < l.length), W.cell? ⟨g, o + j * 2, none⟩ = some (.string ⟨l[j].1.toArray⟩) ∧ W.cell? ⟨g, o + j * 2 + 1, none⟩ = some (.string ⟨l[j].2.toArray⟩))
theorem FldRd.below {w w' : World} {A : Option Addr} {n : Nat} {l : List Fld} (h : FldRd w A n l) (hb : Below w.heap.size w w') : FldRd w' A n l := by
  refine ⟨h.1, fun h0 => ?_⟩
  obtain ⟨g, o, e, hc⟩ := h.2 h0
  refine ⟨g, o, e, fun j hj => ?_⟩
  have h1 := (hc j hj).1
  have h2 := (hc j hj).2
  exact ⟨(hb.cell (World.block_lt_of_cell? _ _ h1)).trans h1, (hb.cell (World.block_lt_of_cell? _ _ h2)).trans h2⟩

set_option maxHeartbeats 2000000 in
set_option maxRecDepth 100000 in
theorem Get_calls (w : World) (A : Option Addr) (n c : Nat) (l : List Fld) (nm : Bs) (hr : FldRd w A n l) (hnc : n ≤ c) (hn : n ≤ 1000000) (hnm : nm.length ≤ 10000000) (hl : ∀ j (hj : j < l.length), l[j].1.length ≤ 10000000) :
    Calls Tryd.prog 14 #[.slice A n c, .string ⟨nm.toArray⟩] w fun e w' => e = .returned (.tuple #[.string ⟨(Pl.getV l nm).toArray⟩, .int .i64 (Pl.getN l nm)]) ∧ Below w.heap.size w w' := by
  have hlen := hr.1
  have HR0 := Lib.hid hr
  have HL := Lib.hid hl
  have HNM := Lib.hid (fun w => Lower_calls nm w hnm)
  clear hr hl
  go_enter Tryd.func14, Tryd.ntmps14
  go_wp2
  go_loopw [6, 7, 12] (fun v m i wr => ∃ k : Nat, k ≤ n ∧ i = .int .i64 k ∧ v = .string ⟨(Pl.getV (l.take k) nm).toArray⟩ ∧ m = .int .i64 (Pl.getN (l.take k) nm) ∧ Hid (Below w.heap.size w wr)) (fun _ _ i _ => n - (intOf i).toNat)
  case atStart => exact ⟨0, Nat.zero_le _, rfl, rfl, rfl, Lib.hid (Below.refl _ _)⟩
  case round =>
    obtain ⟨k, hk, rfl, rfl, rfl, HB⟩ := hrel
    by_cases hlt : k < n
    · have HR := Lib.hid (HR0.out.below HB.out)
      obtain ⟨g, o, rfl, hc⟩ := HR.out.2 (by omega)
      have hkl : k < l.length := by omega
      have hc1 := (hc k hkl).1
      have hc2 := (hc k hkl).2
      have HLk := Lib.hid (fun w => Lower_calls l[k].1 w (HL.out k hkl))
      clear hc
      have hNl := Pl.getN_take_le l nm k
      have hv0 : Hid (∀ w2 w3, Below (wr.heap.size + 1) (wr.alloc (.cells #[.string ⟨l[k].1.toArray⟩, .string ⟨l[k].2.toArray⟩] 34)) w2 → Below (wr.heap.size + 1) w2 w3 → w3.cell? ⟨wr.heap.size, 1, none⟩ = some (.string ⟨l[k].2.toArray⟩)) := Lib.hid (by
        intro w2 w3 b2 b3
        rw [b3.cell (by show wr.heap.size < wr.heap.size + 1; omega), b2.cell (by show wr.heap.size < wr.heap.size + 1; omega)]
        unfold World.cell?
        simp only [blk_new]
        rfl)
      have HBa := Lib.hid (below_alloc (Below.refl wr.heap.size wr) (.cells #[.string ⟨l[k].1.toArray⟩, .string ⟨l[k].2.toArray⟩] 34))
      have hsz : Hid ((wr.alloc (.cells #[.string ⟨l[k].1.toArray⟩, .string ⟨l[k].2.toArray⟩] 34)).heap.size = wr.heap.size + 1) := Lib.hid (by simp)
      have Hmiss := Lib.hid (fun h => And.intro (Pl.getN_miss (nm := nm) hkl h) (Pl.getV_miss (nm := nm) hkl h))
      have Hhit := Lib.hid (fun h => Pl.getN_hit (nm := nm) hkl h)
      have Hfirst := Lib.hid (fun h h0 => Pl.getV_first (nm := nm) hkl h h0)
      have Hlater := Lib.hid (fun h0 => Pl.getV_later (nm := nm) hkl h0)
      cases hh : Pl.hit nm l[k] with
      | false =>
        have HE := Lib.hid (And.intro (Hmiss.out hh).1 (Hmiss.out hh).2)
        have hq : (Pl.low l[k].1 == Pl.low nm) = false := hh
        clear hh
        go_wp2_with fail
        refine (HLk.out _).mono ?_
        rintro e w2 ⟨rfl, hb2⟩
        have HB2 := Lib.hid hb2
        clear hb2
        go_wp2_with fail
        refine (HNM.out _).mono ?_
        rintro e w3 ⟨rfl, hb3⟩
        have HB3 := Lib.hid hb3
        clear hb3
        go_wp2
        go_roundw
        case rel => exact ⟨k + 1, by omega, by go_num, by rw [HE.out.2], by rw [HE.out.1], Lib.hid (by have x1 := below_then HB.out HB.out.size HBa.out; have x2 := below_then x1 x1.size HB2.out; exact below_then x2 x2.size HB3.out)⟩
        case measure => simp [intOf]; omega
      | true =>
        have hq : (Pl.low l[k].1 == Pl.low nm) = true := hh
        by_cases h0 : Pl.getN (l.take k) nm = 0
        · have HE := Lib.hid (And.intro (Hhit.out hh) (Hfirst.out hh h0))
          have d0 : (((Pl.getN (l.take k) nm : Nat) : Int) + 1 == 1) = true := by rw [h0]; rfl
          clear hh
          go_wp2_with fail
          refine (HLk.out _).mono ?_
          rintro e w2 ⟨rfl, hb2⟩
          have HB2 := Lib.hid hb2
          clear hb2
          go_wp2_with fail
          refine (HNM.out _).mono ?_
          rintro e w3 ⟨rfl, hb3⟩
          have hv := hv0.out w2 w3 (by rw [← hsz.out]; exact HB2.out) (hb3.mono (by have := HB2.out.size; rw [hsz.out] at this; exact this))
          have HB3 := Lib.hid hb3
          clear hb3
          go_wp2
          go_roundw
          case rel => exact ⟨k + 1, by omega, by go_num, by rw [HE.out.2], by rw [HE.out.1, h0]; rfl, Lib.hid (by have x1 := below_then HB.out HB.out.size HBa.out; have x2 := below_then x1 x1.size HB2.out; exact below_then x2 x2.size HB3.out)⟩
          case measure => simp [intOf]; omega
        · have HE := Lib.hid (And.intro (Hhit.out hh) (Hlater.out h0))
          have d0 : (((Pl.getN (l.take k) nm : Nat) : Int) + 1 == 1) = false := by rw [beq_eq_false_iff_ne]; omega
          clear hh
          go_wp2_with fail
          refine (HLk.out _).mono ?_
          rintro e w2 ⟨rfl, hb2⟩
          have HB2 := Lib.hid hb2
          clear hb2
          go_wp2_with fail
          refine (HNM.out _).mono ?_
          rintro e w3 ⟨rfl, hb3⟩
          have HB3 := Lib.hid hb3
          clear hb3
          go_wp2
          go_roundw
          case rel => exact ⟨k + 1, by omega, by go_num, by rw [HE.out.2], by rw [HE.out.1]; rfl, Lib.hid (by have x1 := below_then HB.out HB.out.size HBa.out; have x2 := below_then x1 x1.size HB2.out; exact below_then x2 x2.size HB3.out)⟩
          case measure => simp [intOf]; omega
    · have e : l.take k = l := List.take_of_length_le (by omega)
      rw [e]
      go_wp2
      refine bodyPost_ret (v := .tuple #[.string ⟨(Pl.getV l nm).toArray⟩, .int .i64 (Pl.getN l nm)]) (by simp [results, Tryd.results14, go_sem]) rfl ?_
      exact ⟨rfl, HB.out⟩

theorem Hops_calls (w : World) (A : Option Addr) (n c : Nat) (l : List Fld) (hr : FldRd w A n l) (hnc : n ≤ c) (hn : n ≤ 1000000) (hl : ∀ j (hj : j < l.length), l[j].1.length ≤ 10000000) :
    Calls Tryd.prog 18 #[.slice A n c] w fun e w' => e = .returned (.int .i64 (Pl.getN l [82, 101, 99, 101, 105, 118, 101, 100])) ∧ Below w.heap.size w w' := by
  have HG := Lib.hid (Get_calls w A n c l [82, 101, 99, 101, 105, 118, 101, 100] hr hnc hn (by simp) hl)
  clear hr hl
  go_enter Tryd.func18, Tryd.ntmps18
  go_wp2_with fail
  refine HG.out.mono ?_
  rintro e w1 ⟨rfl, hb⟩
  have HB := Lib.hid hb
  clear hb
  go_wp2
  go_ret
  exact ⟨rfl, HB.out⟩
end Go.Proofs.YtfpcngoonfbphaaDoor

/- Plain: dates. -/
namespace Go.Proofs.YtfpcngoonfbphaaDoor.Pl
set_option linter.unusedVariables false
set_option linter.unusedSimpArgs false

def leap (y : Nat) : Bool := y % 4 == 0 && (y % 100 != 0 || y % 400 == 0)
def ylen (y : Nat) : Nat := if leap y = true then 366 else 365
/-- Days ahead of a year. -/
def bef (y : Nat) : Nat := 365 * y + (y + 3) / 4 + (y + 399) / 400 - (y + 99) / 100
theorem bef_succ (y : Nat) : bef (y + 1) = bef y + ylen y := by
  unfold bef ylen leap
  by_cases h4 : y % 4 = 0 <;> by_cases h1 : y % 100 = 0 <;> by_cases h0 : y % 400 = 0 <;> simp [h4, h1, h0] <;> omega
theorem bef_mono {a b : Nat} (h : a < b) : bef (a + 1) ≤ bef b := by
  induction b with
  | zero => omega
  | succ b ih =>
    rcases Nat.lt_or_ge a b with h' | h'
    · have := ih h'
      have := bef_succ b
      omega
    · obtain rfl : a = b := by omega
      exact Nat.le_refl _
theorem year_uniq {a b r s : Nat} (h : bef a + r = bef b + s) (hr : r < ylen a) (hs : s < ylen b) : a = b ∧ r = s := by
  have h1 := bef_succ a
  have h2 := bef_succ b
  rcases Nat.lt_trichotomy a b with c | c | c
  · have := bef_mono c; omega
  · subst c; exact ⟨rfl, by omega⟩
  · have := bef_mono c; omega
def yearGo : Nat → Nat → Nat → Nat × Nat
  | 0, y, n => (y, n)
  | F + 1, y, n => if n < ylen y then (y, n) else yearGo F (y + 1) (n - ylen y)
theorem ylen_pos (y : Nat) : 365 ≤ ylen y ∧ ylen y ≤ 366 := by unfold ylen; split <;> omega
theorem yearGo_spec : ∀ (F y n : Nat), n < F → bef (yearGo F y n).1 + (yearGo F y n).2 = bef y + n ∧ (yearGo F y n).2 < ylen (yearGo F y n).1 ∧ y ≤ (yearGo F y n).1
  | 0, y, n, h => by omega
  | F + 1, y, n, h => by
    unfold yearGo
    split
    · rename_i hlt; exact ⟨rfl, hlt, Nat.le_refl _⟩
    · have hp := ylen_pos y
      have ih := yearGo_spec F (y + 1) (n - ylen y) (by omega)
      have hb := bef_succ y
      exact ⟨by omega, ih.2.1, by omega⟩
def mlen (y m : Nat) : Nat := if m = 1 ∧ leap y = true then 29 else [31, 28, 31, 30, 31, 30, 31, 31, 30, 31, 30, 31].getD m 0
theorem mlen_le (y m : Nat) : mlen y m ≤ 31 := by
  unfold mlen
  split
  · omega
  · rcases Nat.lt_or_ge m 12 with h | h
    · have : m = 0 ∨ m = 1 ∨ m = 2 ∨ m = 3 ∨ m = 4 ∨ m = 5 ∨ m = 6 ∨ m = 7 ∨ m = 8 ∨ m = 9 ∨ m = 10 ∨ m = 11 := by omega
      rcases this with rfl | rfl | rfl | rfl | rfl | rfl | rfl | rfl | rfl | rfl | rfl | rfl <;> decide
    · rw [List.getD_eq_getElem?_getD, List.getElem?_eq_none (by simpa using h)]; decide
def mbef (y m : Nat) : Nat := [0, 31, 59, 90, 120, 151, 181, 212, 243, 273, 304, 334, 365].getD m 0 + (if 2 ≤ m ∧ leap y = true then 1 else 0)
theorem mbef_succ (y m : Nat) (h : m < 12) : mbef y (m + 1) = mbef y m + mlen y m := by
  unfold mbef mlen
  have : m = 0 ∨ m = 1 ∨ m = 2 ∨ m = 3 ∨ m = 4 ∨ m = 5 ∨ m = 6 ∨ m = 7 ∨ m = 8 ∨ m = 9 ∨ m = 10 ∨ m = 11 := by omega
  cases leap y <;> rcases this with rfl | rfl | rfl | rfl | rfl | rfl | rfl | rfl | rfl | rfl | rfl | rfl <;> rfl
theorem mbef_12 (y : Nat) : mbef y 12 = ylen y := by unfold mbef ylen; cases leap y <;> rfl
theorem mbef_0 (y : Nat) : mbef y 0 = 0 := by unfold mbef; simp
theorem mbef_mono (y : Nat) {a b : Nat} (h : a < b) (hb : b ≤ 12) : mbef y (a + 1) ≤ mbef y b := by
  induction b with
  | zero => omega
  | succ b ih =>
    rcases Nat.lt_or_ge a b with h' | h'
    · have := ih h' (by omega)
      have := mbef_succ y b (by omega)
      omega
    · obtain rfl : a = b := by omega
      exact Nat.le_refl _
theorem month_uniq {y a b r s : Nat} (ha : a < 12) (hb : b < 12) (h : mbef y a + r = mbef y b + s) (hr : r < mlen y a) (hs : s < mlen y b) : a = b ∧ r = s := by
  have h1 := mbef_succ y a ha
  have h2 := mbef_succ y b hb
  rcases Nat.lt_trichotomy a b with c | c | c
  · have := mbef_mono y c (by omega); omega
  · subst c; exact ⟨rfl, by omega⟩
  · have := mbef_mono y c (by omega); omega
/-- A day's year, month, day (all from 0, but the year). -/
structure Civ (n y m d : Nat) : Prop where
  sum : bef y + mbef y m + d = bef 1970 + n
  mon : m < 12
  day : d < mlen y m
theorem Civ.lt {n y m d : Nat} (h : Civ n y m d) : mbef y m + d < ylen y := by
  have h1 := mbef_succ y m h.mon
  have h2 := h.day
  have h3 := h.mon
  rcases Nat.lt_or_ge (m + 1) 12 with c | c
  · have := mbef_mono y c (Nat.le_refl _)
    have := mbef_12 y
    have := mbef_succ y (m + 1) c
    omega
  · obtain rfl : m = 11 := by omega
    have q1 : mbef y 12 = mbef y 11 + mlen y 11 := h1
    have q2 := mbef_12 y
    omega
theorem Civ.uniq {n y m d y' m' d' : Nat} (h : Civ n y m d) (h' : Civ n y' m' d') : y = y' ∧ m = m' ∧ d = d' := by
  have h1 := h.sum
  have h2 := h'.sum
  obtain ⟨rfl, e⟩ := year_uniq (r := mbef y m + d) (s := mbef y' m' + d') (by omega) h.lt h'.lt
  obtain ⟨rfl, rfl⟩ := month_uniq h.mon h'.mon e h.day h'.day
  exact ⟨rfl, rfl, rfl⟩
theorem Civ.inj {n n' y m d : Nat} (h : Civ n y m d) (h' : Civ n' y m d) : n = n' := by
  have h1 := h.sum
  have h2 := h'.sum
  omega
theorem Civ.year_le {n y m d : Nat} (h : Civ n y m d) (hn : n ≤ 2932896) : 1970 ≤ y ∧ y ≤ 9999 := by
  have h1 := h.sum
  have h2 := h.lt
  have h3 := bef_succ y
  have e0 : bef 1970 = 719528 := by decide
  have e1 : bef 10000 = 3652425 := by decide
  constructor
  · rcases Nat.lt_or_ge y 1970 with c | c
    · have := bef_mono c; omega
    · exact c
  · rcases Nat.lt_or_ge 9999 y with c | c
    · have q : bef 10000 ≤ bef y := bef_mono c
      rw [e1] at q
      omega
    · exact c
theorem Civ.day_le {n y m d : Nat} (h : Civ n y m d) : d ≤ 30 := by
  have h1 := h.day
  have h2 := h.mon
  unfold mlen at h1
  have : m = 0 ∨ m = 1 ∨ m = 2 ∨ m = 3 ∨ m = 4 ∨ m = 5 ∨ m = 6 ∨ m = 7 ∨ m = 8 ∨ m = 9 ∨ m = 10 ∨ m = 11 := by omega
  revert h1
  cases leap y <;> rcases this with rfl | rfl | rfl | rfl | rfl | rfl | rfl | rfl | rfl | rfl | rfl | rfl <;> simp <;> omega
theorem bef_400 (q : Nat) : bef (1970 + 400 * q) = bef 1970 + 146097 * q := by unfold bef; omega

/-! ### The text -/
def dig (n : Nat) : UInt8 := (48 + n % 10).toUInt8
def two (n : Nat) : List UInt8 := [dig (n / 10), dig n]
def four (n : Nat) : List UInt8 := two (n / 100) ++ two n
def wdays : List UInt8 := [84, 104, 117, 70, 114, 105, 83, 97, 116, 83, 117, 110, 77, 111, 110, 84, 117, 101, 87, 101, 100]
def monthsT : List UInt8 := [74, 97, 110, 70, 101, 98, 77, 97, 114, 65, 112, 114, 77, 97, 121, 74, 117, 110, 74, 117, 108, 65, 117, 103, 83, 101, 112, 79, 99, 116, 78, 111, 118, 68, 101, 99]
def part3 (l : List UInt8) (k : Nat) : List UInt8 := (l.drop (3 * k)).take 3
def stamp (k d m y s : Nat) : List UInt8 :=
  part3 wdays k ++ [44, 32] ++ two (d + 1) ++ [32] ++ part3 monthsT m ++ [32] ++ four y ++ [32] ++ two (s / 3600) ++ [58] ++ two (s / 60 % 60) ++ [58] ++ two (s % 60) ++ [32, 43, 48, 48, 48, 48]
theorem exists_civ (n : Nat) : ∃ y m d, Civ n y m d := by
  have h := yearGo_spec (n + 1) 1970 n (by omega)
  generalize (yearGo (n + 1) 1970 n).1 = y at h
  generalize (yearGo (n + 1) 1970 n).2 = r at h
  have : ∀ k, k ≤ 12 → ∃ m d, m < 12 ∧ d < mlen y m ∧ mbef y m + d = r ∨ mbef y k ≤ r := by
    intro k
    induction k with
    | zero => intro _; exact ⟨0, 0, .inr (by rw [mbef_0]; omega)⟩
    | succ k ih =>
      intro hk
      obtain ⟨m, d, h1⟩ := ih (by omega)
      rcases h1 with h1 | h1
      · exact ⟨m, d, .inl h1⟩
      · have := mbef_succ y k (by omega)
        rcases Nat.lt_or_ge r (mbef y (k + 1)) with c | c
        · exact ⟨k, r - mbef y k, .inl ⟨by omega, by omega, by omega⟩⟩
        · exact ⟨0, 0, .inr c⟩
  obtain ⟨m, d, h1⟩ := this 12 (Nat.le_refl _)
  have := mbef_12 y
  rcases h1 with h1 | h1
  · exact ⟨y, m, d, ⟨by omega, h1.1, h1.2.1⟩⟩
  · omega
end Go.Proofs.YtfpcngoonfbphaaDoor.Pl

/- Dates: days, date, two, four, Date. -/
set_option linter.unusedVariables false
set_option linter.unusedSimpArgs false
namespace Go.Proofs.YtfpcngoonfbphaaDoor
open Go.RowKit Go.Proofs.YtfpcngoonfbphaaDoorW.PrintWords

theorem leap_calls (y : Nat) (hy : y ≤ 100000) (w : World) : Calls Tryd.prog 64 #[.int .i64 y] w fun e w' => e = .returned (.bool (Pl.leap y)) ∧ w = w' := by
  have hF : Hid (Pl.leap y = ((y : Int) % 4 == 0 && ((y : Int) % 100 != 0 || (y : Int) % 400 == 0))) := Lib.hid (by
    unfold Pl.leap
    have h4 : (y % 4 == 0) = ((y : Int) % 4 == 0) := by rw [Bool.eq_iff_iff]; simp; omega
    have h1 : (y % 100 != 0) = ((y : Int) % 100 != 0) := by rw [Bool.eq_iff_iff]; simp; omega
    have h0 : (y % 400 == 0) = ((y : Int) % 400 == 0) := by rw [Bool.eq_iff_iff]; simp; omega
    rw [h4, h1, h0])
  cases b4 : ((y : Int) % 4 == 0) with
  | false =>
    rw [b4] at hF
    go_enter Tryd.func64, Tryd.ntmps64
    go_wp2
    go_ret
    exact ⟨ret_bool hF.out.symm, rfl⟩
  | true =>
    cases b1 : ((y : Int) % 100 != 0) with
    | true =>
      rw [b4, b1] at hF
      go_enter Tryd.func64, Tryd.ntmps64
      go_wp2
      go_ret
      exact ⟨ret_bool hF.out.symm, rfl⟩
    | false =>
      rw [b4, b1] at hF
      go_enter Tryd.func64, Tryd.ntmps64
      go_wp2
      go_ret
      exact ⟨ret_bool hF.out.symm, rfl⟩

set_option maxHeartbeats 1000000 in
theorem days_calls (y m : Nat) (hy : y ≤ 100000) (hm : m < 12) (w : World) : Calls Tryd.prog 65 #[.int .i64 y, .int .i64 m] w fun e w' => e = .returned (.int .i64 (Pl.mlen y m)) ∧ Below w.heap.size w w' := by
  have hc : m = 0 ∨ m = 1 ∨ m = 2 ∨ m = 3 ∨ m = 4 ∨ m = 5 ∨ m = 6 ∨ m = 7 ∨ m = 8 ∨ m = 9 ∨ m = 10 ∨ m = 11 := by omega
  have hL := Lib.hid (fun w => leap_calls y hy w)
  cases hl : Pl.leap y with
  | true =>
    have HF := Lib.hid (fun m => show Pl.mlen y m = if m = 1 then 29 else [31, 28, 31, 30, 31, 30, 31, 31, 30, 31, 30, 31].getD m 0 from by simp [Pl.mlen, hl])
    rw [hl] at hL
    rcases hc with rfl | rfl | rfl | rfl | rfl | rfl | rfl | rfl | rfl | rfl | rfl | rfl
    all_goals
      go_enter Tryd.func65, Tryd.ntmps65
      go_wp2_with (go_at_call 64; refine (hL.out _).mono ?_; rintro e w' ⟨rfl, rfl⟩)
      go_ret
      exact ⟨ret_int (by rw [HF.out]; rfl), by repeat (first | exact Below.refl _ _ | apply below_alloc)⟩
  | false =>
    have HF := Lib.hid (fun m => show Pl.mlen y m = [31, 28, 31, 30, 31, 30, 31, 31, 30, 31, 30, 31].getD m 0 from by simp [Pl.mlen, hl])
    rw [hl] at hL
    rcases hc with rfl | rfl | rfl | rfl | rfl | rfl | rfl | rfl | rfl | rfl | rfl | rfl
    all_goals
      go_enter Tryd.func65, Tryd.ntmps65
      go_wp2_with (go_at_call 64; refine (hL.out _).mono ?_; rintro e w' ⟨rfl, rfl⟩)
      go_ret
      exact ⟨ret_int (by rw [HF.out]; rfl), by repeat (first | exact Below.refl _ _ | apply below_alloc)⟩
end Go.Proofs.YtfpcngoonfbphaaDoor

/- Dates: date, two, four, Date. -/
set_option linter.unusedVariables false
set_option linter.unusedSimpArgs false
namespace Go.Proofs.YtfpcngoonfbphaaDoor
open Go.RowKit Go.Proofs.YtfpcngoonfbphaaDoorW.PrintWords

set_option maxHeartbeats 1000000 in
set_option maxRecDepth 1000000 in
theorem date_calls (n : Nat) (hn : n ≤ 2932896) (w : World) : Calls Tryd.prog 38 #[.int .i64 n] w fun e w' => ∃ y m d : Nat, Pl.Civ n y m d ∧ e = .returned (.tuple #[.int .i64 y, .int .i64 m, .int .i64 ((d : Int) + 1)]) ∧ Below w.heap.size w w' := by
  obtain ⟨Y, M, D, hciv⟩ := Pl.exists_civ n
  have HC := Lib.hid hciv
  have hYl := hciv.year_le hn
  clear hciv
  go_enter Tryd.func38, Tryd.ntmps38
  go_wp2
  go_step3
  go_wp2
  go_step3
  go_wp2
  go_loop [0, 2] (fun a y => ∃ (r k : Nat), a = .int .i64 r ∧ y = .int .i64 k ∧ Hid (Pl.bef k + r = Pl.bef 1970 + n) ∧ 1970 ≤ k ∧ k ≤ Y ∧ r ≤ n) (fun a _ => (intOf a).toNat)
  case atStart => exact ⟨n, 1970, rfl, rfl, Lib.hid rfl, Nat.le_refl _, by omega, Nat.le_refl _⟩
  case round =>
    obtain ⟨r, k, rfl, rfl, hb, hk0, hkY, hrn⟩ := hrel
    have hL := Lib.hid (leap_calls k (by omega) w)
    have hsucc := Lib.hid (Pl.bef_succ k)
    have hyl := Lib.hid (show Pl.ylen k = if Pl.leap k = true then 366 else 365 from rfl)
    have hpos := Pl.ylen_pos k
    have key : Hid ((r < Pl.ylen k → k = Y ∧ r = Pl.mbef Y M + D) ∧ (¬ r < Pl.ylen k → k + 1 ≤ Y)) := Lib.hid (by
      have hs := HC.out.sum
      have hlt := HC.out.lt
      refine ⟨fun h => Pl.year_uniq (by have := hb.out; omega) h hlt, fun h => ?_⟩
      rcases Nat.lt_or_ge k Y with c | c
      · exact c
      · obtain rfl : k = Y := by omega
        have := hb.out
        omega)
    by_cases hlt : r < Pl.ylen k
    · obtain ⟨hkY', hr'⟩ := key.out.1 hlt
      subst hkY'
      have HR := Lib.hid hr'
      clear hr'
      have hd : Hid (∀ (m : Nat), m < 12 → ∀ w : World, Calls Tryd.prog 65 #[.int .i64 k, .int .i64 m] w fun e w' => e = .returned (.int .i64 (Pl.mlen k m)) ∧ Below w.heap.size w w') := Lib.hid (fun m hm w => days_calls k m (by omega) hm w)
      have hM := HC.out.mon
      have hr366 : r ≤ 366 := by have := Pl.ylen_pos k; omega
      cases hl : Pl.leap k with
      | true =>
        have hL2 := hL.out
        rw [hl] at hL2
        have HL := Lib.hid hL2
        have ht : decide ((r : Int) < 366) = true := decide_eq_true (by have := hyl.out; rw [hl] at this; simp at this; omega)
        clear hL2 hl hlt hpos hb hrn
        go_wp2_with (go_at_call 64; refine HL.out.mono ?_; rintro e w' ⟨rfl, rfl⟩)
        go_loopw [0, 3] (fun a m wr => ∃ (q j : Nat), a = .int .i64 q ∧ m = .int .i64 j ∧ Hid (Pl.mbef k j + q = Pl.mbef k M + D) ∧ j ≤ M ∧ q ≤ r ∧ Hid (Below w.heap.size w wr)) (fun _ m _ => M - (intOf m).toNat)
        case atStart => exact ⟨r, 0, rfl, rfl, Lib.hid (by rw [Pl.mbef_0, HR.out]; omega), Nat.zero_le _, Nat.le_refl _, Lib.hid (Below.refl _ _)⟩
        case round =>
          obtain ⟨q, j, rfl, rfl, hq, hj, hqr, hB⟩ := hrel
          have hms := Lib.hid (Pl.mbef_succ k j (by omega))
          have hkey : Hid ((q < Pl.mlen k j → j = M ∧ q = D) ∧ (¬ q < Pl.mlen k j → j + 1 ≤ M)) := Lib.hid (by
            refine ⟨fun h => Pl.month_uniq (by omega) hM hq.out h HC.out.day, fun h => ?_⟩
            rcases Nat.lt_or_ge j M with c | c
            · exact c
            · obtain rfl : j = M := by omega
              have := hq.out
              have := HC.out.day
              omega)
          have hdj := Lib.hid (hd.out j (by omega))
          have hml : Hid (Pl.mlen k j ≤ 31) := Lib.hid (Pl.mlen_le k j)
          generalize hG : Pl.mlen k j = L at *
          have hml' := hml.out
          clear hG
          by_cases hlt : q < L
          · have d1 : decide ((L : Int) ≤ (q : Int)) = false := decide_eq_false (by omega)
            have d2 : decide (L ≤ q) = false := decide_eq_false (by omega)
            obtain ⟨e1, e2⟩ := hkey.out.1 hlt
            have HE := Lib.hid (And.intro e1 e2)
            clear e1 e2
            go_wp2_with (go_at_call 65; refine (hdj.out _).mono ?_; rintro e w2 ⟨rfl, hb2⟩; have HB2 := Lib.hid hb2; clear hb2)
            rw [Exit.noGoto_ret]
            go_ret3
            exact ⟨k, j, q, by have := HC.out; rw [← HE.out.1, ← HE.out.2] at this; exact this, rfl, below_then hB.out hB.out.size HB2.out⟩
          · have d1 : decide ((L : Int) ≤ (q : Int)) = true := decide_eq_true (by omega)
            have d2 : decide (L ≤ q) = true := decide_eq_true (by omega)
            have hj1 := hkey.out.2 hlt
            have tok1 : True := trivial
            go_wp2_with (first | (go_at_call 65; have _t := tok1; refine (hdj.out _).mono ?_; rintro e w2 ⟨rfl, hb2⟩; have HB2 := Lib.hid hb2; clear hb2 tok1 _t) | (go_at_call 65; refine (hdj.out _).mono ?_; rintro e w3 ⟨rfl, hb3⟩; have HB3 := Lib.hid hb3; clear hb3))
            go_roundw
            case rel => exact ⟨q - L, j + 1, by go_num, by go_num, Lib.hid (by have := hms.out; have := hq.out; omega), hj1, by omega, Lib.hid (below_then (below_then hB.out hB.out.size HB2.out) (Nat.le_trans hB.out.size HB2.out.size) HB3.out)⟩
            case measure => simp [intOf]; omega
      | false =>
        have hL2 := hL.out
        rw [hl] at hL2
        have HL := Lib.hid hL2
        have ht : decide ((r : Int) < 365) = true := decide_eq_true (by have := hyl.out; rw [hl] at this; simp at this; omega)
        clear hL2 hl hlt hpos hb hrn
        go_wp2_with (go_at_call 64; refine HL.out.mono ?_; rintro e w' ⟨rfl, rfl⟩)
        go_loopw [0, 3] (fun a m wr => ∃ (q j : Nat), a = .int .i64 q ∧ m = .int .i64 j ∧ Hid (Pl.mbef k j + q = Pl.mbef k M + D) ∧ j ≤ M ∧ q ≤ r ∧ Hid (Below w.heap.size w wr)) (fun _ m _ => M - (intOf m).toNat)
        case atStart => exact ⟨r, 0, rfl, rfl, Lib.hid (by rw [Pl.mbef_0, HR.out]; omega), Nat.zero_le _, Nat.le_refl _, Lib.hid (Below.refl _ _)⟩
        case round =>
          obtain ⟨q, j, rfl, rfl, hq, hj, hqr, hB⟩ := hrel
          have hms := Lib.hid (Pl.mbef_succ k j (by omega))
          have hkey : Hid ((q < Pl.mlen k j → j = M ∧ q = D) ∧ (¬ q < Pl.mlen k j → j + 1 ≤ M)) := Lib.hid (by
            refine ⟨fun h => Pl.month_uniq (by omega) hM hq.out h HC.out.day, fun h => ?_⟩
            rcases Nat.lt_or_ge j M with c | c
            · exact c
            · obtain rfl : j = M := by omega
              have := hq.out
              have := HC.out.day
              omega)
          have hdj := Lib.hid (hd.out j (by omega))
          have hml : Hid (Pl.mlen k j ≤ 31) := Lib.hid (Pl.mlen_le k j)
          generalize hG : Pl.mlen k j = L at *
          have hml' := hml.out
          clear hG
          by_cases hlt : q < L
          · have d1 : decide ((L : Int) ≤ (q : Int)) = false := decide_eq_false (by omega)
            have d2 : decide (L ≤ q) = false := decide_eq_false (by omega)
            obtain ⟨e1, e2⟩ := hkey.out.1 hlt
            have HE := Lib.hid (And.intro e1 e2)
            clear e1 e2
            go_wp2_with (go_at_call 65; refine (hdj.out _).mono ?_; rintro e w2 ⟨rfl, hb2⟩; have HB2 := Lib.hid hb2; clear hb2)
            rw [Exit.noGoto_ret]
            go_ret3
            exact ⟨k, j, q, by have := HC.out; rw [← HE.out.1, ← HE.out.2] at this; exact this, rfl, below_then hB.out hB.out.size HB2.out⟩
          · have d1 : decide ((L : Int) ≤ (q : Int)) = true := decide_eq_true (by omega)
            have d2 : decide (L ≤ q) = true := decide_eq_true (by omega)
            have hj1 := hkey.out.2 hlt
            have tok1 : True := trivial
            go_wp2_with (first | (go_at_call 65; have _t := tok1; refine (hdj.out _).mono ?_; rintro e w2 ⟨rfl, hb2⟩; have HB2 := Lib.hid hb2; clear hb2 tok1 _t) | (go_at_call 65; refine (hdj.out _).mono ?_; rintro e w3 ⟨rfl, hb3⟩; have HB3 := Lib.hid hb3; clear hb3))
            go_roundw
            case rel => exact ⟨q - L, j + 1, by go_num, by go_num, Lib.hid (by have := hms.out; have := hq.out; omega), hj1, by omega, Lib.hid (below_then (below_then hB.out hB.out.size HB2.out) (Nat.le_trans hB.out.size HB2.out.size) HB3.out)⟩
            case measure => simp [intOf]; omega
    · have hk1 := key.out.2 hlt
      cases hl : Pl.leap k with
      | true =>
        have hL2 := hL.out
        rw [hl] at hL2
        have HL := Lib.hid hL2
        have hy : Hid (Pl.ylen k = 366) := Lib.hid (by have := hyl.out; rw [hl] at this; simpa using this)
        have h366 : 366 ≤ r := by rw [hy.out] at hlt; omega
        have ht : decide ((r : Int) < 366) = false := decide_eq_false (by omega)
        clear hL2 hl hlt hpos
        go_wp2_with (go_at_call 64; refine HL.out.mono ?_; rintro e w' ⟨rfl, rfl⟩)
        go_round
        case rel => exact ⟨r - 366, k + 1, by go_num, by go_num, Lib.hid (by have := hsucc.out; have := hy.out; have := hb.out; omega), by omega, by omega, by omega⟩
        case measure => simp [intOf]; omega
      | false =>
        have hL2 := hL.out
        rw [hl] at hL2
        have HL := Lib.hid hL2
        have hy : Hid (Pl.ylen k = 365) := Lib.hid (by have := hyl.out; rw [hl] at this; simpa using this)
        have h366 : 365 ≤ r := by rw [hy.out] at hlt; omega
        have ht : decide ((r : Int) < 365) = false := decide_eq_false (by omega)
        clear hL2 hl hlt hpos
        go_wp2_with (go_at_call 64; refine HL.out.mono ?_; rintro e w' ⟨rfl, rfl⟩)
        go_round
        case rel => exact ⟨r - 365, k + 1, by go_num, by go_num, Lib.hid (by have := hsucc.out; have := hy.out; have := hb.out; omega), by omega, by omega, by omega⟩
        case measure => simp [intOf]; omega
end Go.Proofs.YtfpcngoonfbphaaDoor

/- Dates: two, four, Date. -/
set_option linter.unusedVariables false
set_option linter.unusedSimpArgs false
namespace Go.Proofs.YtfpcngoonfbphaaDoor
open Go.RowKit Go.Proofs.YtfpcngoonfbphaaDoorW.PrintWords

theorem dec_one : ∀ i, i < 10 → Lib.decDigits i = [Pl.dig i] := by decide +kernel
theorem Itoa_one (i : Nat) (hi : i < 10) (w : World) : Calls Tryd.prog 66 #[.int .i64 i] w fun e w' => e = .returned (.string ⟨#[Pl.dig i]⟩) ∧ w = w' := by
  refine (Tryd.strconv_Itoa_small i (by omega) w).mono ?_
  rintro e w' ⟨rfl, rfl⟩
  rw [dec_one i hi]
  exact ⟨rfl, rfl⟩
theorem dig_mod (n : Nat) : Pl.dig (n % 10) = Pl.dig n := by simp [Pl.dig]
set_option maxRecDepth 100000 in
theorem two_calls (n : Nat) (hn : n ≤ 99) (w : World) : Calls Tryd.prog 39 #[.int .i64 n] w fun e w' => e = .returned (.string ⟨(Pl.two n).toArray⟩) ∧ w = w' := by
  have h1 := Lib.hid (fun w => Itoa_one (n / 10) (by omega) w)
  have h2 := Lib.hid (fun w => Itoa_one (n % 10) (by omega) w)
  rw [show ((n / 10 : Nat) : Int) = (n : Int) / 10 from by omega] at h1
  rw [show ((n % 10 : Nat) : Int) = (n : Int) % 10 from by omega, dig_mod] at h2
  have tok1 : True := trivial
  go_enter Tryd.func39, Tryd.ntmps39
  go_wp2_with (first | (go_at_call 66; have _t := tok1; refine (h1.out _).mono ?_; rintro e w' ⟨rfl, rfl⟩; clear tok1 _t) | (go_at_call 66; refine (h2.out _).mono ?_; rintro e w' ⟨rfl, rfl⟩))
  go_ret
  exact ⟨ret_str (by apply ByteArray.ext; simp [Pl.two]), rfl⟩
set_option maxRecDepth 100000 in
theorem four_calls (n : Nat) (hn : n ≤ 9999) (w : World) : Calls Tryd.prog 40 #[.int .i64 n] w fun e w' => e = .returned (.string ⟨(Pl.four n).toArray⟩) ∧ w = w' := by
  have h1 := Lib.hid (fun w => two_calls (n / 100) (by omega) w)
  have h2 := Lib.hid (fun w => two_calls (n % 100) (by omega) w)
  have hF : Hid (Pl.two (n % 100) = Pl.two n) := Lib.hid (by
    have e1 : n % 100 / 10 % 10 = n / 10 % 10 := by omega
    have e2 : n % 100 % 10 = n % 10 := by omega
    simp [Pl.two, Pl.dig, e1, e2])
  rw [show ((n / 100 : Nat) : Int) = (n : Int) / 100 from by omega] at h1
  rw [show ((n % 100 : Nat) : Int) = (n : Int) % 100 from by omega, hF.out] at h2
  have tok1 : True := trivial
  go_enter Tryd.func40, Tryd.ntmps40
  go_wp2_with (first | (go_at_call 39; have _t := tok1; refine (h1.out _).mono ?_; rintro e w' ⟨rfl, rfl⟩; clear tok1 _t) | (go_at_call 39; refine (h2.out _).mono ?_; rintro e w' ⟨rfl, rfl⟩))
  go_ret
  exact ⟨ret_str (by apply ByteArray.ext; simp [Pl.four]), rfl⟩

/-- The time, as Date takes it. -/
def clampT (t : Int) : Nat := (min (max t 0) 253402300799).toNat
def DatePost (t : Int) (w : World) (e : Ending) (w' : World) : Prop :=
  ∃ y m d : Nat, Pl.Civ (clampT t / 86400) y m d ∧ e = .returned (.string ⟨(Pl.stamp (clampT t / 86400 % 7) d m y (clampT t % 86400)).toArray⟩) ∧ Below w.heap.size w w'

theorem two_i {n : Nat} (hn : n ≤ 99) {a : Int} (ha : a = (n : Int)) (w : World) : Calls Tryd.prog 39 #[.int .i64 a] w fun e w' => e = .returned (.string ⟨(Pl.two n).toArray⟩) ∧ w' = w := by
  subst ha
  exact (two_calls n hn w).mono (by rintro e w' ⟨rfl, rfl⟩; exact ⟨rfl, rfl⟩)
theorem four_i {n : Nat} (hn : n ≤ 9999) {a : Int} (ha : a = (n : Int)) (w : World) : Calls Tryd.prog 40 #[.int .i64 a] w fun e w' => e = .returned (.string ⟨(Pl.four n).toArray⟩) ∧ w' = w := by
  subst ha
  exact (four_calls n hn w).mono (by rintro e w' ⟨rfl, rfl⟩; exact ⟨rfl, rfl⟩)

theorem two_j (a : Int) (h0 : 0 ≤ a) (h1 : a ≤ 99) (w : World) : Calls Tryd.prog 39 #[.int .i64 a] w fun e w' => e = .returned (.string ⟨(Pl.two a.toNat).toArray⟩) ∧ w' = w := two_i (by omega) (by omega) w
theorem four_j (a : Int) (h0 : 0 ≤ a) (h1 : a ≤ 9999) (w : World) : Calls Tryd.prog 40 #[.int .i64 a] w fun e w' => e = .returned (.string ⟨(Pl.four a.toNat).toArray⟩) ∧ w' = w := four_i (by omega) (by omega) w

set_option maxHeartbeats 4000000 in
set_option maxRecDepth 1000000 in
theorem Date_calls (t : Int) (w : World) : Calls Tryd.prog 10 #[.int .i64 t] w (DatePost t w) := by
  obtain ⟨T, hT⟩ : ∃ T, T = clampT t := ⟨_, rfl⟩
  have eT : min (max t 0) 253402300799 = (T : Int) := by rw [hT]; unfold clampT; omega
  have hTl : T ≤ 253402300799 := by omega
  obtain ⟨S, hS⟩ : ∃ S, S = T % 86400 := ⟨_, rfl⟩
  obtain ⟨N, hN⟩ : ∃ N, N = T / 86400 := ⟨_, rfl⟩
  obtain ⟨K, hK⟩ : ∃ K, K = N % 7 := ⟨_, rfl⟩
  have eN : (T : Int) / 86400 = (N : Int) := by omega
  have eS : (T : Int) % 86400 = (S : Int) := by omega
  have eK : (N : Int) % 7 = (K : Int) := by omega
  have hNl : N ≤ 2932896 := by omega
  have hSl : S < 86400 := by omega
  have hKl : K < 7 := by omega
  have HD := Lib.hid (date_calls N hNl w)
  have HF : Hid (∀ e w', DatePost t w e w' = ∃ y m d : Nat, Pl.Civ N y m d ∧ e = .returned (.string ⟨(Pl.stamp K d m y S).toArray⟩) ∧ Below w.heap.size w w') := Lib.hid (by intro e w'; unfold DatePost; rw [← hT, ← hN, ← hS, ← hK])
  clear hT hTl hS hN hK
  go_enter Tryd.func10, Tryd.ntmps10
  go_wp2_with fail
  refine HD.out.mono ?_
  rintro e w1 ⟨y, m, d, hc, rfl, hb⟩
  have hy := hc.year_le hNl
  have hm := hc.mon
  have hd := hc.day_le
  have HC := Lib.hid (And.intro hc hb)
  clear hc hb HD
  rw [eS]
  clear eT eN eS
  go_wp2
  have s1 : IntKind.i64.wrap (3 * (K : Int)) = 3 * (K : Int) := IntWalk.i64_in _ (by omega)
  have s2 : IntKind.i64.wrap (3 * (K : Int) + 3) = 3 * (K : Int) + 3 := IntWalk.i64_in _ (by omega)
  have s3 : IntKind.i64.wrap (3 * (m : Int)) = 3 * (m : Int) := IntWalk.i64_in _ (by omega)
  have s4 : IntKind.i64.wrap (3 * (m : Int) + 3) = 3 * (m : Int) + 3 := IntWalk.i64_in _ (by omega)
  have s5 : 0 ≤ 3 * (K : Int) := by omega
  have s6 : 3 * (K : Int) + 3 ≤ 21 := by omega
  have s7 : 0 ≤ 3 * (m : Int) := by omega
  have s8 : 3 * (m : Int) + 3 ≤ 36 := by omega
  have s9 : 3 * (K : Int) ≤ 3 * (K : Int) + 3 := by omega
  have s10 : 3 * (m : Int) ≤ 3 * (m : Int) + 3 := by omega
  have z1 : ((⟨#[84, 104, 117, 70, 114, 105, 83, 97, 116, 83, 117, 110, 77, 111, 110, 84, 117, 101, 87, 101, 100]⟩ : ByteArray).extract (3 * (K : Int)).toNat (3 * (K : Int) + 3).toNat).size = 3 := by
    rw [ByteArray.size_extract]
    show min (3 * (K : Int) + 3).toNat 21 - (3 * (K : Int)).toNat = 3
    omega
  have z2 : ((⟨#[74, 97, 110, 70, 101, 98, 77, 97, 114, 65, 112, 114, 77, 97, 121, 74, 117, 110, 74, 117, 108, 65, 117, 103, 83, 101, 112, 79, 99, 116, 78, 111, 118, 68, 101, 99]⟩ : ByteArray).extract (3 * (m : Int)).toNat (3 * (m : Int) + 3).toNat).size = 3 := by
    rw [ByteArray.size_extract]
    show min (3 * (m : Int) + 3).toNat 36 - (3 * (m : Int)).toNat = 3
    omega
  have z3 : ∀ n, (⟨(Pl.two n).toArray⟩ : ByteArray).size = 2 := fun n => rfl
  have z4 : ∀ n, (⟨(Pl.four n).toArray⟩ : ByteArray).size = 4 := fun n => rfl
  go_quiet ((first | (go_at_call 40; exact Calls.quiet_of_same (four_j _ (by omega) (by omega) _)) | (go_at_call 39; exact Calls.quiet_of_same (two_j _ (by omega) (by omega) _))))
  go_wp2
  go_ret
  rw [HF.out]
  refine ⟨y, m, d, HC.out.1, ret_str ?_, pw_below_drewN HC.out.2 _⟩
  apply ByteArray.ext
  simp [Pl.stamp, Pl.part3, Pl.wdays, Pl.monthsT]
end Go.Proofs.YtfpcngoonfbphaaDoor

/- law18.known. -/
set_option linter.unusedVariables false
set_option linter.unusedSimpArgs false
namespace Go.Proofs.YtfpcngoonfbphaaDoor
open Go.RowKit Go.Proofs.YtfpcngoonfbphaaDoorW.PrintWords Go.Proofs.YtfpcngoonfbphaaDoor.Pl

theorem fldCells_at (l : List Fld) : ∀ j (hj : j < l.length), (fldCells l)[j * 2]? = some (.string ⟨l[j].1.toArray⟩) ∧ (fldCells l)[j * 2 + 1]? = some (.string ⟨l[j].2.toArray⟩) := by
  induction l with
  | nil => intro j hj; cases hj
  | cons a l ih =>
    intro j hj
    have e : fldCells (a :: l) = .string ⟨a.1.toArray⟩ :: .string ⟨a.2.toArray⟩ :: fldCells l := rfl
    cases j with
    | zero => rw [e]; exact ⟨rfl, rfl⟩
    | succ j =>
      have h := ih j (by simpa using hj)
      rw [e, show (j + 1) * 2 = j * 2 + 1 + 1 from by omega]
      exact h
theorem FldRd.of_own {W : World} {base : Nat} {v : Value} {l : List Fld} (h : OwnF W base v l) : ∃ A c, v = .slice A l.length c ∧ FldRd W A l.length l ∧ l.length ≤ c := by
  rcases h.2 with ⟨e, h0⟩ | ⟨g, cap, cur, e, hb, hh, h1, h2⟩
  · refine ⟨none, 0, ?_, ⟨rfl, fun h => by omega⟩, by omega⟩
    rw [e, h0]
  · have hc : ∀ j u, (fldCells l)[j]? = some u → W.cell? ⟨g, j, none⟩ = some u := by
      intro j u hu
      have := World.ownsRow.cells h (g := g) (by rw [e]; rfl) j u hu
      rwa [add_plain] at this
    refine ⟨some ⟨g, 0, none⟩, cap, e, ⟨rfl, fun _ => ⟨g, 0, rfl, fun j hj => ⟨?_, ?_⟩⟩⟩, ?_⟩
    · rw [Nat.zero_add]
      exact hc _ _ (fldCells_at l j hj).1
    · rw [Nat.zero_add]
      exact hc _ _ (fldCells_at l j hj).2
    · omega
def kws : Bs := [65, 58, 32, 49, 13, 10, 32, 109, 111, 114, 101, 13, 10, 66, 58, 50, 13, 10, 13, 10, 98, 111, 100, 121, 13, 10]
theorem ksplit : splitGo (kws.length + 1) [] kws = ([([65], [32, 49, 13, 10, 32, 109, 111, 114, 101]), ([66], [50])], [98, 111, 100, 121, 13, 10]) := by decide +kernel
theorem kwhole : whole [65, 58, 32, 49, 13, 10, 32, 109, 111, 114, 101, 13, 10, 66, 58, 50, 13, 10, 13, 10, 98, 111, 100, 121] = i8 kws := by decide +kernel
theorem kconv (w : World) : (convert 26 26 (.slice (some ⟨w.heap.size, 0, none⟩) 24 24)).run Tryd.prog (w.alloc (.cells #[.int .u8 65, .int .u8 58, .int .u8 32, .int .u8 49, .int .u8 13, .int .u8 10, .int .u8 32, .int .u8 109, .int .u8 111, .int .u8 114, .int .u8 101, .int .u8 13, .int .u8 10, .int .u8 66, .int .u8 58, .int .u8 50, .int .u8 13, .int .u8 10, .int .u8 13, .int .u8 10, .int .u8 98, .int .u8 111, .int .u8 100, .int .u8 121] 5)) = .ok (.slice (some ⟨w.heap.size, 0, none⟩) 24 24) (w.alloc (.cells #[.int .u8 65, .int .u8 58, .int .u8 32, .int .u8 49, .int .u8 13, .int .u8 10, .int .u8 32, .int .u8 109, .int .u8 111, .int .u8 114, .int .u8 101, .int .u8 13, .int .u8 10, .int .u8 66, .int .u8 58, .int .u8 50, .int .u8 13, .int .u8 10, .int .u8 13, .int .u8 10, .int .u8 98, .int .u8 111, .int .u8 100, .int .u8 121] 5 (24, 25))) :=
  Lib.run_convert_bytes_const (P := Tryd.prog) w 26 5 #[.int .u8 65, .int .u8 58, .int .u8 32, .int .u8 49, .int .u8 13, .int .u8 10, .int .u8 32, .int .u8 109, .int .u8 111, .int .u8 114, .int .u8 101, .int .u8 13, .int .u8 10, .int .u8 66, .int .u8 58, .int .u8 50, .int .u8 13, .int .u8 10, .int .u8 13, .int .u8 10, .int .u8 98, .int .u8 111, .int .u8 100, .int .u8 121] 24 24 Tryd.underlying26 Tryd.underlying5
theorem kciv : Pl.Civ (clampT 951782400 / 86400) 2000 1 28 := by
  refine ⟨?_, ?_, ?_⟩ <;> decide +kernel
theorem kstamp : Pl.stamp (clampT 951782400 / 86400 % 7) 28 1 2000 (clampT 951782400 % 86400) = [84, 117, 101, 44, 32, 50, 57, 32, 70, 101, 98, 32, 50, 48, 48, 48, 32, 48, 48, 58, 48, 48, 58, 48, 48, 32, 43, 48, 48, 48, 48] := by decide +kernel
theorem kdate (w : World) : Calls Tryd.prog 10 #[.int .i64 951782400] w fun e w' => e = .returned (.string ⟨#[84, 117, 101, 44, 32, 50, 57, 32, 70, 101, 98, 32, 50, 48, 48, 48, 32, 48, 48, 58, 48, 48, 58, 48, 48, 32, 43, 48, 48, 48, 48]⟩) ∧ Below w.heap.size w w' := by
  refine (Date_calls 951782400 w).mono ?_
  rintro e w' ⟨y, m, d, hc, rfl, hb⟩
  obtain ⟨rfl, rfl, rfl⟩ := hc.uniq kciv
  rw [kstamp]
  exact ⟨rfl, hb⟩
theorem kname (w : World) : Calls Tryd.prog 20 #[.string ⟨#[88, 45, 121]⟩] w fun e w' => e = .returned (.bool true) ∧ w = w' := by
  have h := Name_calls ⟨#[88, 45, 121]⟩ w (by decide)
  rwa [show nameOk (⟨#[88, 45, 121]⟩ : ByteArray).data.toList = true from by decide +kernel] at h
theorem kname2 (w : World) : Calls Tryd.prog 20 #[.string ⟨#[97, 32, 98]⟩] w fun e w' => e = .returned (.bool false) ∧ w = w' := by
  have h := Name_calls ⟨#[97, 32, 98]⟩ w (by decide)
  rwa [show nameOk (⟨#[97, 32, 98]⟩ : ByteArray).data.toList = false from by decide +kernel] at h
set_option maxHeartbeats 4000000 in
set_option maxRecDepth 100000 in
theorem known_calls (w : World) (hsh : w.ShapedOpen Tryd.prog) : Calls Tryd.prog 9 #[] w fun e w' => e = .returned (.bool true) ∧ Below w.heap.size w w' := by
  have kc := kconv w
  have HBa := Lib.hid (below_alloc (Below.refl w.heap.size w) (.cells #[.int .u8 65, .int .u8 58, .int .u8 32, .int .u8 49, .int .u8 13, .int .u8 10, .int .u8 32, .int .u8 109, .int .u8 111, .int .u8 114, .int .u8 101, .int .u8 13, .int .u8 10, .int .u8 66, .int .u8 58, .int .u8 50, .int .u8 13, .int .u8 10, .int .u8 13, .int .u8 10, .int .u8 98, .int .u8 111, .int .u8 100, .int .u8 121] 5 (24, 25)))
  have HS := Lib.hid (Split_calls (w.alloc (.cells #[.int .u8 65, .int .u8 58, .int .u8 32, .int .u8 49, .int .u8 13, .int .u8 10, .int .u8 32, .int .u8 109, .int .u8 111, .int .u8 114, .int .u8 101, .int .u8 13, .int .u8 10, .int .u8 66, .int .u8 58, .int .u8 50, .int .u8 13, .int .u8 10, .int .u8 13, .int .u8 10, .int .u8 98, .int .u8 111, .int .u8 100, .int .u8 121] 5 (24, 25))) (shaped_below hsh HBa.out (Nat.le_refl _)) (some ⟨w.heap.size, 0, none⟩) 24 24 [65, 58, 32, 49, 13, 10, 32, 109, 111, 114, 101, 13, 10, 66, 58, 50, 13, 10, 13, 10, 98, 111, 100, 121] kws kwhole (by decide) (lit_reads w [65, 58, 32, 49, 13, 10, 32, 109, 111, 114, 101, 13, 10, 66, 58, 50, 13, 10, 13, 10, 98, 111, 100, 121] (24, 25) (by decide)) (Nat.le_refl _) (by decide))
  rw [ksplit] at HS
  clear hsh
  go_enter Tryd.func9, Tryd.ntmps9
  go_wp2_with fail
  refine HS.out.mono ?_
  rintro e w1 ⟨vo, vb, rfl, ho, hsb, hb1, _⟩
  obtain ⟨A1, c1, rfl, hf, hc1⟩ := FldRd.of_own ho
  obtain ⟨A2, c2, rfl, hr2, _, _⟩ := hsb
  have HG := Lib.hid (Get_calls w1 A1 2 c1 [([65], [32, 49, 13, 10, 32, 109, 111, 114, 101]), ([66], [50])] [98] hf hc1 (by decide) (by decide) (by decide))
  rw [show Pl.getV [([65], [32, 49, 13, 10, 32, 109, 111, 114, 101]), ([66], [50])] [98] = [50] from by decide +kernel, show Pl.getN [([65], [32, 49, 13, 10, 32, 109, 111, 114, 101]), ([66], [50])] [98] = 1 from by decide +kernel] at HG
  have HF := Lib.hid hf
  have HB1 := Lib.hid hb1
  have HR2 := Lib.hid hr2
  clear ho hf hb1 HS hr2
  go_wp2_with fail
  refine HG.out.mono ?_
  rintro e w2 ⟨rfl, hb2⟩
  have HB2 := Lib.hid hb2
  have hf2 := HF.out.below hb2
  obtain ⟨g, o, rfl, hc⟩ := hf2.2 (by decide)
  have hcell : w2.cell? ⟨g, o + 1, none⟩ = some (.string ⟨#[32, 49, 13, 10, 32, 109, 111, 114, 101]⟩) := (hc 0 (by decide)).2
  have hcv := string_of_reads (c := c2) (P := Tryd.prog) Tryd.underlying26 Tryd.underlying5 Tryd.underlying9 (HR2.out.below hb2)
  rw [show strOfNums (i8 [98, 111, 100, 121, 13, 10]) = ⟨#[98, 111, 100, 121, 13, 10]⟩ from by decide +kernel] at hcv
  clear hb2 hf2 hc
  go_wp2_with fail
  refine (kdate w2).mono ?_
  rintro e w3 ⟨rfl, hb3⟩
  have HB3 := Lib.hid hb3
  clear hb3
  go_wp2_with fail
  refine (kname _).mono ?_
  rintro e w4 ⟨rfl, rfl⟩
  go_wp2_with fail
  refine (kname2 _).mono ?_
  rintro e w4 ⟨rfl, rfl⟩
  go_wp2
  go_ret
  refine ⟨rfl, ?_⟩
  have x1 := below_then HBa.out HBa.out.size HB1.out
  have x2 := below_then x1 x1.size HB2.out
  exact below_then x2 x2.size HB3.out
end Go.Proofs.YtfpcngoonfbphaaDoor

/- ref14.Lower, law18.upper: bytes of a string, one by one. -/
set_option linter.unusedVariables false
set_option linter.unusedSimpArgs false
namespace Go.Proofs.YtfpcngoonfbphaaDoor
open Go.RowKit Go.Proofs.YtfpcngoonfbphaaDoorW.PrintWords Go.Proofs.YtfpcngoonfbphaaDoor.Pl

namespace Pl
def uppB (c : UInt8) : UInt8 := if 97 ≤ c ∧ c ≤ 122 then c - 32 else c
def upp (l : Bs) : Bs := l.map uppB
end Pl
def mapAt (f : UInt8 → UInt8) (l : Bs) (k : Nat) : Bs := (l.take k).map f ++ l.drop k
theorem mapAt_len (f : UInt8 → UInt8) (l : Bs) (k : Nat) : (mapAt f l k).length = l.length := by simp [mapAt]; omega
theorem mapAt_get (f : UInt8 → UInt8) (l : Bs) (k : Nat) (h : k < l.length) : (mapAt f l k)[k]'(by rw [mapAt_len]; exact h) = l[k] := by
  unfold mapAt
  rw [List.getElem_append_right (by simp; omega)]
  simp [Nat.min_eq_left (Nat.le_of_lt h)]
theorem mapAt_step (f : UInt8 → UInt8) (l : Bs) (k : Nat) (h : k < l.length) : mapAt f l (k + 1) = (mapAt f l k).set k (f l[k]) := by
  unfold mapAt
  rw [List.set_append_right _ _ (by simp; omega)]
  have e : k - ((l.take k).map f).length = 0 := by simp; omega
  rw [e, List.drop_eq_getElem_cons h, List.set_cons_zero]
  rw [List.take_succ_eq_append_getElem h]
  rw [List.map_append, List.append_assoc]
  rfl
theorem mapAt_same (f : UInt8 → UInt8) (l : Bs) (k : Nat) (h : k < l.length) (hc : f l[k] = l[k]) : mapAt f l (k + 1) = mapAt f l k := by
  rw [mapAt_step f l k h, hc]
  conv => lhs; rw [← mapAt_get f l k h]
  rw [List.set_getElem_self]
theorem low_add (c : UInt8) (h1 : 65 ≤ c.toNat) (h2 : c.toNat ≤ 90) : (Pl.lowB c).toNat = c.toNat + 32 := by
  rw [low_or c h1 h2]
  have : ∀ n, n < 91 → 65 ≤ n → n ||| 32 = n + 32 := by decide
  exact this _ (by omega) h1
theorem upp_sub (c : UInt8) (h1 : 97 ≤ c.toNat) (h2 : c.toNat ≤ 122) : (Pl.uppB c).toNat = c.toNat - 32 := by
  unfold Pl.uppB
  rw [if_pos (by simp only [UInt8.le_iff_toNat_le]; exact ⟨h1, h2⟩), UInt8.toNat_sub_of_le _ _ (by simp only [UInt8.le_iff_toNat_le]; exact Nat.le_trans (by decide) h1)]
  rfl
theorem upp_no (c : UInt8) (h : c.toNat < 97 ∨ 122 < c.toNat) : Pl.uppB c = c := by
  unfold Pl.uppB
  rw [if_neg (by simp only [UInt8.le_iff_toNat_le]; intro q; have q1 : 97 ≤ c.toNat := q.1; have q2 : c.toNat ≤ 122 := q.2; omega)]

set_option maxHeartbeats 1000000 in
theorem RLower_calls (s : Bs) (w : World) (hs : s.length ≤ 10000000) :
    Calls Tryd.prog 49 #[.string ⟨s.toArray⟩] w fun e w' => e = .returned (.string ⟨(Pl.low s).toArray⟩) ∧ Below w.heap.size w w' := by
  have kb := fun W => print_bytes (P := Tryd.prog) 9 26 5 Tryd.underlying9 Tryd.underlying26 Tryd.underlying5 ⟨s.toArray⟩ W
  have hsz := size_mk s
  have HL := Lib.hid (conv_low w s)
  have HB := Lib.hid (conv_below w ⟨s.toArray⟩)
  go_enter Tryd.func49, Tryd.ntmps49
  go_wp2
  go_loopw [4] (fun i wr => ∃ k : Nat, k ≤ s.length ∧ i = .int .i64 k ∧ Hid (LowW wr w.heap.size (mapAt Pl.lowB s k) ∧ Below w.heap.size w wr)) (fun i _ => s.length - (intOf i).toNat)
  case atStart => exact ⟨0, Nat.zero_le _, rfl, Lib.hid ⟨HL.out, HB.out⟩⟩
  case round =>
    obtain ⟨k, hk, rfl, HR⟩ := hrel
    by_cases hlt : k < s.length
    · have hc : wr.cell? ⟨w.heap.size, k, none⟩ = some (.int .u8 s[k].toNat) := by
        have := (HR.out.1 k (by rw [mapAt_len]; exact hlt)).1
        rw [mapAt_get Pl.lowB s k hlt] at this
        exact this
      have hz := (HR.out.1 k (by rw [mapAt_len]; exact hlt)).2
      have hlow := Lib.hid (low_add s[k])
      have hno := Lib.hid (low_no s[k])
      have hsame := Lib.hid (mapAt_same Pl.lowB s k hlt)
      have hstep := Lib.hid (mapAt_step Pl.lowB s k hlt)
      have hc256 : s[k].toNat < 256 := s[k].toNat_lt
      by_cases b1 : 65 ≤ s[k].toNat
      · have d1 : decide (65 ≤ (s[k].toNat : Int)) = true := decide_eq_true (by omega)
        by_cases b2 : s[k].toNat ≤ 90
        · have d2 : decide ((s[k].toNat : Int) ≤ 90) = true := decide_eq_true (by omega)
          have hw : ((s[k].toNat : Int) + 32) % 256 = (s[k].toNat : Int) + 32 := by omega
          go_wp2
          go_roundw
          case rel => exact ⟨k + 1, by omega, by go_num, Lib.hid ⟨by (have h := HR.out.1.store k (by rw [mapAt_len]; exact hlt) (Pl.lowB s[k]); rw [← hstep.out, hlow.out (by omega) (by omega)] at h; rw [show ((s[k].toNat + 32 : Nat) : Int) = (s[k].toNat : Int) + 32 from by omega] at h; exact h), HR.out.2.setCell (Nat.le_refl _) _⟩⟩
          case measure => simp [intOf]; omega
        · have d2 : decide ((s[k].toNat : Int) ≤ 90) = false := decide_eq_false (by omega)
          go_wp2
          go_roundw
          case rel => exact ⟨k + 1, by omega, by go_num, Lib.hid ⟨by rw [hsame.out (hno.out (.inr (by omega)))]; exact HR.out.1, HR.out.2⟩⟩
          case measure => simp [intOf]; omega
      · have d1 : decide (65 ≤ (s[k].toNat : Int)) = false := decide_eq_false (by omega)
        go_wp2
        go_roundw
        case rel => exact ⟨k + 1, by omega, by go_num, Lib.hid ⟨by rw [hsame.out (hno.out (.inl (by omega)))]; exact HR.out.1, HR.out.2⟩⟩
        case measure => simp [intOf]; omega
    · have hcv : ∀ c, (convert 26 9 (.slice (some ⟨w.heap.size, 0, none⟩) s.length c)).run Tryd.prog wr = .ok (.string ⟨(Pl.low s).toArray⟩) wr := by
        intro c
        have e : mapAt Pl.lowB s k = Pl.low s := by unfold mapAt; rw [List.take_of_length_le (by omega), List.drop_of_length_le (by omega), List.append_nil]; rfl
        have h := string_of_reads (c := c) (P := Tryd.prog) Tryd.underlying26 Tryd.underlying5 Tryd.underlying9 (HR.out.1.reads (by rw [mapAt_len]; omega))
        rw [mapAt_len, e, strOf_i8] at h
        exact h
      go_wp2
      go_ret
      exact ⟨rfl, HR.out.2⟩
end Go.Proofs.YtfpcngoonfbphaaDoor

/- law18.upper. -/
set_option linter.unusedVariables false
set_option linter.unusedSimpArgs false
namespace Go.Proofs.YtfpcngoonfbphaaDoor
open Go.RowKit Go.Proofs.YtfpcngoonfbphaaDoorW.PrintWords Go.Proofs.YtfpcngoonfbphaaDoor.Pl

set_option maxHeartbeats 1000000 in
theorem upper_calls (s : Bs) (w : World) (hs : s.length ≤ 10000000) :
    Calls Tryd.prog 12 #[.string ⟨s.toArray⟩] w fun e w' => e = .returned (.string ⟨(Pl.upp s).toArray⟩) ∧ Below w.heap.size w w' := by
  have kb := fun W => print_bytes (P := Tryd.prog) 9 26 5 Tryd.underlying9 Tryd.underlying26 Tryd.underlying5 ⟨s.toArray⟩ W
  have hsz := size_mk s
  have HL := Lib.hid (conv_low w s)
  have HB := Lib.hid (conv_below w ⟨s.toArray⟩)
  go_enter Tryd.func12, Tryd.ntmps12
  go_wp2
  go_loopw [4] (fun i wr => ∃ k : Nat, k ≤ s.length ∧ i = .int .i64 k ∧ Hid (LowW wr w.heap.size (mapAt Pl.uppB s k) ∧ Below w.heap.size w wr)) (fun i _ => s.length - (intOf i).toNat)
  case atStart => exact ⟨0, Nat.zero_le _, rfl, Lib.hid ⟨HL.out, HB.out⟩⟩
  case round =>
    obtain ⟨k, hk, rfl, HR⟩ := hrel
    by_cases hlt : k < s.length
    · have hc : wr.cell? ⟨w.heap.size, k, none⟩ = some (.int .u8 s[k].toNat) := by
        have := (HR.out.1 k (by rw [mapAt_len]; exact hlt)).1
        rw [mapAt_get Pl.uppB s k hlt] at this
        exact this
      have hz := (HR.out.1 k (by rw [mapAt_len]; exact hlt)).2
      have hlow := Lib.hid (upp_sub s[k])
      have hno := Lib.hid (upp_no s[k])
      have hsame := Lib.hid (mapAt_same Pl.uppB s k hlt)
      have hstep := Lib.hid (mapAt_step Pl.uppB s k hlt)
      have hc256 : s[k].toNat < 256 := s[k].toNat_lt
      by_cases b1 : 97 ≤ s[k].toNat
      · have d1 : decide (97 ≤ (s[k].toNat : Int)) = true := decide_eq_true (by omega)
        by_cases b2 : s[k].toNat ≤ 122
        · have d2 : decide ((s[k].toNat : Int) ≤ 122) = true := decide_eq_true (by omega)
          have hw : ((s[k].toNat : Int) - 32) % 256 = (s[k].toNat : Int) - 32 := by omega
          go_wp2
          go_roundw
          case rel => exact ⟨k + 1, by omega, by go_num, Lib.hid ⟨by (have h := HR.out.1.store k (by rw [mapAt_len]; exact hlt) (Pl.uppB s[k]); rw [← hstep.out, hlow.out (by omega) (by omega)] at h; rw [show ((s[k].toNat - 32 : Nat) : Int) = (s[k].toNat : Int) - 32 from by omega] at h; exact h), HR.out.2.setCell (Nat.le_refl _) _⟩⟩
          case measure => simp [intOf]; omega
        · have d2 : decide ((s[k].toNat : Int) ≤ 122) = false := decide_eq_false (by omega)
          go_wp2
          go_roundw
          case rel => exact ⟨k + 1, by omega, by go_num, Lib.hid ⟨by rw [hsame.out (hno.out (.inr (by omega)))]; exact HR.out.1, HR.out.2⟩⟩
          case measure => simp [intOf]; omega
      · have d1 : decide (97 ≤ (s[k].toNat : Int)) = false := decide_eq_false (by omega)
        go_wp2
        go_roundw
        case rel => exact ⟨k + 1, by omega, by go_num, Lib.hid ⟨by rw [hsame.out (hno.out (.inl (by omega)))]; exact HR.out.1, HR.out.2⟩⟩
        case measure => simp [intOf]; omega
    · have hcv : ∀ c, (convert 26 9 (.slice (some ⟨w.heap.size, 0, none⟩) s.length c)).run Tryd.prog wr = .ok (.string ⟨(Pl.upp s).toArray⟩) wr := by
        intro c
        have e : mapAt Pl.uppB s k = Pl.upp s := by unfold mapAt; rw [List.take_of_length_le (by omega), List.drop_of_length_le (by omega), List.append_nil]; rfl
        have h := string_of_reads (c := c) (P := Tryd.prog) Tryd.underlying26 Tryd.underlying5 Tryd.underlying9 (HR.out.1.reads (by rw [mapAt_len]; omega))
        rw [mapAt_len, e, strOf_i8] at h
        exact h
      go_wp2
      go_ret
      exact ⟨rfl, HR.out.2⟩
end Go.Proofs.YtfpcngoonfbphaaDoor

/- Contracts proved by hand, in the printed contracts' form: known, Split, Date, Lower, upper. -/
set_option linter.unusedVariables false
set_option linter.unusedSimpArgs false
namespace Go.Proofs.YtfpcngoonfbphaaDoor.XH
open Go.RowKit Go.Proofs.YtfpcngoonfbphaaDoorW.PrintWords Go.Proofs.YtfpcngoonfbphaaDoor Go.Proofs.YtfpcngoonfbphaaDoor.Pl

/-! ### Bytes as numbers -/
def isB (l : List Int) : Bool := l.all fun x => decide (0 ≤ x ∧ x < 256)
def bsOf (l : List Int) : Bs := l.map fun i => UInt8.ofNat i.toNat
theorem bsOf_str (l : List Int) : strOfNums l = ⟨(bsOf l).toArray⟩ := rfl
theorem i8_bsOf {l : List Int} (h : isB l = true) : i8 (bsOf l) = l := by
  unfold i8 bsOf
  rw [List.map_map]
  conv => rhs; rw [← List.map_id l]
  apply List.map_congr_left
  intro x hx
  have := List.all_eq_true.1 h x hx
  simp only [decide_eq_true_eq] at this
  show (((UInt8.ofNat x.toNat).toNat : Nat) : Int) = x
  rw [UInt8.toNat_ofNat']
  omega
theorem bsOf_i8 (b : Bs) : bsOf (i8 b) = b := by
  unfold i8 bsOf
  rw [List.map_map]
  conv => rhs; rw [← List.map_id b]
  apply List.map_congr_left
  intro x _
  have := x.toNat_lt
  show UInt8.ofNat ((x.toNat : Int)).toNat = x
  rw [show ((x.toNat : Int)).toNat = x.toNat from by omega]
  simp
theorem isB_i8 (b : Bs) : isB (i8 b) = true := by
  unfold isB i8
  rw [List.all_eq_true]
  intro x hx
  obtain ⟨c, _, rfl⟩ := List.mem_map.1 hx
  have := c.toNat_lt
  simp only [decide_eq_true_eq]
  omega
theorem bsOf_len (l : List Int) : (bsOf l).length = l.length := by simp [bsOf]
theorem bytesOf_i8 (s : ByteArray) : bytesOf s = i8 s.data.toList := by
  conv => lhs; rw [eta_mk s]
  exact bytesOf_mk _
/-- A text's bytes with CR LF behind, if it has none and is not empty. -/
def wholeB (b : Bs) : Bs := if b = [] ∨ [13, 10] <:+ b then b else b ++ [13, 10]
theorem endsB_i8 (b : Bs) : endsB (i8 b) crlf = decide ([13, 10] <:+ b) := by
  unfold endsB
  rw [i8_len]
  have hc : crlf = i8 [13, 10] := rfl
  have hl : crlf.length = 2 := rfl
  rw [hl]
  by_cases h : 2 ≤ b.length
  · have e1 : (i8 b).drop (b.length - 2) = i8 (b.drop (b.length - 2)) := by unfold i8; rw [List.map_drop]
    rw [e1, hc, strOf_i8, strOf_i8, toList_mk, toList_mk, Bool.eq_iff_iff]
    simp only [Bool.and_eq_true, decide_eq_true_eq, beq_iff_eq]
    constructor
    · rintro ⟨_, h2⟩
      rw [← h2]
      exact List.drop_suffix _ _
    · rintro ⟨t, rfl⟩
      refine ⟨h, ?_⟩
      rw [List.length_append, show t.length + [(13 : UInt8), 10].length - 2 = t.length from by simp, List.drop_left]
  · rw [Bool.eq_iff_iff]
    simp only [Bool.and_eq_true, decide_eq_true_eq]
    constructor
    · rintro ⟨h1, _⟩; omega
    · rintro ⟨t, rfl⟩; simp at h
theorem whole_i8 (b : Bs) : whole (i8 b) = i8 (wholeB b) := by
  unfold whole wholeB
  have h0 : i8 b = [] ↔ b = [] := by simp [i8]
  rw [endsB_i8]
  by_cases h : b = [] ∨ [13, 10] <:+ b
  · rw [if_pos h, if_pos (by rcases h with h | h; · exact .inl (h0.2 h)
                             · exact .inr (decide_eq_true h))]
  · rw [if_neg h, if_neg (by rintro (q | q); · exact h (.inl (h0.1 q))
                             · exact h (.inr (of_decide_eq_true q)))]
    simp [i8, crlf]
theorem wholeB_len (b : Bs) : (wholeB b).length ≤ b.length + 2 := by
  unfold wholeB
  split
  · omega
  · simp

/-! ### What a call hands back, in the printed form -/
theorem cell_move {W W' : World} {a : Addr} (h : W'.heap[a.block]? = W.heap[a.block]?) : W'.cell? a = W.cell? a := by
  unfold World.cell?
  rw [h]
theorem SB_V {W : World} {base : Nat} {e : TypeId} {v vo : Value} {xs : List Int} (h : SB W base v xs) (hap : Apart vo v) : Kd.V (Kd.int .u8) e W base (fun k_ => (base ≤ k_) ∧ some k_ ≠ (vo : Value).ownBlock) v xs := by
  obtain ⟨A, c, rfl, hr, hc, ha⟩ := h
  refine ⟨A, c, rfl, hc, fun W' hk => Kd.C_of_reads (d := (0 : Int)) (h1 := fun _ => rfl) ⟨hr.1, hr.2.1, fun h0 => ?_⟩⟩
  obtain ⟨ad, rfl, hcell⟩ := hr.2.2 h0
  refine ⟨ad, rfl, fun j hj => ?_⟩
  rw [← hcell j hj]
  apply cell_move
  rw [add_block]
  refine hk _ ⟨ha ad rfl, hap ad _ _ rfl⟩ ?_
  have := World.block_lt_of_cell? _ _ (hcell j hj)
  rwa [add_block] at this
def toS (p : Fld) : S34 := ⟨⟨p.1.toArray⟩, ⟨p.2.toArray⟩⟩
theorem OwnF_R {W : World} {base : Nat} {ok : Nat → Prop} {v : Value} {l : List Fld} (h : OwnF W base v l) (hok : ∀ k, v.ownBlock = some k → ok k) : Kd.R k34 34 W base ok v (l.map toS) := by
  refine ⟨hok, fldCells l, ?_, by rw [fldCells_len, List.length_map]; rfl, fun j p hj => ?_⟩
  · rw [List.length_map]; exact h
  · rw [List.getElem?_map] at hj
    obtain ⟨q, hq, rfl⟩ := Option.map_eq_some_iff.1 hj
    obtain ⟨hjl, hqe⟩ := List.getElem?_eq_some_iff.1 hq
    have h2 := fldCells_at l j hjl
    rw [hqe] at h2
    have e : ((fldCells l).drop (j * 2)).take 2 = [.string ⟨q.1.toArray⟩, .string ⟨q.2.toArray⟩] := by
      apply List.ext_getElem?
      intro i
      rw [List.getElem?_take]
      match i with
      | 0 => simp [h2.1]
      | 1 => simp [h2.2]
      | i + 2 => simp; omega
    show k34.M _ _ _ (toS q) (((fldCells l).drop (j * 2)).take 2)
    rw [e]
    exact k34_mkM _ _ _ (toS q)

/-! ### The contracts -/
def mailbaglaw18_known.f : Option Bool := some true
theorem mailbaglaw18_known.calls (r : Bool) (w : World) (hsh : w.ShapedOpen Tryd.prog) (h : mailbaglaw18_known.f = some r) :
    Calls Tryd.prog 9 #[] w fun e w' => e = .returned (.bool r) ∧ Below w.heap.size w w' := by
  obtain rfl := Option.some.inj h
  exact known_calls w hsh
def head_Split.f (l0 : List Int) : Option (List S34 × List Int) :=
  if isB l0 = true ∧ l0.length ≤ 99000 then some ((splitGo ((wholeB (bsOf l0)).length + 1) [] (wholeB (bsOf l0))).1.map toS, i8 (splitGo ((wholeB (bsOf l0)).length + 1) [] (wholeB (bsOf l0))).2) else none
theorem head_Split.calls (A0 : Option Addr) (c0 : Nat) (l0 : List Int) (r1 : List S34) (r2 : List Int) (w : World) (hr0 : Kd.C (Kd.int .u8) w A0 l0.length l0) (hc0 : l0.length ≤ c0) (hsh : w.ShapedOpen Tryd.prog) (h : head_Split.f l0 = some (r1, r2)) :
    Calls Tryd.prog 13 #[.slice A0 l0.length c0] w fun e w' => ∃ v0_ v1_ : Value, e = .returned (.tuple #[v0_, v1_]) ∧ Kd.R k34 34 w' w.heap.size (fun k_ => (w.heap.size ≤ k_)) v0_ r1 ∧ Kd.V (Kd.int .u8) 5 w' w.heap.size (fun k_ => (w.heap.size ≤ k_) ∧ some k_ ≠ (v0_ : Value).ownBlock) v1_ r2 ∧ Below w.heap.size w w' := by
  unfold head_Split.f at h
  split at h
  · rename_i hb
    simp only [Option.some.injEq, Prod.mk.injEq] at h
    obtain ⟨rfl, rfl⟩ := h
    have hl := wholeB_len (bsOf l0)
    rw [bsOf_len] at hl
    have hw : whole l0 = i8 (wholeB (bsOf l0)) := by rw [← whole_i8, i8_bsOf hb.1]
    refine (Split_calls w hsh A0 l0.length c0 l0 (wholeB (bsOf l0)) hw (by omega) (Kd.reads_of_C hr0) hc0 (by omega)).mono ?_
    rintro e w' ⟨vo, vb, rfl, ho, hs, hbl, hap⟩
    exact ⟨vo, vb, rfl, OwnF_R ho (fun k hk => own_base ho k hk), SB_V hs hap, hbl⟩
  · cases h
def addr_Lower.f (a0 : ByteArray) : Option ByteArray := if a0.size ≤ 10000000 then some ⟨(low a0.data.toList).toArray⟩ else none
theorem addr_Lower.calls (a0 : ByteArray) (r : ByteArray) (w : World) (h : addr_Lower.f a0 = some r) :
    Calls Tryd.prog 46 #[.string a0] w fun e w' => e = .returned (.string r) ∧ Below w.heap.size w w' := by
  unfold addr_Lower.f at h
  split at h
  · rename_i hs
    obtain rfl := Option.some.inj h
    have hc := Lower_calls a0.data.toList w (by rw [data_length]; exact hs)
    rwa [← eta_mk a0] at hc
  · cases h
def mailbagref14_Lower.f (a0 : ByteArray) : Option ByteArray := if a0.size ≤ 10000000 then some ⟨(low a0.data.toList).toArray⟩ else none
theorem mailbagref14_Lower.calls (a0 : ByteArray) (r : ByteArray) (w : World) (h : mailbagref14_Lower.f a0 = some r) :
    Calls Tryd.prog 49 #[.string a0] w fun e w' => e = .returned (.string r) ∧ Below w.heap.size w w' := by
  unfold mailbagref14_Lower.f at h
  split at h
  · rename_i hs
    obtain rfl := Option.some.inj h
    have hc := RLower_calls a0.data.toList w (by rw [data_length]; exact hs)
    rwa [← eta_mk a0] at hc
  · cases h
def mailbaglaw18_upper.f (a0 : ByteArray) : Option ByteArray := if a0.size ≤ 10000000 then some ⟨(upp a0.data.toList).toArray⟩ else none
theorem mailbaglaw18_upper.calls (a0 : ByteArray) (r : ByteArray) (w : World) (h : mailbaglaw18_upper.f a0 = some r) :
    Calls Tryd.prog 12 #[.string a0] w fun e w' => e = .returned (.string r) ∧ Below w.heap.size w w' := by
  unfold mailbaglaw18_upper.f at h
  split at h
  · rename_i hs
    obtain rfl := Option.some.inj h
    have hc := upper_calls a0.data.toList w (by rw [data_length]; exact hs)
    rwa [← eta_mk a0] at hc
  · cases h
end Go.Proofs.YtfpcngoonfbphaaDoor.XH

/- Contracts of Go functions: for each function a Lean function with its answers, and the proof that the Go code comes to these. Written by wip/px.py of this session, upon the kit's printer. -/
namespace Go.Proofs.YtfpcngoonfbphaaDoor.XH
open Go.RowKit Go.Proofs.YtfpcngoonfbphaaDoorW.PrintWords Go.Proofs.YtfpcngoonfbphaaDoorW.PrintLast Go.Proofs.YtfpcngoonfbphaaDoorW.PrintMore
attribute [local go_sem] max2_int min2_int max_two min_two max_three min_three max_four min_four   -- for this text's walks alone
set_option linter.unusedVariables false
set_option linter.unusedSimpArgs false

/-! ### mailbagref17_ends: function 52 -/
def mailbagref17_ends.f (l0 : List Int) (a1 : ByteArray) : Option (Bool) := if (l0.length : Int) ≥ (a1.size : Int) then (if 0 ≤ (wrap64 ((l0.length : Int) - (a1.size : Int))) then (if (wrap64 ((l0.length : Int) - (a1.size : Int))) ≤ (l0.length : Int) then (some ((strOfNums (l0.drop ((wrap64 ((l0.length : Int) - (a1.size : Int))) : Int).toNat)).toList == a1.toList)) else (none)) else (none)) else (some false)
set_option maxHeartbeats 8000000 in
set_option maxRecDepth 100000 in
theorem mailbagref17_ends.calls (A0 : Option Addr) (c0 : Nat) (l0 : List Int) (a1 : ByteArray) (r : Bool) (w : World) (hr0 : Kd.C (Kd.int .u8) w A0 l0.length l0) (hc0 : l0.length ≤ c0) (h : mailbagref17_ends.f l0 a1 = some r) :
    Calls Tryd.prog 52 #[.slice A0 l0.length c0, .string a1] w fun e w' => e = .returned (.bool r) ∧ Drawn0 w w' := by
  have HR0 := Aside0.mk hr0
  have HC0 := Aside0.mk hc0
  clear hr0 hc0
  have H : (if (l0.length : Int) ≥ (a1.size : Int) then (if 0 ≤ (wrap64 ((l0.length : Int) - (a1.size : Int))) then (if (wrap64 ((l0.length : Int) - (a1.size : Int))) ≤ (l0.length : Int) then (some ((strOfNums (l0.drop ((wrap64 ((l0.length : Int) - (a1.size : Int))) : Int).toNat)).toList == a1.toList)) else (none)) else (none)) else (some false)) = some r := h
  clear h
  by_cases c3 : (l0.length : Int) ≥ (a1.size : Int)
  · rw [if_pos c3] at H
    have c3b0 : decide ((a1.size : Int) ≤ (l0.length : Int)) = true := decide_eq_true c3
    have c3b1 : decide (a1.size ≤ l0.length) = true := decide_eq_true (Int.ofNat_le.mp c3)
    clear c3
    obtain ⟨ji4, hji4⟩ : ∃ j_ : Int, (wrap64 ((l0.length : Int) - (a1.size : Int))) = j_ := ⟨_, rfl⟩
    replace H : (if 0 ≤ (ji4) then (if (ji4) ≤ (l0.length : Int) then (some ((strOfNums (l0.drop ((ji4) : Int).toNat)).toList == a1.toList)) else (none)) else (none)) = some r := by first | (rw [hji4] at H; exact H) | (simp only [hji4] at H ⊢; exact H)
    have hji4w : (IntKind.i64.wrap ((l0.length : Int) - (a1.size : Int))) = ji4 := (i64_w _).trans hji4
    by_cases c5 : 0 ≤ (ji4)
    · rw [if_pos c5] at H
      have c5b0 := eq_true c5
      have c5b1 : decide (0 ≤ (ji4)) = true := decide_eq_true c5
      clear c5
      by_cases c6 : (ji4) ≤ (l0.length : Int)
      · rw [if_pos c6] at H
        have c6b0 := eq_true c6
        have c6b1 : decide ((ji4) ≤ (l0.length : Int)) = true := decide_eq_true c6
        clear c6
        obtain rfl := Option.some.inj H
        obtain ⟨i07, hi07, _, hsz7, _⟩ := info_parts info5
        obtain ⟨A7, hcut7, hA7, hC7⟩ := print_drop_of (P := Tryd.prog) (Value.int .u8) 0 26 5 .i64 Tryd.underlying26 hi07 hsz7 A0 c0 l0 (ji4) (of_decide_eq_true (by first | (with_reducible assumption) | assumption)) (of_decide_eq_true (by first | (with_reducible assumption) | assumption)) HC0.out
        have HR131 := Aside0.mk (Kd.C_of_reads (h1 := fun _ => rfl) (hA7 _ (Kd.reads_of_C HR0.out)))
        have HC131 := Aside0.mk hC7
        clear hA7 hC7 hi07 hsz7
        have hcv8 := Kd.C_string (P := Tryd.prog) (A := A7) (c := (c0 - (ji4).toNat)) Tryd.underlying26 Tryd.underlying5 Tryd.underlying9 HR131.out
        (try rw [show (l0.drop ((ji4) : Int).toNat).length = (l0.length - (ji4).toNat) from List.length_drop] at hcv8)
        go_enter Tryd.func52, Tryd.ntmps52
        go_wp2
        go_ret
        exact ⟨by first | rfl | (simp; done) | (simp only [← hji4] <;> (first | rfl | simp)) | (simp [*]; done), by repeat (first | exact Drawn0.refl _ | apply Drawn0.step)⟩
      · rw [if_neg c6] at H
        exact absurd H (by simp)
    · rw [if_neg c5] at H
      exact absurd H (by simp)
  · rw [if_neg c3] at H
    have c3b0 : decide ((a1.size : Int) ≤ (l0.length : Int)) = false := decide_eq_false c3
    have c3b1 : decide (a1.size ≤ l0.length) = false := decide_eq_false (fun h => c3 (Int.ofNat_le.mpr h))
    clear c3
    obtain rfl := Option.some.inj H
    go_enter Tryd.func52, Tryd.ntmps52
    go_wp2
    go_ret
    exact ⟨by first | rfl | (simp; done) | (simp [*]; done), by repeat (first | exact Drawn0.refl _ | apply Drawn0.step)⟩

/-! ### mailbagref17_Whole: function 26 -/
def mailbagref17_Whole.f (l0 : List Int) : Option (List Int) := if (l0.length : Int) = 0 then ((some (([] : List Int) : List Int)).bind fun y132 => (if y132.length + l0.length < 140737488355328 then (some (y132 ++ l0)) else (none))) else ((mailbagref17_ends.f l0 (⟨#[13, 10]⟩ : ByteArray)).bind fun t138 => (if t138 = true then ((some (([] : List Int) : List Int)).bind fun y139 => (if y139.length + l0.length < 140737488355328 then (some (y139 ++ l0)) else (none))) else ((some (([] : List Int) : List Int)).bind fun y145 => (if y145.length + l0.length < 140737488355328 then ((some (y145 ++ l0 : List Int)).bind fun y148 => ((some (([13, 10] : List Int) : List Int)).bind fun y151 => (if y148.length + y151.length < 140737488355328 then (some (y148 ++ y151)) else (none)))) else (none)))))
set_option maxHeartbeats 8000000 in
set_option maxRecDepth 100000 in
theorem mailbagref17_Whole.calls (A0 : Option Addr) (c0 : Nat) (l0 : List Int) (r : List Int) (w : World) (hr0 : Kd.C (Kd.int .u8) w A0 l0.length l0) (hc0 : l0.length ≤ c0) (h : mailbagref17_Whole.f l0 = some r) :
    Calls Tryd.prog 26 #[.slice A0 l0.length c0] w fun e w' => ∃ v0_ : Value, e = .returned (v0_) ∧ Kd.R (Kd.int .u8) 5 w' w.heap.size (fun _ => True) v0_ r ∧ Below w.heap.size w w' := by
  have HR0 := Aside0.mk hr0
  have HC0 := Aside0.mk hc0
  clear hr0 hc0
  have HB := Aside0.mk (Below.refl w.heap.size w)
  have H : (if (l0.length : Int) = 0 then ((some (([] : List Int) : List Int)).bind fun y132 => (if y132.length + l0.length < 140737488355328 then (some (y132 ++ l0)) else (none))) else ((mailbagref17_ends.f l0 (⟨#[13, 10]⟩ : ByteArray)).bind fun t138 => (if t138 = true then ((some (([] : List Int) : List Int)).bind fun y139 => (if y139.length + l0.length < 140737488355328 then (some (y139 ++ l0)) else (none))) else ((some (([] : List Int) : List Int)).bind fun y145 => (if y145.length + l0.length < 140737488355328 then ((some (y145 ++ l0 : List Int)).bind fun y148 => ((some (([13, 10] : List Int) : List Int)).bind fun y151 => (if y148.length + y151.length < 140737488355328 then (some (y148 ++ y151)) else (none)))) else (none)))))) = some r := h
  clear h
  by_cases c2 : (l0.length : Int) = 0
  · rw [if_pos c2] at H
    have c2b0 : ((l0.length : Int) == 0) = true := beq_iff_eq.mpr c2
    have c2b1 : ((l0.length : Int) != 0) = false := bne_eq_false_iff_eq.mpr c2
    clear c2
    obtain ⟨y132, hy132⟩ : ∃ y_ : List Int, y_ = (([] : List Int)) := ⟨_, rfl⟩
    replace H : (if y132.length + l0.length < 140737488355328 then (some (y132 ++ l0)) else (none)) = some r := by first | (rw [hy132]; with_reducible exact H) | (have H2_ := (Option.bind_some _ _).symm.trans H; rw [hy132]; with_reducible exact H2_) | (have H2_ := (Option.bind_some _ _).symm.trans H; with_reducible exact H2_) | with_reducible exact H | (rw [hy132]; exact H) | exact H
    have Ny132 := Aside0.mk hy132
    clear hy132
    by_cases c3 : y132.length + l0.length < 140737488355328
    · rw [if_pos c3] at H
      have LMc3 := Aside0.mk c3
      clear c3
      obtain ⟨y135, hy135⟩ : ∃ y_ : List Int, y_ = (y132 ++ l0) := ⟨_, rfl⟩
      replace H : (some y135) = some r := by first | (rw [hy135]; with_reducible exact H) | (have H2_ := (Option.bind_some _ _).symm.trans H; rw [hy135]; with_reducible exact H2_) | (have H2_ := (Option.bind_some _ _).symm.trans H; with_reducible exact H2_) | with_reducible exact H | (rw [hy135]; exact H) | exact H
      have Ny135 := Aside0.mk hy135
      clear hy135
      obtain rfl := Option.some.inj H
      go_enter Tryd.func26, Tryd.ntmps26
      go_wp2_with (first | ((with_reducible refine gate_dst (N := 10) rfl ?_); refine Kd.R_lit (Kd.int .u8) _ 5 ?hg (N := 10) ?hd (xs := ([] : List Int)) (inner := []) (ok := fun _ => True) (okp := fun _ => True) ?hr ?hp (fun _ hk => hk) trivial (Below.refl _ _) (Nat.le_refl _) (by simp) ?_; (case hd => rfl); (case hg => rfl); (case hr => first | (go_simp; done) | (go_simp; rfl)); (case hp => exact (Reps.none _ _)); intro v133 w4 ho5 hb hg_ hnew_; clear hg_ hnew_; (first | rw [← Ny132.out] at ho5 | (simp only [Int.reduceToNat] at ho5; rw [← Ny132.out] at ho5)); have n0_ := Aside0.mk (Kd.R_lower ho5 (below_size (by repeat (first | (with_reducible first | exact HB.out | apply below_alloc | apply pw_below_drewN | apply below_drew1) | exact HB.out)))); have n1_ := Aside0.mk (below_step (by repeat (first | (with_reducible first | exact HB.out | apply below_alloc | apply pw_below_drewN | apply below_drew1) | exact HB.out)) hb); clear HB; have HO134 := n0_; have HB := n1_; clear n0_ n1_; clear hb ho5) | ((with_reducible refine gate_builtin (b := .append) (xs := #[.tmp 10, .tmp 11]) rfl ?_); at_builtin; refine Kd.R_append_rows (Kd.int .u8) (w0 := w) w.heap.size rfl (.tmp 10) (.tmp 11) 26 5 (.int .u8 0) 1 rfl Tryd.underlying26 info5 rfl (by decide) (by omega) v133 y132 l0 _ _ _ (fun _ => True) (fun _ => False) rfl rfl ?aO ?aR (fun _ _ h => h) (fun _ h => h.elim) ?aF ?aB ?aS ?aL ?_; (case aR => repeat (first | exact (Kd.C_below HR0.out HB.out) | (with_reducible refine Kd.C_alloc ?_ _) | (with_reducible refine Kd.C_drewN ?_ _) | (with_reducible refine Kd.C_drew ?_))); (case aB => exact (by repeat (first | (with_reducible first | exact HB.out | apply below_alloc | apply pw_below_drewN | apply below_drew1) | exact HB.out))); (case aF => exact (fun _ _ => trivial)); (case aO => exact (by (with_reducible repeat (first | apply Kd.R_alloc | apply Kd.R_drewN | apply Kd.R_drew)); exact HO134.out)); (case aS => exact (below_size (by repeat (first | (with_reducible first | exact HB.out | apply below_alloc | apply pw_below_drewN | apply below_drew1) | exact HB.out)))); (case aL => have := LMc3.out; omega); intro v136 w6 ho hb hg hat; rw [← Ny135.out] at ho; have n0_ := Aside0.mk (hb); have n1_ := Aside0.mk (ho); clear HB; clear HO134; have HB := n0_; have HO137 := n1_; clear n0_ n1_; clear ho hb hg hat))
      go_ret
      exact ⟨_, by first | rfl | (simp [errW_none, errW_some] <;> rfl) | (simp [*, errW_none, errW_some] <;> rfl), by (with_reducible repeat (first | apply Kd.R_alloc | apply Kd.R_drewN | apply Kd.R_drew)); exact HO137.out, by repeat (first | (with_reducible first | exact HB.out | apply below_alloc | apply pw_below_drewN | apply below_drew1) | exact HB.out)⟩
    · rw [if_neg c3] at H
      exact absurd H (by simp)
  · rw [if_neg c2] at H
    have c2b0 : ((l0.length : Int) == 0) = false := beq_eq_false_iff_ne.mpr c2
    have c2b1 : ((l0.length : Int) != 0) = true := bne_iff_ne.mpr c2
    have c2b2 : ¬ (l0 = []) := fun h_ => c2 (by rw [h_]; rfl)
    replace H := Option.bind_eq_some_iff.mp H
    obtain ⟨t138, A70, H⟩ := H
    replace H : (if t138 = true then ((some (([] : List Int) : List Int)).bind fun y139 => (if y139.length + l0.length < 140737488355328 then (some (y139 ++ l0)) else (none))) else ((some (([] : List Int) : List Int)).bind fun y145 => (if y145.length + l0.length < 140737488355328 then ((some (y145 ++ l0 : List Int)).bind fun y148 => ((some (([13, 10] : List Int) : List Int)).bind fun y151 => (if y148.length + y151.length < 140737488355328 then (some (y148 ++ y151)) else (none)))) else (none)))) = some r := H
    have A7 := Aside0.mk A70
    clear A70
    by_cases c8 : t138 = true
    · subst c8
      have H1 : ((some (([] : List Int) : List Int)).bind fun y139 => (if y139.length + l0.length < 140737488355328 then (some (y139 ++ l0)) else (none))) = some r := by rw [if_pos rfl] at H; exact H
      clear H
      have H := H1
      clear H1
      obtain ⟨y139, hy139⟩ : ∃ y_ : List Int, y_ = (([] : List Int)) := ⟨_, rfl⟩
      replace H : (if y139.length + l0.length < 140737488355328 then (some (y139 ++ l0)) else (none)) = some r := by first | (rw [hy139]; with_reducible exact H) | (have H2_ := (Option.bind_some _ _).symm.trans H; rw [hy139]; with_reducible exact H2_) | (have H2_ := (Option.bind_some _ _).symm.trans H; with_reducible exact H2_) | with_reducible exact H | (rw [hy139]; exact H) | exact H
      have Ny139 := Aside0.mk hy139
      clear hy139
      by_cases c9 : y139.length + l0.length < 140737488355328
      · rw [if_pos c9] at H
        have LMc9 := Aside0.mk c9
        clear c9
        obtain ⟨y142, hy142⟩ : ∃ y_ : List Int, y_ = (y139 ++ l0) := ⟨_, rfl⟩
        replace H : (some y142) = some r := by first | (rw [hy142]; with_reducible exact H) | (have H2_ := (Option.bind_some _ _).symm.trans H; rw [hy142]; with_reducible exact H2_) | (have H2_ := (Option.bind_some _ _).symm.trans H; with_reducible exact H2_) | with_reducible exact H | (rw [hy142]; exact H) | exact H
        have Ny142 := Aside0.mk hy142
        clear hy142
        obtain rfl := Option.some.inj H
        go_enter Tryd.func26, Tryd.ntmps26
        go_wp2_with (first | (go_at_call 52; (with_reducible refine (mailbagref17_ends.calls _ _ l0 (⟨#[13, 10]⟩ : ByteArray) true _ ?side1 ?side2 A7.out).mono ?_); (case side1 => repeat (first | exact HR0.out | (with_reducible refine Kd.C_alloc ?_ _) | (with_reducible refine Kd.C_drewN ?_ _) | (with_reducible refine Kd.C_drew ?_))); (case side2 => exact HC0.out); rintro e w' ⟨rfl, ⟨nd, rfl⟩⟩) | ((with_reducible refine gate_dst (N := 10) rfl ?_); refine Kd.R_lit (Kd.int .u8) _ 5 ?hg (N := 10) ?hd (xs := ([] : List Int)) (inner := []) (ok := fun _ => True) (okp := fun _ => True) ?hr ?hp (fun _ hk => hk) trivial (Below.refl _ _) (Nat.le_refl _) (by simp) ?_; (case hd => rfl); (case hg => rfl); (case hr => first | (go_simp; done) | (go_simp; rfl)); (case hp => exact (Reps.none _ _)); intro v140 w10 ho11 hb hg_ hnew_; clear hg_ hnew_; (first | rw [← Ny139.out] at ho11 | (simp only [Int.reduceToNat] at ho11; rw [← Ny139.out] at ho11)); have n0_ := Aside0.mk (Kd.R_lower ho11 (below_size (by repeat (first | (with_reducible first | exact HB.out | apply below_alloc | apply pw_below_drewN | apply below_drew1) | exact HB.out)))); have n1_ := Aside0.mk (below_step (by repeat (first | (with_reducible first | exact HB.out | apply below_alloc | apply pw_below_drewN | apply below_drew1) | exact HB.out)) hb); clear HB; have HO141 := n0_; have HB := n1_; clear n0_ n1_; clear hb ho11) | ((with_reducible refine gate_builtin (b := .append) (xs := #[.tmp 10, .tmp 11]) rfl ?_); at_builtin; refine Kd.R_append_rows (Kd.int .u8) (w0 := w) w.heap.size rfl (.tmp 10) (.tmp 11) 26 5 (.int .u8 0) 1 rfl Tryd.underlying26 info5 rfl (by decide) (by omega) v140 y139 l0 _ _ _ (fun _ => True) (fun _ => False) rfl rfl ?aO ?aR (fun _ _ h => h) (fun _ h => h.elim) ?aF ?aB ?aS ?aL ?_; (case aR => repeat (first | exact (Kd.C_below HR0.out HB.out) | (with_reducible refine Kd.C_alloc ?_ _) | (with_reducible refine Kd.C_drewN ?_ _) | (with_reducible refine Kd.C_drew ?_))); (case aB => exact (by repeat (first | (with_reducible first | exact HB.out | apply below_alloc | apply pw_below_drewN | apply below_drew1) | exact HB.out))); (case aF => exact (fun _ _ => trivial)); (case aO => exact (by (with_reducible repeat (first | apply Kd.R_alloc | apply Kd.R_drewN | apply Kd.R_drew)); exact HO141.out)); (case aS => exact (below_size (by repeat (first | (with_reducible first | exact HB.out | apply below_alloc | apply pw_below_drewN | apply below_drew1) | exact HB.out)))); (case aL => have := LMc9.out; omega); intro v143 w12 ho hb hg hat; rw [← Ny142.out] at ho; have n0_ := Aside0.mk (hb); have n1_ := Aside0.mk (ho); clear HB; clear HO141; have HB := n0_; have HO144 := n1_; clear n0_ n1_; clear ho hb hg hat))
        go_ret
        exact ⟨_, by first | rfl | (simp [errW_none, errW_some] <;> rfl) | (simp [*, errW_none, errW_some] <;> rfl), by (with_reducible repeat (first | apply Kd.R_alloc | apply Kd.R_drewN | apply Kd.R_drew)); exact HO144.out, by repeat (first | (with_reducible first | exact HB.out | apply below_alloc | apply pw_below_drewN | apply below_drew1) | exact HB.out)⟩
      · rw [if_neg c9] at H
        exact absurd H (by simp)
    · replace c8 := Bool.eq_false_iff.mpr c8
      subst c8
      have H1 : ((some (([] : List Int) : List Int)).bind fun y145 => (if y145.length + l0.length < 140737488355328 then ((some (y145 ++ l0 : List Int)).bind fun y148 => ((some (([13, 10] : List Int) : List Int)).bind fun y151 => (if y148.length + y151.length < 140737488355328 then (some (y148 ++ y151)) else (none)))) else (none))) = some r := by rw [if_neg (show ¬ (false = true) by decide)] at H; exact H
      clear H
      have H := H1
      clear H1
      obtain ⟨y145, hy145⟩ : ∃ y_ : List Int, y_ = (([] : List Int)) := ⟨_, rfl⟩
      replace H : (if y145.length + l0.length < 140737488355328 then ((some (y145 ++ l0 : List Int)).bind fun y148 => ((some (([13, 10] : List Int) : List Int)).bind fun y151 => (if y148.length + y151.length < 140737488355328 then (some (y148 ++ y151)) else (none)))) else (none)) = some r := by first | (rw [hy145]; with_reducible exact H) | (have H2_ := (Option.bind_some _ _).symm.trans H; rw [hy145]; with_reducible exact H2_) | (have H2_ := (Option.bind_some _ _).symm.trans H; with_reducible exact H2_) | with_reducible exact H | (rw [hy145]; exact H) | exact H
      have Ny145 := Aside0.mk hy145
      clear hy145
      by_cases c13 : y145.length + l0.length < 140737488355328
      · rw [if_pos c13] at H
        have LMc13 := Aside0.mk c13
        clear c13
        obtain ⟨y148, hy148⟩ : ∃ y_ : List Int, y_ = (y145 ++ l0) := ⟨_, rfl⟩
        replace H : ((some (([13, 10] : List Int) : List Int)).bind fun y151 => (if y148.length + y151.length < 140737488355328 then (some (y148 ++ y151)) else (none))) = some r := by first | (rw [hy148]; with_reducible exact H) | (have H2_ := (Option.bind_some _ _).symm.trans H; rw [hy148]; with_reducible exact H2_) | (have H2_ := (Option.bind_some _ _).symm.trans H; with_reducible exact H2_) | with_reducible exact H | (rw [hy148]; exact H) | exact H
        have Ny148 := Aside0.mk hy148
        clear hy148
        obtain ⟨y151, hy151⟩ : ∃ y_ : List Int, y_ = (([13, 10] : List Int)) := ⟨_, rfl⟩
        replace H : (if y148.length + y151.length < 140737488355328 then (some (y148 ++ y151)) else (none)) = some r := by first | (rw [hy151]; with_reducible exact H) | (have H2_ := (Option.bind_some _ _).symm.trans H; rw [hy151]; with_reducible exact H2_) | (have H2_ := (Option.bind_some _ _).symm.trans H; with_reducible exact H2_) | with_reducible exact H | (rw [hy151]; exact H) | exact H
        have Ny151 := Aside0.mk hy151
        clear hy151
        by_cases c14 : y148.length + y151.length < 140737488355328
        · rw [if_pos c14] at H
          have LMc14 := Aside0.mk c14
          clear c14
          obtain ⟨y154, hy154⟩ : ∃ y_ : List Int, y_ = (y148 ++ y151) := ⟨_, rfl⟩
          replace H : (some y154) = some r := by first | (rw [hy154]; with_reducible exact H) | (have H2_ := (Option.bind_some _ _).symm.trans H; rw [hy154]; with_reducible exact H2_) | (have H2_ := (Option.bind_some _ _).symm.trans H; with_reducible exact H2_) | with_reducible exact H | (rw [hy154]; exact H) | exact H
          have Ny154 := Aside0.mk hy154
          clear hy154
          obtain rfl := Option.some.inj H
          go_enter Tryd.func26, Tryd.ntmps26
          go_wp2_with (first | (go_at_call 52; (with_reducible refine (mailbagref17_ends.calls _ _ l0 (⟨#[13, 10]⟩ : ByteArray) false _ ?side1 ?side2 A7.out).mono ?_); (case side1 => repeat (first | exact HR0.out | (with_reducible refine Kd.C_alloc ?_ _) | (with_reducible refine Kd.C_drewN ?_ _) | (with_reducible refine Kd.C_drew ?_))); (case side2 => exact HC0.out); rintro e w' ⟨rfl, ⟨nd, rfl⟩⟩) | ((with_reducible refine gate_dst (N := 13) rfl ?_); refine Kd.R_lit (Kd.int .u8) _ 5 ?hg (N := 13) ?hd (xs := ([] : List Int)) (inner := []) (ok := fun _ => True) (okp := fun _ => True) ?hr ?hp (fun _ hk => hk) trivial (Below.refl _ _) (Nat.le_refl _) (by simp) ?_; (case hd => rfl); (case hg => rfl); (case hr => first | (go_simp; done) | (go_simp; rfl)); (case hp => exact (Reps.none _ _)); intro v146 w15 ho16 hb hg_ hnew_; clear hg_ hnew_; (first | rw [← Ny145.out] at ho16 | (simp only [Int.reduceToNat] at ho16; rw [← Ny145.out] at ho16)); have n0_ := Aside0.mk (Kd.R_lower ho16 (below_size (by repeat (first | (with_reducible first | exact HB.out | apply below_alloc | apply pw_below_drewN | apply below_drew1) | exact HB.out)))); have n1_ := Aside0.mk (below_step (by repeat (first | (with_reducible first | exact HB.out | apply below_alloc | apply pw_below_drewN | apply below_drew1) | exact HB.out)) hb); clear HB; have HO147 := n0_; have HB := n1_; clear n0_ n1_; clear hb ho16) | ((with_reducible refine gate_builtin (b := .append) (xs := #[.tmp 13, .tmp 14]) rfl ?_); at_builtin; refine Kd.R_append_rows (Kd.int .u8) (w0 := w) w.heap.size rfl (.tmp 13) (.tmp 14) 26 5 (.int .u8 0) 1 rfl Tryd.underlying26 info5 rfl (by decide) (by omega) v146 y145 l0 _ _ _ (fun _ => True) (fun _ => False) rfl rfl ?aO ?aR (fun _ _ h => h) (fun _ h => h.elim) ?aF ?aB ?aS ?aL ?_; (case aR => repeat (first | exact (Kd.C_below HR0.out HB.out) | (with_reducible refine Kd.C_alloc ?_ _) | (with_reducible refine Kd.C_drewN ?_ _) | (with_reducible refine Kd.C_drew ?_))); (case aB => exact (by repeat (first | (with_reducible first | exact HB.out | apply below_alloc | apply pw_below_drewN | apply below_drew1) | exact HB.out))); (case aF => exact (fun _ _ => trivial)); (case aO => exact (by (with_reducible repeat (first | apply Kd.R_alloc | apply Kd.R_drewN | apply Kd.R_drew)); exact HO147.out)); (case aS => exact (below_size (by repeat (first | (with_reducible first | exact HB.out | apply below_alloc | apply pw_below_drewN | apply below_drew1) | exact HB.out)))); (case aL => have := LMc13.out; omega); intro v149 w17 ho hb hg hat; rw [← Ny148.out] at ho; have n0_ := Aside0.mk (hb); have n1_ := Aside0.mk (ho); clear HB; clear HO147; have HB := n0_; have HO150 := n1_; clear n0_ n1_; clear ho hb hg hat) | ((with_reducible refine gate_dst (N := 16) rfl ?_); refine Kd.R_lit (Kd.int .u8) _ 5 ?hg (N := 16) ?hd (xs := ([13, 10] : List Int)) (inner := [.int .u8 13, .int .u8 10]) (ok := fun _ => True) (okp := fun _ => True) ?hr ?hp (fun _ hk => hk) trivial (Below.refl _ _) (Nat.le_refl _) (by simp) ?_; (case hd => rfl); (case hg => rfl); (case hr => first | (go_simp; done) | (go_simp; rfl)); (case hp => exact (Reps.one (show Kd.M (Kd.int .u8) _ _ _ 13 [.int .u8 13] from rfl) (Reps.one (show Kd.M (Kd.int .u8) _ _ _ 10 [.int .u8 10] from rfl) (Reps.none _ _)))); intro v152 w18 ho19 hb hg_ hnew_; clear hg_ hnew_; (first | rw [← Ny151.out] at ho19 | (simp only [Int.reduceToNat] at ho19; rw [← Ny151.out] at ho19)); have n0_ := Aside0.mk (Kd.R_elder' (by (with_reducible repeat (first | apply Kd.R_alloc | apply Kd.R_drewN | apply Kd.R_drew)); exact HO150.out) (Kd.R_base ho19) hb); have n1_ := Aside0.mk (Kd.R_lower (Kd.R_new' ho19 (Kd.R_lt (by (with_reducible repeat (first | apply Kd.R_alloc | apply Kd.R_drewN | apply Kd.R_drew)); exact HO150.out))) (below_size (by repeat (first | (with_reducible first | exact HB.out | apply below_alloc | apply pw_below_drewN | apply below_drew1) | exact HB.out)))); have n2_ := Aside0.mk (below_step (by repeat (first | (with_reducible first | exact HB.out | apply below_alloc | apply pw_below_drewN | apply below_drew1) | exact HB.out)) hb); clear HO150; clear HB; have HO150 := n0_; have HO153 := n1_; have HB := n2_; clear n0_ n1_ n2_; clear hb ho19; obtain ⟨Ao21, co21, eo21⟩ := Kd.R_slice HO153.out; subst eo21) | ((with_reducible refine gate_builtin (b := .append) (xs := #[.tmp 15, .tmp 16]) rfl ?_); at_builtin; refine Kd.R_append_rows (Kd.int .u8) (w0 := w) w.heap.size rfl (.tmp 15) (.tmp 16) 26 5 (.int .u8 0) 1 rfl Tryd.underlying26 info5 rfl (by decide) (by omega) v149 y148 y151 _ _ _ (fun k_ => some k_ ≠ (.slice Ao21 y151.length co21 : Value).ownBlock) (fun _ => False) rfl rfl ?aO ?aR (fun _ _ h => h) (fun _ h => h.elim) ?aF ?aB ?aS ?aL ?_; (case aR => repeat (first | exact (Kd.R_reads' HO153.out).2.2 | (with_reducible refine Kd.C_alloc ?_ _) | (with_reducible refine Kd.C_drewN ?_ _) | (with_reducible refine Kd.C_drew ?_))); (case aB => exact (by repeat (first | (with_reducible first | exact HB.out | apply below_alloc | apply pw_below_drewN | apply below_drew1) | exact HB.out))); (case aF => exact (fun k_ hk => Kd.fresh' (Kd.R_lt (by (with_reducible repeat (first | apply Kd.R_alloc | apply Kd.R_drewN | apply Kd.R_drew)); exact HO153.out)) k_ hk)); (case aO => exact (by (with_reducible repeat (first | apply Kd.R_alloc | apply Kd.R_drewN | apply Kd.R_drew)); exact Kd.R_mono HO150.out (fun _ hk => hk.2))); (case aS => exact (below_size (by repeat (first | (with_reducible first | exact HB.out | apply below_alloc | apply pw_below_drewN | apply below_drew1) | exact HB.out)))); (case aL => have := LMc14.out; omega); intro v155 w20 ho hb hg hat; rw [← Ny154.out] at ho; have n0_ := Aside0.mk (Kd.R_after (ok := (fun _ => True)) (by (with_reducible repeat (first | apply Kd.R_alloc | apply Kd.R_drewN | apply Kd.R_drew)); exact HO153.out) hg hat); have n1_ := Aside0.mk (hb); have n2_ := Aside0.mk (ho); clear HO153; clear HB; clear HO150; have HO153 := n0_; have HB := n1_; have HO156 := n2_; clear n0_ n1_ n2_; clear ho hb hg hat))
          go_ret
          exact ⟨_, by first | rfl | (simp [errW_none, errW_some] <;> rfl) | (simp [*, errW_none, errW_some] <;> rfl), by (with_reducible repeat (first | apply Kd.R_alloc | apply Kd.R_drewN | apply Kd.R_drew)); exact Kd.R_mono HO156.out (fun _ hk => trivial), by repeat (first | (with_reducible first | exact HB.out | apply below_alloc | apply pw_below_drewN | apply below_drew1) | exact HB.out)⟩
        · rw [if_neg c14] at H
          exact absurd H (by simp)
      · rw [if_neg c13] at H
        exact absurd H (by simp)

/-! ### mailbagref17_Lines: function 47 -/
def mailbagref17_Lines.l0 : Nat → List Int → List ByteArray → Int → Int → Option (List ByteArray)
  | 0, _, _, _, _ => none
  | k + 1, x3, x4, x5, x6 => if x6 < (x3.length : Int) then (if 0 ≤ x6 then (if (rd x3 x6) = 10 then (if 0 ≤ (wrap64 (x6 - 1)) then (if (wrap64 (x6 - 1)) < (x3.length : Int) then (if (rd x3 (wrap64 (x6 - 1))) = 13 then (if x6 > x5 then (if 0 ≤ x5 then (if x5 ≤ (wrap64 (x6 - 1)) then (if (wrap64 (x6 - 1)) ≤ (x3.length : Int) then (if x4.length < 8796093022208 then (mailbagref17_Lines.l0 k x3 (x4 ++ [strOfNums ((x3.take ((wrap64 (x6 - 1)) : Int).toNat).drop (x5 : Int).toNat)]) (wrap64 (x6 + 1)) (wrap64 (x6 + 1))) else (none)) else (none)) else (none)) else (none)) else (mailbagref17_Lines.l0 k x3 x4 x5 (wrap64 (x6 + 1)))) else (mailbagref17_Lines.l0 k x3 x4 x5 (wrap64 (x6 + 1)))) else (none)) else (none)) else (mailbagref17_Lines.l0 k x3 x4 x5 (wrap64 (x6 + 1)))) else (none)) else (some x4)
def mailbagref17_Lines.f (k : Nat) (l0 : List Int) : Option (List ByteArray) := (mailbagref17_Whole.f l0).bind fun t157 => (mailbagref17_Lines.l0 k t157 ([] : List ByteArray) 0 1)
theorem mailbagref17_Lines.mono_l : ∀ k, (∀ y0 y1 y2 y3, LeO (mailbagref17_Lines.l0 k y0 y1 y2 y3) (mailbagref17_Lines.l0 (k + 1) y0 y1 y2 y3))
  | 0 => fun _ _ _ _ r h => by simp [mailbagref17_Lines.l0] at h
  | k + 1 => by
    have ih0 := mailbagref17_Lines.mono_l k
    · intro y0 y1 y2 y3
      unfold mailbagref17_Lines.l0
      repeat' first
      | (with_reducible exact ih0 _ _ _ _)
      | (with_reducible exact LeO.refl _)
      | (with_reducible exact LeO.none _)
      | (with_reducible refine LeO.ite ?_ ?_)
      | (with_reducible refine LeO.bind ?_ (fun _ => ?_))
      | exact ih0 _ _ _ _
      | exact LeO.none _
      | refine LeO.ite ?_ ?_
      | refine LeO.bind ?_ (fun _ => ?_)
theorem mailbagref17_Lines.mono : ∀ a0 k, LeO (mailbagref17_Lines.f k a0) (mailbagref17_Lines.f (k + 1) a0) := by
  intro a0 k
  have ih0 := mailbagref17_Lines.mono_l k
  unfold mailbagref17_Lines.f
  repeat' first
      | (with_reducible exact ih0 _ _ _ _)
      | (with_reducible exact LeO.refl _)
      | (with_reducible exact LeO.none _)
      | (with_reducible refine LeO.ite ?_ ?_)
      | (with_reducible refine LeO.bind ?_ (fun _ => ?_))
      | exact ih0 _ _ _ _
      | exact LeO.none _
      | refine LeO.ite ?_ ?_
      | refine LeO.bind ?_ (fun _ => ?_)
set_option maxHeartbeats 8000000 in
set_option maxRecDepth 100000 in
theorem mailbagref17_Lines.calls (k : Nat) (A0 : Option Addr) (c0 : Nat) (l0 : List Int) (r : List ByteArray) (w : World) (hr0 : Kd.C (Kd.int .u8) w A0 l0.length l0) (hc0 : l0.length ≤ c0) (h : mailbagref17_Lines.f k l0 = some r) :
    Calls Tryd.prog 47 #[.slice A0 l0.length c0] w fun e w' => ∃ v0_ : Value, e = .returned (v0_) ∧ Kd.R Kd.string 9 w' w.heap.size (fun _ => True) v0_ r ∧ Below w.heap.size w w' := by
  have HR0 := Aside0.mk hr0
  have HC0 := Aside0.mk hc0
  clear hr0 hc0
  have HB := Aside0.mk (Below.refl w.heap.size w)
  have H : ((mailbagref17_Whole.f l0).bind fun t157 => (mailbagref17_Lines.l0 k t157 ([] : List ByteArray) 0 1)) = some r := h
  clear h
  replace H := Option.bind_eq_some_iff.mp H
  obtain ⟨t157, A20, H⟩ := H
  replace H : (mailbagref17_Lines.l0 k t157 ([] : List ByteArray) 0 1) = some r := H
  have A2 := Aside0.mk A20
  clear A20
  have H' := Aside0.mk H
  clear H
  go_enter Tryd.func47, Tryd.ntmps47
  go_wp2_with (first | ((with_reducible refine gate_callee (f := 26) rfl ?_); refine goesL_ (some 8) rfl rfl Tryd.func26 (by kernel_rfl) rfl #[.slice A0 l0.length c0] rfl (by (try simp only [List.map_toArray, List.map_cons, List.map_nil]); first | done | rfl | (simp only [List.length_drop, List.length_take]; rfl)) ?_; (with_reducible refine (mailbagref17_Whole.calls _ _ l0 t157 _ ?side1 ?side2 A2.out).mono ?_); (case side1 => repeat (first | exact HR0.out | (with_reducible refine Kd.C_alloc ?_ _) | (with_reducible refine Kd.C_drewN ?_ _) | (with_reducible refine Kd.C_drew ?_))); (case side2 => exact HC0.out); rintro e w3 ⟨v158, rfl, ho0, hb⟩; refine ⟨_, rfl, ?_⟩; have n0_ := Aside0.mk (Kd.R_lower ho0 (below_size (by repeat (first | (with_reducible first | exact HB.out | apply below_alloc | apply pw_below_drewN | apply below_drew1) | exact HB.out)))); have n1_ := Aside0.mk (below_step (by repeat (first | (with_reducible first | exact HB.out | apply below_alloc | apply pw_below_drewN | apply below_drew1) | exact HB.out)) hb); clear HB; have HO159 := n0_; have HB := n1_; clear n0_ n1_; (try clear hb); (try clear hb2); (try clear hk); (try clear hi); (try clear ho0)))
  go_loopg [4, 5, 6] k (fun kq v4 v5 v6 w' => ∃ (x4_1 : List ByteArray) (x5_1 : Int) (x6_1 : Int), v5 = .int .i64 x5_1 ∧ v6 = .int .i64 x6_1 ∧ Aside0 (mailbagref17_Lines.l0 kq t157 x4_1 x5_1 x6_1 = some r) ∧ Aside0 (kq ≤ k) ∧ Aside0 (Kd.R (Kd.int .u8) 5 w' w.heap.size (fun _ => True) v158 t157) ∧ Aside0 (Kd.R Kd.string 9 w' w.heap.size (fun _ => True) v4 x4_1) ∧ Aside0 (Below w.heap.size w w'))
  case atStart => exact ⟨(([] : List ByteArray)), (0), (1), (by first | rfl | (simp; done) | (simp [*]; done)), (by first | rfl | (simp; done) | (simp [*]; done)), H', ⟨Nat.le_refl _⟩, ⟨by (with_reducible repeat (first | apply Kd.R_alloc | apply Kd.R_drewN | apply Kd.R_drew)); exact HO159.out⟩, ⟨by first | exact Kd.R_nil _ _ _ _ _ | exact Kd.N_nil _ _ _ _ _ | exact Kd.V_nil _ _ _ _ _ | exact Kd.Q_nil _ _ _ _ _ | exact Kd.S_nil _ _ _ _ _⟩, ⟨by repeat (first | (with_reducible first | exact HB.out | apply below_alloc | apply pw_below_drewN | apply below_drew1) | exact HB.out)⟩⟩
  case round =>
    clear H'
    try clear c2
    try clear p2
    obtain ⟨x4_1, x5_1, x6_1, rfl, rfl, HA, HK1, HO_3, HO_4, HB⟩ := hrel
    cases gk with
    | zero => exact absurd HA.out (by simp [mailbagref17_Lines.l0])
    | succ k1 =>
      have H := HA.out
      clear HA
      simp only [mailbagref17_Lines.l0] at H
      by_cases c4 : x6_1 < (t157.length : Int)
      · rw [if_pos c4] at H
        have c4b0 : decide (x6_1 < (t157.length : Int)) = true := decide_eq_true c4
        clear c4
        by_cases c5 : 0 ≤ x6_1
        · rw [if_pos c5] at H
          have c5b0 : decide (0 ≤ x6_1) = true := decide_eq_true c5
          clear c5
          by_cases c6 : (rd t157 x6_1) = 10
          · rw [if_pos c6] at H
            have c6b0 : ((rd t157 x6_1) == 10) = true := beq_iff_eq.mpr c6
            have c6b1 : ((rd t157 x6_1) != 10) = false := bne_eq_false_iff_eq.mpr c6
            clear c6
            obtain ⟨ji7, hji7⟩ : ∃ j_ : Int, (wrap64 (x6_1 - 1)) = j_ := ⟨_, rfl⟩
            replace H : (if 0 ≤ (ji7) then (if (ji7) < (t157.length : Int) then (if (rd t157 (ji7)) = 13 then (if x6_1 > x5_1 then (if 0 ≤ x5_1 then (if x5_1 ≤ (ji7) then (if (ji7) ≤ (t157.length : Int) then (if x4_1.length < 8796093022208 then (mailbagref17_Lines.l0 k1 t157 (x4_1 ++ [strOfNums ((t157.take ((ji7) : Int).toNat).drop (x5_1 : Int).toNat)]) (wrap64 (x6_1 + 1)) (wrap64 (x6_1 + 1))) else (none)) else (none)) else (none)) else (none)) else (mailbagref17_Lines.l0 k1 t157 x4_1 x5_1 (wrap64 (x6_1 + 1)))) else (mailbagref17_Lines.l0 k1 t157 x4_1 x5_1 (wrap64 (x6_1 + 1)))) else (none)) else (none)) = some r := by first | (rw [hji7] at H; exact H) | (simp only [hji7] at H ⊢; exact H)
            have hji7w : (IntKind.i64.wrap (x6_1 - 1)) = ji7 := (i64_w _).trans hji7
            by_cases c8 : 0 ≤ (ji7)
            · rw [if_pos c8] at H
              have c8b0 : decide (0 ≤ (ji7)) = true := decide_eq_true c8
              clear c8
              by_cases c9 : (ji7) < (t157.length : Int)
              · rw [if_pos c9] at H
                have c9b0 : decide ((ji7) < (t157.length : Int)) = true := decide_eq_true c9
                clear c9
                by_cases c10 : (rd t157 (ji7)) = 13
                · rw [if_pos c10] at H
                  have c10b0 : ((rd t157 (ji7)) == 13) = true := beq_iff_eq.mpr c10
                  have c10b1 : ((rd t157 (ji7)) != 13) = false := bne_eq_false_iff_eq.mpr c10
                  clear c10
                  by_cases c11 : x6_1 > x5_1
                  · rw [if_pos c11] at H
                    have c11b0 : decide (x5_1 < x6_1) = true := decide_eq_true c11
                    clear c11
                    by_cases c12 : 0 ≤ x5_1
                    · rw [if_pos c12] at H
                      have c12b0 := eq_true c12
                      have c12b1 : decide (0 ≤ x5_1) = true := decide_eq_true c12
                      clear c12
                      by_cases c13 : x5_1 ≤ (ji7)
                      · rw [if_pos c13] at H
                        have c13b0 := eq_true c13
                        have c13b1 : decide (x5_1 ≤ (ji7)) = true := decide_eq_true c13
                        clear c13
                        by_cases c14 : (ji7) ≤ (t157.length : Int)
                        · rw [if_pos c14] at H
                          have c14b0 := eq_true c14
                          have c14b1 : decide ((ji7) ≤ (t157.length : Int)) = true := decide_eq_true c14
                          clear c14
                          obtain ⟨y162, hy162⟩ : ∃ y_ : List Int, y_ = ((t157.take ((ji7) : Int).toNat).drop (x5_1 : Int).toNat) := ⟨_, rfl⟩
                          replace H : (if x4_1.length < 8796093022208 then (mailbagref17_Lines.l0 k1 t157 (x4_1 ++ [strOfNums y162]) (wrap64 (x6_1 + 1)) (wrap64 (x6_1 + 1))) else (none)) = some r := by first | (rw [hy162]; with_reducible exact H) | (have H2_ := (Option.bind_some _ _).symm.trans H; rw [hy162]; with_reducible exact H2_) | (have H2_ := (Option.bind_some _ _).symm.trans H; with_reducible exact H2_) | with_reducible exact H | (rw [hy162]; exact H) | exact H
                          have Ny162 := Aside0.mk hy162
                          clear hy162
                          by_cases c15 : x4_1.length < 8796093022208
                          · rw [if_pos c15] at H
                            have LMc15 := Aside0.mk c15
                            clear c15
                            obtain ⟨y166, hy166⟩ : ∃ y_ : List ByteArray, y_ = (x4_1 ++ [strOfNums y162]) := ⟨_, rfl⟩
                            replace H : (mailbagref17_Lines.l0 k1 t157 y166 (wrap64 (x6_1 + 1)) (wrap64 (x6_1 + 1))) = some r := by first | (rw [hy166]; with_reducible exact H) | (have H2_ := (Option.bind_some _ _).symm.trans H; rw [hy166]; with_reducible exact H2_) | (have H2_ := (Option.bind_some _ _).symm.trans H; with_reducible exact H2_) | with_reducible exact H | (rw [hy166]; exact H) | exact H
                            have Ny166 := Aside0.mk hy166
                            clear hy166
                            have H' := Aside0.mk H
                            clear H
                            obtain ⟨Ao16, co16, eo16⟩ := Kd.R_slice HO_3.out
                            subst eo16
                            have p160 : 0 ≤ (x6_1 : Int) := of_decide_eq_true (by first | (with_reducible assumption) | assumption)
                            have q160 : x6_1 < (t157.length : Int) := of_decide_eq_true (by first | (with_reducible assumption) | assumption)
                            obtain ⟨ad160, e160, hx160_0⟩ := Kd.at_int (Kd.R_reads' HO_3.out).2.2 x6_1 p160 q160
                            cases e160
                            replace p160 := eq_true p160
                            replace q160 := eq_true q160
                            have p161 : 0 ≤ ((ji7) : Int) := of_decide_eq_true (by first | (with_reducible assumption) | assumption)
                            have q161 : (ji7) < (t157.length : Int) := of_decide_eq_true (by first | (with_reducible assumption) | assumption)
                            obtain ⟨ad161, e161, hx161_0⟩ := Kd.at_int (Kd.R_reads' HO_3.out).2.2 (ji7) p161 q161
                            obtain rfl : ad160 = ad161 := (by injection e161)
                            replace p161 := eq_true p161
                            replace q161 := eq_true q161
                            have q17 : ((ji7) : Int) ≤ ((t157.length : Int) : Int) := of_decide_eq_true (by first | (with_reducible assumption) | assumption)
                            obtain ⟨i017, hi017, _, hsz17, _⟩ := info_parts info5
                            have hroom17 : t157.length ≤ co16 := (Kd.R_reads' HO_3.out).2.1
                            have hC17 : Kd.C (Kd.int .u8) _ (some ad160) t157.length t157 := (Kd.R_reads' HO_3.out).2.2
                            have ql17 : (x5_1 : Int) ≤ ((ji7) : Int) := of_decide_eq_true (by first | (with_reducible assumption) | assumption)
                            have q017 : (0 : Int) ≤ (x5_1 : Int) := of_decide_eq_true (by first | (with_reducible assumption) | assumption)
                            have hcut17 := cut_mid (P := Tryd.prog) 26 5 .i64 .i64 Tryd.underlying26 hi017 1 hsz17 (some ad160) t157.length co16 x5_1 (ji7) q017 ql17 q17 hroom17
                            have hr17 := Kd.C_mid (lo := (x5_1 : Int).toNat) (hi := ((ji7) : Int).toNat) (c := co16) hC17 (by omega) (by omega) hroom17
                            obtain ⟨A17, hA17⟩ : ∃ A1, A1 = (if co16 = (x5_1 : Int).toNat then (some ad160) else ((some ad160) : Option Addr).map (·.add ((x5_1 : Int).toNat * 1))) := ⟨_, rfl⟩
                            obtain ⟨c17, hc17⟩ : ∃ c1, c1 = co16 - (x5_1 : Int).toNat := ⟨_, rfl⟩
                            have hy17 : y162.length = ((ji7) : Int).toNat - (x5_1 : Int).toNat := (by rw [Ny162.out, List.length_drop, List.length_take] <;> omega)
                            rw [show ((t157).take ((ji7) : Int).toNat).drop (x5_1 : Int).toNat = y162 from Ny162.out.symm] at hr17
                            replace hr17 : Kd.C (Kd.int .u8) _ A17 y162.length y162 := (by rw [hA17]; exact hr17)
                            rw [← hy17, ← hA17, ← hc17] at hcut17
                            have HR165 := Aside0.mk hr17
                            have HC165 := Aside0.mk (show y162.length ≤ c17 from by rw [hy17, hc17]; exact Nat.sub_le_sub_right (Nat.le_trans (by omega) hroom17) _)
                            clear hr17 hC17 hroom17 hi017 hsz17 hc17
                            have KY17 := Aside0.mk hy17
                            have KA17 := Aside0.mk hA17
                            clear hy17 hA17
                            have KL17 := Aside0.mk (show ((ji7) : Int).toNat ≤ t157.length from by omega)
                            have KM17 := Aside0.mk (show (x5_1 : Int).toNat ≤ ((ji7) : Int).toNat from by omega)
                            replace q17 := eq_true q17
                            have hcv18 := Kd.C_string (P := Tryd.prog) (A := A17) (c := c17) Tryd.underlying26 Tryd.underlying5 Tryd.underlying9 (by repeat (first | (with_reducible exact HR165.out) | (with_reducible refine Kd.C_alloc ?_ _) | (with_reducible refine Kd.C_drewN ?_ _) | (with_reducible refine Kd.C_drew ?_) | exact HR165.out))
                            go_wp2_with (first | ((with_reducible refine gate_builtin (b := .append) (xs := #[.tmp 33, .tmp 40]) rfl ?_); at_builtin; refine Kd.R_append Kd.string (w0 := w) w.heap.size rfl (.tmp 33) (.tmp 40) 58 9 (.string ⟨#[]⟩) 16 rfl Tryd.underlying58 info9 rfl (by decide) (by omega) u4 x4_1 (strOfNums y162) [.string (strOfNums y162)] (fun _ => True) (fun _ => False) rfl rfl ?aP (fun _ hk => hk.elim) ?aF ?aO ?aB ?aS ?aL ?_; (case aP => exact rfl); (case aB => exact (by repeat (first | (with_reducible first | exact HB.out | apply below_alloc | apply pw_below_drewN | apply below_drew1) | exact HB.out))); (case aF => exact (fun _ _ => trivial)); (case aO => exact (by (with_reducible repeat (first | apply Kd.R_alloc | apply Kd.R_drewN | apply Kd.R_drew)); exact HO_4.out)); (case aS => exact (below_size (by repeat (first | (with_reducible first | exact HB.out | apply below_alloc | apply pw_below_drewN | apply below_drew1) | exact HB.out)))); (case aL => have := LMc15.out; omega); intro v167 w19 ho hb hg hat; rw [← Ny166.out] at ho; have n0_ := Aside0.mk (Kd.R_over' (by (with_reducible repeat (first | apply Kd.R_alloc | apply Kd.R_drewN | apply Kd.R_drew)); exact HO_3.out) (Kd.R_typed (by (with_reducible repeat (first | apply Kd.R_alloc | apply Kd.R_drewN | apply Kd.R_drew)); exact HO_4.out)) (by decide) hg); have n1_ := Aside0.mk (hb); have n2_ := Aside0.mk ((show Kd.C (Kd.int .u8) w19 A17 y162.length y162 from by rw [Ny162.out, KA17.out]; exact Kd.C_mid (lo := (x5_1 : Int).toNat) (hi := ((ji7) : Int).toNat) (c := co16) ((Kd.R_reads' (Kd.R_over' (by (with_reducible repeat (first | apply Kd.R_alloc | apply Kd.R_drewN | apply Kd.R_drew)); exact HO_3.out) (Kd.R_typed (by (with_reducible repeat (first | apply Kd.R_alloc | apply Kd.R_drewN | apply Kd.R_drew)); exact HO_4.out)) (by decide) hg)).2.2) KM17.out KL17.out ((Kd.R_reads' (Kd.R_over' (by (with_reducible repeat (first | apply Kd.R_alloc | apply Kd.R_drewN | apply Kd.R_drew)); exact HO_3.out) (Kd.R_typed (by (with_reducible repeat (first | apply Kd.R_alloc | apply Kd.R_drewN | apply Kd.R_drew)); exact HO_4.out)) (by decide) hg)).2.1))); have n3_ := Aside0.mk (ho); clear HO_3; clear HB; clear HR165; clear HO_4; have HO_3 := n0_; have HB := n1_; have HR165 := n2_; have HO168 := n3_; clear n0_ n1_ n2_ n3_; clear ho hb hg hat))
                            go_roundg k1
                            case measure => have := HK1.out; omega
                            case rel => exact ⟨(y166), (wrap64 (x6_1 + 1)), (wrap64 (x6_1 + 1)), (by first | rfl | (simp; done) | (simp [*]; done)), (by first | rfl | (simp; done) | (simp [*]; done)), H', ⟨by have := HK1.out; omega⟩, ⟨by (with_reducible repeat (first | apply Kd.R_alloc | apply Kd.R_drewN | apply Kd.R_drew)); exact HO_3.out⟩, ⟨by (with_reducible repeat (first | apply Kd.R_alloc | apply Kd.R_drewN | apply Kd.R_drew)); exact HO168.out⟩, ⟨by repeat (first | (with_reducible first | exact HB.out | apply below_alloc | apply pw_below_drewN | apply below_drew1) | exact HB.out)⟩⟩
                          · rw [if_neg c15] at H
                            exact absurd H (by simp)
                        · rw [if_neg c14] at H
                          exact absurd H (by simp)
                      · rw [if_neg c13] at H
                        exact absurd H (by simp)
                    · rw [if_neg c12] at H
                      exact absurd H (by simp)
                  · rw [if_neg c11] at H
                    have c11b0 : decide (x5_1 < x6_1) = false := decide_eq_false c11
                    clear c11
                    have H' := Aside0.mk H
                    clear H
                    obtain ⟨Ao20, co20, eo20⟩ := Kd.R_slice HO_3.out
                    subst eo20
                    have p160 : 0 ≤ (x6_1 : Int) := of_decide_eq_true (by first | (with_reducible assumption) | assumption)
                    have q160 : x6_1 < (t157.length : Int) := of_decide_eq_true (by first | (with_reducible assumption) | assumption)
                    obtain ⟨ad160, e160, hx160_0⟩ := Kd.at_int (Kd.R_reads' HO_3.out).2.2 x6_1 p160 q160
                    cases e160
                    replace p160 := eq_true p160
                    replace q160 := eq_true q160
                    have p161 : 0 ≤ ((ji7) : Int) := of_decide_eq_true (by first | (with_reducible assumption) | assumption)
                    have q161 : (ji7) < (t157.length : Int) := of_decide_eq_true (by first | (with_reducible assumption) | assumption)
                    obtain ⟨ad161, e161, hx161_0⟩ := Kd.at_int (Kd.R_reads' HO_3.out).2.2 (ji7) p161 q161
                    obtain rfl : ad160 = ad161 := (by injection e161)
                    replace p161 := eq_true p161
                    replace q161 := eq_true q161
                    go_wp2
                    go_roundg k1
                    case measure => have := HK1.out; omega
                    case rel => exact ⟨(x4_1), (x5_1), (wrap64 (x6_1 + 1)), (by first | rfl | (simp; done) | (simp [*]; done)), (by first | rfl | (simp; done) | (simp [*]; done)), H', ⟨by have := HK1.out; omega⟩, ⟨by (with_reducible repeat (first | apply Kd.R_alloc | apply Kd.R_drewN | apply Kd.R_drew)); exact HO_3.out⟩, ⟨by (with_reducible repeat (first | apply Kd.R_alloc | apply Kd.R_drewN | apply Kd.R_drew)); exact HO_4.out⟩, ⟨by repeat (first | (with_reducible first | exact HB.out | apply below_alloc | apply pw_below_drewN | apply below_drew1) | exact HB.out)⟩⟩
                · rw [if_neg c10] at H
                  have c10b0 : ((rd t157 (ji7)) == 13) = false := beq_eq_false_iff_ne.mpr c10
                  have c10b1 : ((rd t157 (ji7)) != 13) = true := bne_iff_ne.mpr c10
                  have H' := Aside0.mk H
                  clear H
                  obtain ⟨Ao21, co21, eo21⟩ := Kd.R_slice HO_3.out
                  subst eo21
                  have p160 : 0 ≤ (x6_1 : Int) := of_decide_eq_true (by first | (with_reducible assumption) | assumption)
                  have q160 : x6_1 < (t157.length : Int) := of_decide_eq_true (by first | (with_reducible assumption) | assumption)
                  obtain ⟨ad160, e160, hx160_0⟩ := Kd.at_int (Kd.R_reads' HO_3.out).2.2 x6_1 p160 q160
                  cases e160
                  replace p160 := eq_true p160
                  replace q160 := eq_true q160
                  have p161 : 0 ≤ ((ji7) : Int) := of_decide_eq_true (by first | (with_reducible assumption) | assumption)
                  have q161 : (ji7) < (t157.length : Int) := of_decide_eq_true (by first | (with_reducible assumption) | assumption)
                  obtain ⟨ad161, e161, hx161_0⟩ := Kd.at_int (Kd.R_reads' HO_3.out).2.2 (ji7) p161 q161
                  obtain rfl : ad160 = ad161 := (by injection e161)
                  replace p161 := eq_true p161
                  replace q161 := eq_true q161
                  go_wp2
                  go_roundg k1
                  case measure => have := HK1.out; omega
                  case rel => exact ⟨(x4_1), (x5_1), (wrap64 (x6_1 + 1)), (by first | rfl | (simp; done) | (simp [*]; done)), (by first | rfl | (simp; done) | (simp [*]; done)), H', ⟨by have := HK1.out; omega⟩, ⟨by (with_reducible repeat (first | apply Kd.R_alloc | apply Kd.R_drewN | apply Kd.R_drew)); exact HO_3.out⟩, ⟨by (with_reducible repeat (first | apply Kd.R_alloc | apply Kd.R_drewN | apply Kd.R_drew)); exact HO_4.out⟩, ⟨by repeat (first | (with_reducible first | exact HB.out | apply below_alloc | apply pw_below_drewN | apply below_drew1) | exact HB.out)⟩⟩
              · rw [if_neg c9] at H
                exact absurd H (by simp)
            · rw [if_neg c8] at H
              exact absurd H (by simp)
          · rw [if_neg c6] at H
            have c6b0 : ((rd t157 x6_1) == 10) = false := beq_eq_false_iff_ne.mpr c6
            have c6b1 : ((rd t157 x6_1) != 10) = true := bne_iff_ne.mpr c6
            have H' := Aside0.mk H
            clear H
            obtain ⟨Ao22, co22, eo22⟩ := Kd.R_slice HO_3.out
            subst eo22
            have p160 : 0 ≤ (x6_1 : Int) := of_decide_eq_true (by first | (with_reducible assumption) | assumption)
            have q160 : x6_1 < (t157.length : Int) := of_decide_eq_true (by first | (with_reducible assumption) | assumption)
            obtain ⟨ad160, e160, hx160_0⟩ := Kd.at_int (Kd.R_reads' HO_3.out).2.2 x6_1 p160 q160
            cases e160
            replace p160 := eq_true p160
            replace q160 := eq_true q160
            go_wp2
            go_roundg k1
            case measure => have := HK1.out; omega
            case rel => exact ⟨(x4_1), (x5_1), (wrap64 (x6_1 + 1)), (by first | rfl | (simp; done) | (simp [*]; done)), (by first | rfl | (simp; done) | (simp [*]; done)), H', ⟨by have := HK1.out; omega⟩, ⟨by (with_reducible repeat (first | apply Kd.R_alloc | apply Kd.R_drewN | apply Kd.R_drew)); exact HO_3.out⟩, ⟨by (with_reducible repeat (first | apply Kd.R_alloc | apply Kd.R_drewN | apply Kd.R_drew)); exact HO_4.out⟩, ⟨by repeat (first | (with_reducible first | exact HB.out | apply below_alloc | apply pw_below_drewN | apply below_drew1) | exact HB.out)⟩⟩
        · rw [if_neg c5] at H
          exact absurd H (by simp)
      · rw [if_neg c4] at H
        have c4b0 : decide (x6_1 < (t157.length : Int)) = false := decide_eq_false c4
        clear c4
        obtain rfl := Option.some.inj H
        obtain ⟨Ao23, co23, eo23⟩ := Kd.R_slice HO_3.out
        subst eo23
        go_wp2
        go_ret
        exact ⟨_, by first | rfl | (simp [errW_none, errW_some] <;> rfl) | (simp [*, errW_none, errW_some] <;> rfl), by (with_reducible repeat (first | apply Kd.R_alloc | apply Kd.R_drewN | apply Kd.R_drew)); exact HO_4.out, by repeat (first | (with_reducible first | exact HB.out | apply below_alloc | apply pw_below_drewN | apply below_drew1) | exact HB.out)⟩

/-! ### mailbagref18_Name: function 21 -/
mutual
def mailbagref18_Name.j0 : Nat → ByteArray → Bool → Option (Bool)
  | 0, _, _ => none
  | k + 1, x0, x10 => if x10 = true then (some false) else (mailbagref18_Name.l0 k x0 0)
def mailbagref18_Name.l0 : Nat → ByteArray → Int → Option (Bool)
  | 0, _, _ => none
  | k + 1, x0, x3 => if x3 < (x0.size : Int) then (if 0 ≤ x3 then (if (bt x0 x3) < 33 then (some false) else (if (bt x0 x3) > 126 then (some false) else (if (bt x0 x3) = 58 then (some false) else (mailbagref18_Name.l0 k x0 (wrap64 (x3 + 1)))))) else (none)) else (some true)
end
def mailbagref18_Name.f (k : Nat) (a0 : ByteArray) : Option (Bool) := if a0.toList = ([] : List UInt8) then (mailbagref18_Name.j0 k a0 true) else (mailbagref18_Name.j0 k a0 (decide ((a0.size : Int) > 76)))
theorem mailbagref18_Name.mono_l : ∀ k, (∀ y0 y1, LeO (mailbagref18_Name.j0 k y0 y1) (mailbagref18_Name.j0 (k + 1) y0 y1)) ∧ (∀ y0 y1, LeO (mailbagref18_Name.l0 k y0 y1) (mailbagref18_Name.l0 (k + 1) y0 y1))
  | 0 => ⟨fun _ _ r h => by simp [mailbagref18_Name.j0] at h, fun _ _ r h => by simp [mailbagref18_Name.l0] at h⟩
  | k + 1 => by
    obtain ⟨ih0, ih1⟩ := mailbagref18_Name.mono_l k
    refine ⟨?_, ?_⟩
    · intro y0 y1
      unfold mailbagref18_Name.j0
      repeat' first
      | (with_reducible exact ih0 _ _)
      | (with_reducible exact ih1 _ _)
      | (with_reducible exact LeO.refl _)
      | (with_reducible exact LeO.none _)
      | (with_reducible refine LeO.ite ?_ ?_)
      | (with_reducible refine LeO.bind ?_ (fun _ => ?_))
      | exact ih0 _ _
      | exact ih1 _ _
      | exact LeO.none _
      | refine LeO.ite ?_ ?_
      | refine LeO.bind ?_ (fun _ => ?_)
    · intro y0 y1
      unfold mailbagref18_Name.l0
      repeat' first
      | (with_reducible exact ih0 _ _)
      | (with_reducible exact ih1 _ _)
      | (with_reducible exact LeO.refl _)
      | (with_reducible exact LeO.none _)
      | (with_reducible refine LeO.ite ?_ ?_)
      | (with_reducible refine LeO.bind ?_ (fun _ => ?_))
      | exact ih0 _ _
      | exact ih1 _ _
      | exact LeO.none _
      | refine LeO.ite ?_ ?_
      | refine LeO.bind ?_ (fun _ => ?_)
theorem mailbagref18_Name.mono : ∀ a0 k, LeO (mailbagref18_Name.f k a0) (mailbagref18_Name.f (k + 1) a0) := by
  intro a0 k
  obtain ⟨ih0, ih1⟩ := mailbagref18_Name.mono_l k
  unfold mailbagref18_Name.f
  repeat' first
      | (with_reducible exact ih0 _ _)
      | (with_reducible exact ih1 _ _)
      | (with_reducible exact LeO.refl _)
      | (with_reducible exact LeO.none _)
      | (with_reducible refine LeO.ite ?_ ?_)
      | (with_reducible refine LeO.bind ?_ (fun _ => ?_))
      | exact ih0 _ _
      | exact ih1 _ _
      | exact LeO.none _
      | refine LeO.ite ?_ ?_
      | refine LeO.bind ?_ (fun _ => ?_)
set_option maxHeartbeats 8000000 in
set_option maxRecDepth 100000 in
theorem mailbagref18_Name.calls (k : Nat) (a0 : ByteArray) (r : Bool) (w : World) (h : mailbagref18_Name.f k a0 = some r) :
    Calls Tryd.prog 21 #[.string a0] w fun e w' => e = .returned (.bool r) ∧ Drawn0 w w' := by
  have H : (if a0.toList = ([] : List UInt8) then (mailbagref18_Name.j0 k a0 true) else (mailbagref18_Name.j0 k a0 (decide ((a0.size : Int) > 76)))) = some r := h
  clear h
  have HC2 := Aside0.mk H
  clear H
  go_enter Tryd.func21, Tryd.ntmps21
  go_upto_region 1 with (fail)
  go_cut [10] (fun v10 wc => ∃ (kq : Nat) (x10_1 : Bool), v10 = .bool x10_1 ∧ Aside0 (mailbagref18_Name.j0 kq a0 x10_1 = some r) ∧ Aside0 (kq ≤ k) ∧ Drawn0 w wc)
  case first =>
    have H := HC2.out
    clear HC2
    by_cases c3 : a0.toList = ([] : List UInt8)
    · rw [if_pos c3] at H
      have c3b0 : (a0.toList == ([] : List UInt8)) = true := beq_iff_eq.mpr c3
      have c3b1 : (a0.toList != ([] : List UInt8)) = false := bne_eq_false_iff_eq.mpr c3
      clear c3
      (first | rw [c3b0] | (simp only [i64_w, i32_w]; rw [c3b0]) | skip)
      have H' := Aside0.mk H
      clear H
      go_wp2
      go_meet
      case rel => exact ⟨_, (true), (by first | rfl | (simp; done) | (simp [*]; done)), H', ⟨by first | omega | exact Nat.le_refl _⟩, by repeat (first | exact Drawn0.refl _ | apply Drawn0.step)⟩
    · rw [if_neg c3] at H
      have c3b0 : (a0.toList == ([] : List UInt8)) = false := beq_eq_false_iff_ne.mpr c3
      have c3b1 : (a0.toList != ([] : List UInt8)) = true := bne_iff_ne.mpr c3
      (first | rw [c3b0] | (simp only [i64_w, i32_w]; rw [c3b0]) | skip)
      have H' := Aside0.mk H
      clear H
      go_wp2
      go_meet
      case rel => exact ⟨_, (decide ((a0.size : Int) > 76)), (by first | rfl | (simp; done) | (simp [*]; done)), H', ⟨by first | omega | exact Nat.le_refl _⟩, by repeat (first | exact Drawn0.refl _ | apply Drawn0.step)⟩
  case rest =>
    clear HC2
    try clear c2
    try clear p2
    try clear c3
    try clear c3b0
    try clear c3b1
    obtain ⟨kq, x10_1, rfl, HA, HJ1, ⟨mc1, rfl⟩⟩ := hcut
    cases kq with
    | zero => exact absurd HA.out (by simp [mailbagref18_Name.j0])
    | succ kj1 =>
      have H := HA.out
      clear HA
      simp only [mailbagref18_Name.j0] at H
      by_cases c4 : x10_1 = true
      · subst c4
        have H1 : (some false) = some r := by rw [if_pos rfl] at H; exact H
        clear H
        have H := H1
        clear H1
        obtain rfl := Option.some.inj H
        go_wp2
        go_ret
        exact ⟨by first | rfl | (simp; done) | (simp [*]; done), by repeat (first | exact Drawn0.refl _ | apply Drawn0.step)⟩
      · replace c4 := Bool.eq_false_iff.mpr c4
        subst c4
        have H1 : (mailbagref18_Name.l0 kj1 a0 0) = some r := by rw [if_neg (show ¬ (false = true) by decide)] at H; exact H
        clear H
        have H := H1
        clear H1
        have H' := Aside0.mk H
        clear H
        go_wp2
        go_loopg [3] kj1 (fun kq v3 w' => ∃ (x3_2 : Int), v3 = .int .i64 x3_2 ∧ Aside0 (mailbagref18_Name.l0 kq a0 x3_2 = some r) ∧ Aside0 (kq ≤ kj1) ∧ Drawn0 w w')
        case atStart => exact ⟨(0), (by first | rfl | (simp; done) | (simp [*]; done)), H', ⟨Nat.le_refl _⟩, by repeat (first | exact Drawn0.refl _ | apply Drawn0.step)⟩
        case round =>
          clear H'
          try clear c1
          try clear c2
          try clear p2
          try clear c3
          try clear c3b0
          try clear c3b1
          try clear c4
          try clear p2
          obtain ⟨x3_2, rfl, HA, HK2, ⟨m2, rfl⟩⟩ := hrel
          cases gk with
          | zero => exact absurd HA.out (by simp [mailbagref18_Name.l0])
          | succ k2 =>
            have H := HA.out
            clear HA
            simp only [mailbagref18_Name.l0] at H
            by_cases c5 : x3_2 < (a0.size : Int)
            · rw [if_pos c5] at H
              have c5b0 : decide (x3_2 < (a0.size : Int)) = true := decide_eq_true c5
              clear c5
              by_cases c6 : 0 ≤ x3_2
              · rw [if_pos c6] at H
                have c6b0 : decide (0 ≤ x3_2) = true := decide_eq_true c6
                clear c6
                by_cases c8 : (bt a0 x3_2) < 33
                · rw [if_pos c8] at H
                  have c8b0 : decide ((bt a0 x3_2) < 33) = true := decide_eq_true c8
                  clear c8
                  obtain rfl := Option.some.inj H
                  have p7 : 0 ≤ (x3_2 : Int) := of_decide_eq_true (by first | (with_reducible assumption) | assumption)
                  have q7 : x3_2 < (a0.size : Int) := of_decide_eq_true (by first | (with_reducible assumption) | assumption)
                  have hx7 := bt_at a0 x3_2
                  replace p7 := eq_true p7
                  replace q7 := eq_true q7
                  go_wp2
                  go_ret
                  exact ⟨by first | rfl | (simp; done) | (simp [*]; done), by repeat (first | exact Drawn0.refl _ | apply Drawn0.step)⟩
                · rw [if_neg c8] at H
                  have c8b0 : decide ((bt a0 x3_2) < 33) = false := decide_eq_false c8
                  clear c8
                  by_cases c10 : (bt a0 x3_2) > 126
                  · rw [if_pos c10] at H
                    have c10b0 : decide (126 < (bt a0 x3_2)) = true := decide_eq_true c10
                    clear c10
                    obtain rfl := Option.some.inj H
                    have p7 : 0 ≤ (x3_2 : Int) := of_decide_eq_true (by first | (with_reducible assumption) | assumption)
                    have q7 : x3_2 < (a0.size : Int) := of_decide_eq_true (by first | (with_reducible assumption) | assumption)
                    have hx7 := bt_at a0 x3_2
                    replace p7 := eq_true p7
                    replace q7 := eq_true q7
                    have p9 : 0 ≤ (x3_2 : Int) := of_decide_eq_true (by first | (with_reducible assumption) | assumption)
                    have q9 : x3_2 < (a0.size : Int) := of_decide_eq_true (by first | (with_reducible assumption) | assumption)
                    have hx9 := bt_at a0 x3_2
                    replace p9 := eq_true p9
                    replace q9 := eq_true q9
                    go_wp2
                    go_ret
                    exact ⟨by first | rfl | (simp; done) | (simp [*]; done), by repeat (first | exact Drawn0.refl _ | apply Drawn0.step)⟩
                  · rw [if_neg c10] at H
                    have c10b0 : decide (126 < (bt a0 x3_2)) = false := decide_eq_false c10
                    clear c10
                    by_cases c12 : (bt a0 x3_2) = 58
                    · rw [if_pos c12] at H
                      have c12b0 : ((bt a0 x3_2) == 58) = true := beq_iff_eq.mpr c12
                      have c12b1 : ((bt a0 x3_2) != 58) = false := bne_eq_false_iff_eq.mpr c12
                      clear c12
                      obtain rfl := Option.some.inj H
                      have p7 : 0 ≤ (x3_2 : Int) := of_decide_eq_true (by first | (with_reducible assumption) | assumption)
                      have q7 : x3_2 < (a0.size : Int) := of_decide_eq_true (by first | (with_reducible assumption) | assumption)
                      have hx7 := bt_at a0 x3_2
                      replace p7 := eq_true p7
                      replace q7 := eq_true q7
                      have p9 : 0 ≤ (x3_2 : Int) := of_decide_eq_true (by first | (with_reducible assumption) | assumption)
                      have q9 : x3_2 < (a0.size : Int) := of_decide_eq_true (by first | (with_reducible assumption) | assumption)
                      have hx9 := bt_at a0 x3_2
                      replace p9 := eq_true p9
                      replace q9 := eq_true q9
                      have p11 : 0 ≤ (x3_2 : Int) := of_decide_eq_true (by first | (with_reducible assumption) | assumption)
                      have q11 : x3_2 < (a0.size : Int) := of_decide_eq_true (by first | (with_reducible assumption) | assumption)
                      have hx11 := bt_at a0 x3_2
                      replace p11 := eq_true p11
                      replace q11 := eq_true q11
                      go_wp2
                      go_ret
                      exact ⟨by first | rfl | (simp; done) | (simp [*]; done), by repeat (first | exact Drawn0.refl _ | apply Drawn0.step)⟩
                    · rw [if_neg c12] at H
                      have c12b0 : ((bt a0 x3_2) == 58) = false := beq_eq_false_iff_ne.mpr c12
                      have c12b1 : ((bt a0 x3_2) != 58) = true := bne_iff_ne.mpr c12
                      have H' := Aside0.mk H
                      clear H
                      have p7 : 0 ≤ (x3_2 : Int) := of_decide_eq_true (by first | (with_reducible assumption) | assumption)
                      have q7 : x3_2 < (a0.size : Int) := of_decide_eq_true (by first | (with_reducible assumption) | assumption)
                      have hx7 := bt_at a0 x3_2
                      replace p7 := eq_true p7
                      replace q7 := eq_true q7
                      have p9 : 0 ≤ (x3_2 : Int) := of_decide_eq_true (by first | (with_reducible assumption) | assumption)
                      have q9 : x3_2 < (a0.size : Int) := of_decide_eq_true (by first | (with_reducible assumption) | assumption)
                      have hx9 := bt_at a0 x3_2
                      replace p9 := eq_true p9
                      replace q9 := eq_true q9
                      have p11 : 0 ≤ (x3_2 : Int) := of_decide_eq_true (by first | (with_reducible assumption) | assumption)
                      have q11 : x3_2 < (a0.size : Int) := of_decide_eq_true (by first | (with_reducible assumption) | assumption)
                      have hx11 := bt_at a0 x3_2
                      replace p11 := eq_true p11
                      replace q11 := eq_true q11
                      go_wp2
                      go_roundg k2
                      case measure => have := HJ1.out; have := HK2.out; omega
                      case rel => exact ⟨(wrap64 (x3_2 + 1)), (by first | rfl | (simp; done) | (simp [*]; done)), H', ⟨by have := HJ1.out; have := HK2.out; omega⟩, by repeat (first | exact Drawn0.refl _ | apply Drawn0.step)⟩
              · rw [if_neg c6] at H
                exact absurd H (by simp)
            · rw [if_neg c5] at H
              have c5b0 : decide (x3_2 < (a0.size : Int)) = false := decide_eq_false c5
              clear c5
              obtain rfl := Option.some.inj H
              go_wp2
              go_ret
              exact ⟨by first | rfl | (simp; done) | (simp [*]; done), by repeat (first | exact Drawn0.refl _ | apply Drawn0.step)⟩

end Go.Proofs.YtfpcngoonfbphaaDoor.XH

/- Contracts of Go functions: for each function a Lean function with its answers, and the proof that the Go code comes to these. Written by wip/px.py of this session, upon the kit's printer. -/
namespace Go.Proofs.YtfpcngoonfbphaaDoor.XH
open Go.RowKit Go.Proofs.YtfpcngoonfbphaaDoorW.PrintWords Go.Proofs.YtfpcngoonfbphaaDoorW.PrintLast Go.Proofs.YtfpcngoonfbphaaDoorW.PrintMore
attribute [local go_sem] max2_int min2_int max_two min_two max_three min_three max_four min_four   -- for this text's walks alone
set_option linter.unusedVariables false
set_option linter.unusedSimpArgs false

/-! ### mailbagref18_field: function 48 -/
def mailbagref18_field.l0 : Nat → ByteArray → Int → Option (ByteArray × ByteArray × Bool)
  | 0, _, _ => none
  | k + 1, x0, x4 => if x4 < (x0.size : Int) then (if 0 ≤ x4 then (if (bt x0 x4) = 58 then (if x4 = (x0.size : Int) then (some ((⟨#[]⟩ : ByteArray), (⟨#[]⟩ : ByteArray), false)) else (if x4 ≤ (x0.size : Int) then ((mailbagref18_Name.f k (x0.extract 0 (x4 : Int).toNat)).bind fun t170 => (if t170 = true then (if 0 ≤ (wrap64 (x4 + 1)) then (if (wrap64 (x4 + 1)) ≤ (x0.size : Int) then (some (x0.extract 0 (x4 : Int).toNat, x0.extract ((wrap64 (x4 + 1)) : Int).toNat x0.size, true)) else (none)) else (none)) else (some ((⟨#[]⟩ : ByteArray), (⟨#[]⟩ : ByteArray), false)))) else (none))) else (mailbagref18_field.l0 k x0 (wrap64 (x4 + 1)))) else (none)) else (if x4 = (x0.size : Int) then (some ((⟨#[]⟩ : ByteArray), (⟨#[]⟩ : ByteArray), false)) else (if 0 ≤ x4 then (if x4 ≤ (x0.size : Int) then ((mailbagref18_Name.f k (x0.extract 0 (x4 : Int).toNat)).bind fun t171 => (if t171 = true then (if 0 ≤ (wrap64 (x4 + 1)) then (if (wrap64 (x4 + 1)) ≤ (x0.size : Int) then (some (x0.extract 0 (x4 : Int).toNat, x0.extract ((wrap64 (x4 + 1)) : Int).toNat x0.size, true)) else (none)) else (none)) else (some ((⟨#[]⟩ : ByteArray), (⟨#[]⟩ : ByteArray), false)))) else (none)) else (none)))
def mailbagref18_field.f (k : Nat) (a0 : ByteArray) : Option (ByteArray × ByteArray × Bool) := mailbagref18_field.l0 k a0 0
theorem mailbagref18_field.mono_l : ∀ k, (∀ y0 y1, LeO (mailbagref18_field.l0 k y0 y1) (mailbagref18_field.l0 (k + 1) y0 y1))
  | 0 => fun _ _ r h => by simp [mailbagref18_field.l0] at h
  | k + 1 => by
    have ih0 := mailbagref18_field.mono_l k
    · intro y0 y1
      unfold mailbagref18_field.l0
      repeat' first
      | (with_reducible exact ih0 _ _)
      | (with_reducible exact mailbagref18_Name.mono _ _)
      | (with_reducible exact LeO.refl _)
      | (with_reducible exact LeO.none _)
      | (with_reducible refine LeO.ite ?_ ?_)
      | (with_reducible refine LeO.bind ?_ (fun _ => ?_))
      | exact ih0 _ _
      | exact mailbagref18_Name.mono _ _
      | exact LeO.none _
      | refine LeO.ite ?_ ?_
      | refine LeO.bind ?_ (fun _ => ?_)
theorem mailbagref18_field.mono : ∀ a0 k, LeO (mailbagref18_field.f k a0) (mailbagref18_field.f (k + 1) a0) := by
  intro a0 k
  have ih0 := mailbagref18_field.mono_l k
  unfold mailbagref18_field.f
  repeat' first
      | (with_reducible exact ih0 _ _)
      | (with_reducible exact mailbagref18_Name.mono _ _)
      | (with_reducible exact LeO.refl _)
      | (with_reducible exact LeO.none _)
      | (with_reducible refine LeO.ite ?_ ?_)
      | (with_reducible refine LeO.bind ?_ (fun _ => ?_))
      | exact ih0 _ _
      | exact mailbagref18_Name.mono _ _
      | exact LeO.none _
      | refine LeO.ite ?_ ?_
      | refine LeO.bind ?_ (fun _ => ?_)
def mailbagref18_field.T6 : Bool × List (List Nat × List Nat) := (true, [([], []), ([], []), ([0, 1], [0, 1]), ([], []), ([], []), ([4], [4]), ([3, 5], [3, 5]), ([2, 6], [2, 6]), ([7, 0, 1, 2, 3, 4, 5, 6, 7], [7]), ([8, 0, 1, 2, 3, 4, 5, 6, 7, 8], [])])
def mailbagref18_field.B6 : List Nat := [0, 0, 3, 0, 0, 16, 56, 127, 255, 511]
theorem mailbagref18_field.tab6 : rtab .any (opsOf Tryd.f48 6) = mailbagref18_field.T6 := by kernel_rfl
theorem mailbagref18_field.bits6 : waitsOk mailbagref18_field.T6.2 mailbagref18_field.B6 = true := by kernel_rfl
set_option maxHeartbeats 8000000 in
set_option maxRecDepth 100000 in
theorem mailbagref18_field.calls (k : Nat) (a0 : ByteArray) (r1 : ByteArray) (r2 : ByteArray) (r3 : Bool) (w : World) (h : mailbagref18_field.f k a0 = some (r1, r2, r3)) :
    Calls Tryd.prog 48 #[.string a0] w fun e w' => e = .returned (.tuple #[.agg #[.string r1, .string r2], .bool r3]) ∧ Below w.heap.size w w' := by
  have hu68 := Tryd.underlying68
  have HB := Aside0.mk (Below.refl w.heap.size w)
  have H : (mailbagref18_field.l0 k a0 0) = some (r1, r2, r3) := h
  clear h
  have H' := Aside0.mk H
  clear H
  go_enter Tryd.func48, Tryd.ntmps48
  go_wp2_with (first | ((with_reducible refine gate_dst (N := 2) rfl ?_); refine box_event ?hg (N := 2) ?hd (cs := #[.string (⟨#[]⟩ : ByteArray), .string (⟨#[]⟩ : ByteArray)]) (t := 68) ?hr ?_; (case hd => rfl); (case hg => rfl); (case hr => first | (go_simp; done) | (go_simp; rfl)); intro gb169 hg w2 hbox hb; have n0_ := Aside0.mk (below_step (by repeat (first | (with_reducible first | exact HB.out | apply below_alloc | apply pw_below_drewN | apply below_drew1) | exact HB.out)) hb); have n1_ := Aside0.mk (hbox); have n2_ := Aside0.mk ((by rw [hg]; exact (below_size (by repeat (first | (with_reducible first | exact HB.out | apply below_alloc | apply pw_below_drewN | apply below_drew1) | exact HB.out))) : w.heap.size ≤ gb169)); have n3_ := Aside0.mk ((by rw [hg]; exact (below_size (by repeat (first | (with_reducible first | exact HB.out | apply below_alloc | apply pw_below_drewN | apply below_drew1) | exact HB.out))) : w.heap.size ≤ gb169)); clear HB; have HB := n0_; have BK169 := n1_; have GW169 := n2_; have GE169 := n3_; clear n0_ n1_ n2_ n3_; clear hb hbox hg))
  go_loopg [4] k (fun kq v4 w' => ∃ (x4_1 : Int), v4 = .int .i64 x4_1 ∧ Aside0 (mailbagref18_field.l0 kq a0 x4_1 = some (r1, r2, r3)) ∧ Aside0 (kq ≤ k) ∧ Aside0 (w'.heap[gb169]? = some (.cells #[.string (⟨#[]⟩ : ByteArray), .string (⟨#[]⟩ : ByteArray)] 68 (0, 0))) ∧ Aside0 (Below w.heap.size w w'))
  case atStart => exact ⟨(0), (by first | rfl | (simp; done) | (simp [*]; done)), H', ⟨Nat.le_refl _⟩, ⟨by (with_reducible repeat (first | refine blk_drewN ?_ _ | refine blk_drew ?_ | refine blk_alloc ?_ _)); exact BK169.out⟩, ⟨by repeat (first | (with_reducible first | exact HB.out | apply below_alloc | apply pw_below_drewN | apply below_drew1 | refine below_set ?_ GE169.out) | exact HB.out)⟩⟩
  case round =>
    clear H'
    try clear p2
    obtain ⟨x4_1, rfl, HA, HK1, BK169, HB⟩ := hrel
    cases gk with
    | zero => exact absurd HA.out (by simp [mailbagref18_field.l0])
    | succ k1 =>
      have H := HA.out
      clear HA
      simp only [mailbagref18_field.l0] at H
      by_cases c3 : x4_1 < (a0.size : Int)
      · rw [if_pos c3] at H
        have c3b0 : decide (x4_1 < (a0.size : Int)) = true := decide_eq_true c3
        clear c3
        by_cases c4 : 0 ≤ x4_1
        · rw [if_pos c4] at H
          have c4b0 : decide (0 ≤ x4_1) = true := decide_eq_true c4
          clear c4
          by_cases c6 : (bt a0 x4_1) = 58
          · rw [if_pos c6] at H
            have c6b0 : ((bt a0 x4_1) == 58) = true := beq_iff_eq.mpr c6
            have c6b1 : ((bt a0 x4_1) != 58) = false := bne_eq_false_iff_eq.mpr c6
            clear c6
            by_cases c7 : x4_1 = (a0.size : Int)
            · rw [if_pos c7] at H
              have c7b0 : (x4_1 == (a0.size : Int)) = true := beq_iff_eq.mpr c7
              have c7b1 : (x4_1 != (a0.size : Int)) = false := bne_eq_false_iff_eq.mpr c7
              clear c7
              simp only [Option.some.injEq, Prod.mk.injEq] at H
              obtain ⟨rfl, rfl, rfl⟩ := H
              have p5 : 0 ≤ (x4_1 : Int) := of_decide_eq_true (by first | (with_reducible assumption) | assumption)
              have q5 : x4_1 < (a0.size : Int) := of_decide_eq_true (by first | (with_reducible assumption) | assumption)
              have hx5 := bt_at a0 x4_1
              replace p5 := eq_true p5
              replace q5 := eq_true q5
              have hcz8_0 : wr.cell? ⟨gb169, 0, none⟩ = some (.string (⟨#[]⟩ : ByteArray)) := (blk_cell BK169.out 0).trans rfl
              have hcz8_1 : wr.cell? ⟨gb169, 1, none⟩ = some (.string (⟨#[]⟩ : ByteArray)) := (blk_cell BK169.out 1).trans rfl
              have hfz8_0 := blk_frozen BK169.out 0
              have hfz8_1 := blk_frozen BK169.out 1
              go_wp2
              refine bodyPost_ret (results_ct rfl _ _ gb169 68 #[.string (⟨#[]⟩ : ByteArray), .string (⟨#[]⟩ : ByteArray)] (0, 0) _ rfl (by (with_reducible repeat (first | refine blk_drewN ?_ _ | refine blk_drew ?_ | refine blk_alloc ?_ _)); refine blk_put (cs := #[.string (⟨#[]⟩ : ByteArray), .string (⟨#[]⟩ : ByteArray)]) ?_ 1 _ rfl; (with_reducible repeat (first | refine blk_drewN ?_ _ | refine blk_drew ?_ | refine blk_alloc ?_ _)); refine blk_put (cs := #[.string (⟨#[]⟩ : ByteArray), .string (⟨#[]⟩ : ByteArray)]) ?_ 0 _ rfl; (with_reducible repeat (first | refine blk_drewN ?_ _ | refine blk_drew ?_ | refine blk_alloc ?_ _)); exact BK169.out) Tryd.underlying68 rfl (by kernel_rfl)) rfl ?_
              exact ⟨by first | rfl | (simp [errW_none, errW_some] <;> rfl) | (simp [*, errW_none, errW_some] <;> rfl), by repeat (first | (with_reducible first | exact HB.out | apply below_alloc | apply pw_below_drewN | apply below_drew1 | refine below_set ?_ GE169.out) | exact HB.out)⟩
            · rw [if_neg c7] at H
              have c7b0 : (x4_1 == (a0.size : Int)) = false := beq_eq_false_iff_ne.mpr c7
              have c7b1 : (x4_1 != (a0.size : Int)) = true := bne_iff_ne.mpr c7
              have c9b0 := eq_true (of_decide_eq_true (by first | (with_reducible assumption) | assumption) : 0 ≤ x4_1)
              by_cases c10 : x4_1 ≤ (a0.size : Int)
              · rw [if_pos c10] at H
                have c10b0 := eq_true c10
                have c10b1 : decide (x4_1 ≤ (a0.size : Int)) = true := decide_eq_true c10
                clear c10
                replace H := Option.bind_eq_some_iff.mp H
                obtain ⟨t170, A110, H⟩ := H
                replace H : (if t170 = true then (if 0 ≤ (wrap64 (x4_1 + 1)) then (if (wrap64 (x4_1 + 1)) ≤ (a0.size : Int) then (some (a0.extract 0 (x4_1 : Int).toNat, a0.extract ((wrap64 (x4_1 + 1)) : Int).toNat a0.size, true)) else (none)) else (none)) else (some ((⟨#[]⟩ : ByteArray), (⟨#[]⟩ : ByteArray), false))) = some (r1, r2, r3) := H
                have A11 := Aside0.mk A110
                clear A110
                by_cases c12 : t170 = true
                · subst c12
                  have H1 : (if 0 ≤ (wrap64 (x4_1 + 1)) then (if (wrap64 (x4_1 + 1)) ≤ (a0.size : Int) then (some (a0.extract 0 (x4_1 : Int).toNat, a0.extract ((wrap64 (x4_1 + 1)) : Int).toNat a0.size, true)) else (none)) else (none)) = some (r1, r2, r3) := by rw [if_pos rfl] at H; exact H
                  clear H
                  have H := H1
                  clear H1
                  have c13b0 := eq_true (of_decide_eq_true (by first | (with_reducible assumption) | assumption) : 0 ≤ x4_1)
                  have c14b0 := eq_true (of_decide_eq_true (by first | (with_reducible assumption) | assumption) : x4_1 ≤ (a0.size : Int))
                  obtain ⟨ji15, hji15⟩ : ∃ j_ : Int, (wrap64 (x4_1 + 1)) = j_ := ⟨_, rfl⟩
                  replace H : (if 0 ≤ (ji15) then (if (ji15) ≤ (a0.size : Int) then (some (a0.extract 0 (x4_1 : Int).toNat, a0.extract ((ji15) : Int).toNat a0.size, true)) else (none)) else (none)) = some (r1, r2, r3) := by first | (rw [hji15] at H; exact H) | (simp only [hji15] at H ⊢; exact H)
                  (try rw [hji15] at A11)
                  have hji15w : (IntKind.i64.wrap (x4_1 + 1)) = ji15 := (i64_w _).trans hji15
                  by_cases c16 : 0 ≤ (ji15)
                  · rw [if_pos c16] at H
                    have c16b0 := eq_true c16
                    have c16b1 : decide (0 ≤ (ji15)) = true := decide_eq_true c16
                    clear c16
                    by_cases c17 : (ji15) ≤ (a0.size : Int)
                    · rw [if_pos c17] at H
                      have c17b0 := eq_true c17
                      have c17b1 : decide ((ji15) ≤ (a0.size : Int)) = true := decide_eq_true c17
                      clear c17
                      simp only [Option.some.injEq, Prod.mk.injEq] at H
                      obtain ⟨rfl, rfl, rfl⟩ := H
                      have p5 : 0 ≤ (x4_1 : Int) := of_decide_eq_true (by first | (with_reducible assumption) | assumption)
                      have q5 : x4_1 < (a0.size : Int) := of_decide_eq_true (by first | (with_reducible assumption) | assumption)
                      have hx5 := bt_at a0 x4_1
                      replace p5 := eq_true p5
                      replace q5 := eq_true q5
                      try go_wp2_with (first | (go_at_call 21; (with_reducible refine (mailbagref18_Name.calls k1 (a0.extract 0 (x4_1 : Int).toNat) true _ A11.out).mono ?_); rintro e w' ⟨rfl, ⟨nd, rfl⟩⟩; (try (rw [drewN_self wr]; generalize hq_ : World.drewN wr _ = wr; have n0_ : Aside0 (wr.heap[gb169]? = some (.cells #[.string (⟨#[]⟩ : ByteArray), .string (⟨#[]⟩ : ByteArray)] 68 (0, 0))) := ⟨by rw [← hq_]; exact (by (with_reducible repeat (first | refine blk_drewN ?_ _ | refine blk_drew ?_ | refine blk_alloc ?_ _)); exact BK169.out)⟩; have n1_ : Aside0 (Below w.heap.size w wr) := ⟨by rw [← hq_]; exact (by repeat (first | (with_reducible first | exact HB.out | apply below_alloc | apply pw_below_drewN | apply below_drew1 | refine below_set ?_ GE169.out) | exact HB.out))⟩; clear BK169 HB hq_; have BK169 := n0_; have HB := n1_; clear n0_ n1_))))
                      have n0_ := Aside0.mk (blk_drew BK169.out)
                      have n1_ := Aside0.mk (below_drew1 HB.out)
                      clear BK169
                      clear HB
                      have BK169 := n0_
                      have HB := n1_
                      clear n0_ n1_
                      refine start_ (n := 10) (S := fun w' => True) (ds := []) #[false, false, false, false, false, false, false, false, false, false] (by kernel_rfl) rfl rfl trivial (fun hHeld => ?_); refine with_tabW mailbagref18_field.tab6 mailbagref18_field.bits6 (fun HT_ HW_ => ?_)
                      generalize wr.drew = w18 at BK169 HB hHeld ⊢
                      refine pure_ (i := 0) (N := some 29) (v := ?_) (a' := ?_) #[true, false, false, false, false, false, false, false, false, false] rfl rfl (any_of HT_.out (by kernel_rfl)) (fun _ _ _ h => h) (Or.inl ⟨by rfl, ?_⟩) ?_ ?_
                      rotate_left
                      · intro w'
                        go_simp
                        with_reducible rfl
                      rotate_left
                      · simp only [Act.put, List.setIfInBounds_toArray, List.set_cons_zero, List.set_cons_succ, i64_w, i32_w]
                        rfl
                      refine pure_ (i := 1) (N := some 30) (v := ?_) (a' := ?_) #[true, true, false, false, false, false, false, false, false, false] rfl rfl (any_of HT_.out (by kernel_rfl)) (fun _ _ _ h => h) (Or.inl ⟨by rfl, ?_⟩) ?_ ?_
                      rotate_left
                      · intro w'
                        go_simp
                        with_reducible rfl
                      rotate_left
                      · simp only [Act.put, List.setIfInBounds_toArray, List.set_cons_zero, List.set_cons_succ, i64_w, i32_w]
                        rfl
                      refine pure_ (i := 2) (N := some 31) (v := ?_) (a' := ?_) #[true, true, true, false, false, false, false, false, false, false] rfl rfl (any_of HT_.out (by kernel_rfl)) (fun _ _ _ h => h) (Or.inl ⟨by rfl, ?_⟩) ?_ ?_
                      rotate_left
                      · intro w'
                        go_simp
                        with_reducible rfl
                      rotate_left
                      · simp only [Act.put, List.setIfInBounds_toArray, List.set_cons_zero, List.set_cons_succ, i64_w, i32_w]
                        rfl
                      refine pure_ (i := 3) (N := some 32) (v := ?_) (a' := ?_) #[true, true, true, true, false, false, false, false, false, false] rfl rfl (any_of HT_.out (by kernel_rfl)) (fun _ _ _ h => h) (Or.inl ⟨by rfl, ?_⟩) ?_ ?_
                      rotate_left
                      · intro w'
                        go_simp
                        with_reducible rfl
                      rotate_left
                      · simp only [Act.put, List.setIfInBounds_toArray, List.set_cons_zero, List.set_cons_succ, i64_w, i32_w]
                        rfl
                      refine pure_ (i := 4) (N := some 33) (v := ?_) (a' := ?_) #[true, true, true, true, true, false, false, false, false, false] rfl rfl (any_of HT_.out (by kernel_rfl)) (fun _ _ _ h => h) (Or.inl ⟨by rfl, ?_⟩) ?_ ?_
                      rotate_left
                      · intro w'
                        go_simp
                        with_reducible rfl
                      rotate_left
                      · simp only [Act.put, List.setIfInBounds_toArray, List.set_cons_zero, List.set_cons_succ, i64_w, i32_w]
                        rfl
                      refine pure_ (i := 5) (N := some 34) (v := ?_) (a' := ?_) #[true, true, true, true, true, true, false, false, false, false] rfl rfl (any_of HT_.out (by kernel_rfl)) (fun _ _ _ h => h) (Or.inl ⟨by rfl, ?_⟩) ?_ ?_
                      rotate_left
                      · intro w'
                        go_simp
                        with_reducible rfl
                      rotate_left
                      · simp only [Act.put, List.setIfInBounds_toArray, List.set_cons_zero, List.set_cons_succ, i64_w, i32_w]
                        rfl
                      refine pure_ (i := 6) (N := some 35) (v := ?_) (a' := ?_) #[true, true, true, true, true, true, true, false, false, false] rfl rfl (any_of HT_.out (by kernel_rfl)) (fun _ _ _ h => h) (Or.inl ⟨by rfl, ?_⟩) ?_ ?_
                      rotate_left
                      · intro w'
                        go_simp
                        with_reducible rfl
                      rotate_left
                      · simp only [Act.put, List.setIfInBounds_toArray, List.set_cons_zero, List.set_cons_succ, i64_w, i32_w]
                        rfl
                      refine pure_ (i := 7) (N := some 36) (v := ?_) (a' := ?_) #[true, true, true, true, true, true, true, true, false, false] rfl rfl (any_of HT_.out (by kernel_rfl)) (fun _ _ _ h => h) (Or.inl ⟨by rfl, ?_⟩) ?_ ?_
                      rotate_left
                      · intro w'
                        go_simp
                        with_reducible rfl
                      rotate_left
                      · simp only [Act.put, List.setIfInBounds_toArray, List.set_cons_zero, List.set_cons_succ, i64_w, i32_w]
                        rfl
                      refine one_ (i := 8) (N := none) #[true, true, true, true, true, true, true, true, true, false] rfl rfl (one_of HT_.out (by kernel_rfl)) (by decide) (fun K hK => ?_)
                      have hs19 : w18.cell? ⟨gb169, 0, none⟩ = some (.string (⟨#[]⟩ : ByteArray)) := (blk_cell BK169.out 0).trans rfl
                      have hfs19 := blk_frozen BK169.out 0
                      have hs20 : w18.cell? ⟨gb169, 1, none⟩ = some (.string (⟨#[]⟩ : ByteArray)) := (blk_cell BK169.out 1).trans rfl
                      have hfs20 := blk_frozen BK169.out 1
                      refine skip_ (w1 := ?_) (by rfl) rfl ?_ ?_
                      rotate_left
                      · go_simp
                        rfl
                      refine hK.out _ _ trivial (fun hHeld => ?_)
                      clear hK K
                      refine pure_ (i := 9) (N := some 3) (v := ?_) (a' := ?_) #[true, true, true, true, true, true, true, true, true, true] rfl rfl (any_of HT_.out (by kernel_rfl)) (fun _ _ _ h => h) (Or.inl ⟨by rfl, ?_⟩) ?_ ?_
                      rotate_left
                      · intro w'
                        go_simp
                        with_reducible rfl
                      rotate_left
                      · simp only [Act.put, List.setIfInBounds_toArray, List.set_cons_zero, List.set_cons_succ, i64_w, i32_w]
                        rfl
                      refine done_ (done_of HT_.out (by kernel_rfl)) ?_
                      try go_wp2
                      refine bodyPost_ret (results_ct rfl _ _ gb169 68 #[.string (a0.extract 0 (x4_1 : Int).toNat), .string (a0.extract ((ji15) : Int).toNat a0.size)] (0, 0) _ rfl (by (with_reducible repeat (first | refine blk_drewN ?_ _ | refine blk_drew ?_ | refine blk_alloc ?_ _)); refine blk_put (cs := #[.string (a0.extract 0 (x4_1 : Int).toNat), .string (⟨#[]⟩ : ByteArray)]) ?_ 1 _ rfl; (with_reducible repeat (first | refine blk_drewN ?_ _ | refine blk_drew ?_ | refine blk_alloc ?_ _)); refine blk_put (cs := #[.string (⟨#[]⟩ : ByteArray), .string (⟨#[]⟩ : ByteArray)]) ?_ 0 _ rfl; (with_reducible repeat (first | refine blk_drewN ?_ _ | refine blk_drew ?_ | refine blk_alloc ?_ _)); exact BK169.out) Tryd.underlying68 rfl (by kernel_rfl)) rfl ?_
                      exact ⟨by first | rfl | (simp [errW_none, errW_some] <;> rfl) | (simp only [← hji15]; first | rfl | (simp [errW_none, errW_some] <;> rfl)) | (simp [*, errW_none, errW_some] <;> rfl), by repeat (first | (with_reducible first | exact HB.out | apply below_alloc | apply pw_below_drewN | apply below_drew1 | refine below_set ?_ GE169.out) | exact HB.out)⟩
                    · rw [if_neg c17] at H
                      exact absurd H (by simp)
                  · rw [if_neg c16] at H
                    exact absurd H (by simp)
                · replace c12 := Bool.eq_false_iff.mpr c12
                  subst c12
                  have H1 : (some ((⟨#[]⟩ : ByteArray), (⟨#[]⟩ : ByteArray), false)) = some (r1, r2, r3) := by rw [if_neg (show ¬ (false = true) by decide)] at H; exact H
                  clear H
                  have H := H1
                  clear H1
                  simp only [Option.some.injEq, Prod.mk.injEq] at H
                  obtain ⟨rfl, rfl, rfl⟩ := H
                  have p5 : 0 ≤ (x4_1 : Int) := of_decide_eq_true (by first | (with_reducible assumption) | assumption)
                  have q5 : x4_1 < (a0.size : Int) := of_decide_eq_true (by first | (with_reducible assumption) | assumption)
                  have hx5 := bt_at a0 x4_1
                  replace p5 := eq_true p5
                  replace q5 := eq_true q5
                  go_wp2_with (first | (go_at_call 21; (with_reducible refine (mailbagref18_Name.calls k1 (a0.extract 0 (x4_1 : Int).toNat) false _ A11.out).mono ?_); rintro e w' ⟨rfl, ⟨nd, rfl⟩⟩; (try (rw [drewN_self wr]; generalize hq_ : World.drewN wr _ = wr; have n0_ : Aside0 (wr.heap[gb169]? = some (.cells #[.string (⟨#[]⟩ : ByteArray), .string (⟨#[]⟩ : ByteArray)] 68 (0, 0))) := ⟨by rw [← hq_]; exact (by (with_reducible repeat (first | refine blk_drewN ?_ _ | refine blk_drew ?_ | refine blk_alloc ?_ _)); exact BK169.out)⟩; have n1_ : Aside0 (Below w.heap.size w wr) := ⟨by rw [← hq_]; exact (by repeat (first | (with_reducible first | exact HB.out | apply below_alloc | apply pw_below_drewN | apply below_drew1 | refine below_set ?_ GE169.out) | exact HB.out))⟩; clear BK169 HB hq_; have BK169 := n0_; have HB := n1_; clear n0_ n1_)); have hcz21_0 : wr.cell? ⟨gb169, 0, none⟩ = some (.string (⟨#[]⟩ : ByteArray)) := (blk_cell BK169.out 0).trans rfl; have hcz21_1 : wr.cell? ⟨gb169, 1, none⟩ = some (.string (⟨#[]⟩ : ByteArray)) := (blk_cell BK169.out 1).trans rfl; have hfz21_0 := blk_frozen BK169.out 0; have hfz21_1 := blk_frozen BK169.out 1))
                  refine bodyPost_ret (results_ct rfl _ _ gb169 68 #[.string (⟨#[]⟩ : ByteArray), .string (⟨#[]⟩ : ByteArray)] (0, 0) _ rfl (by (with_reducible repeat (first | refine blk_drewN ?_ _ | refine blk_drew ?_ | refine blk_alloc ?_ _)); refine blk_put (cs := #[.string (⟨#[]⟩ : ByteArray), .string (⟨#[]⟩ : ByteArray)]) ?_ 1 _ rfl; (with_reducible repeat (first | refine blk_drewN ?_ _ | refine blk_drew ?_ | refine blk_alloc ?_ _)); refine blk_put (cs := #[.string (⟨#[]⟩ : ByteArray), .string (⟨#[]⟩ : ByteArray)]) ?_ 0 _ rfl; (with_reducible repeat (first | refine blk_drewN ?_ _ | refine blk_drew ?_ | refine blk_alloc ?_ _)); exact BK169.out) Tryd.underlying68 rfl (by kernel_rfl)) rfl ?_
                  exact ⟨by first | rfl | (simp [errW_none, errW_some] <;> rfl) | (simp [*, errW_none, errW_some] <;> rfl), by repeat (first | (with_reducible first | exact HB.out | apply below_alloc | apply pw_below_drewN | apply below_drew1 | refine below_set ?_ GE169.out) | exact HB.out)⟩
              · rw [if_neg c10] at H
                exact absurd H (by simp)
          · rw [if_neg c6] at H
            have c6b0 : ((bt a0 x4_1) == 58) = false := beq_eq_false_iff_ne.mpr c6
            have c6b1 : ((bt a0 x4_1) != 58) = true := bne_iff_ne.mpr c6
            have H' := Aside0.mk H
            clear H
            have p5 : 0 ≤ (x4_1 : Int) := of_decide_eq_true (by first | (with_reducible assumption) | assumption)
            have q5 : x4_1 < (a0.size : Int) := of_decide_eq_true (by first | (with_reducible assumption) | assumption)
            have hx5 := bt_at a0 x4_1
            replace p5 := eq_true p5
            replace q5 := eq_true q5
            go_wp2
            go_roundg k1
            case measure => have := HK1.out; omega
            case rel => exact ⟨(wrap64 (x4_1 + 1)), (by first | rfl | (simp; done) | (simp [*]; done)), H', ⟨by have := HK1.out; omega⟩, ⟨by (with_reducible repeat (first | refine blk_drewN ?_ _ | refine blk_drew ?_ | refine blk_alloc ?_ _)); exact BK169.out⟩, ⟨by repeat (first | (with_reducible first | exact HB.out | apply below_alloc | apply pw_below_drewN | apply below_drew1 | refine below_set ?_ GE169.out) | exact HB.out)⟩⟩
        · rw [if_neg c4] at H
          exact absurd H (by simp)
      · rw [if_neg c3] at H
        have c3b0 : decide (x4_1 < (a0.size : Int)) = false := decide_eq_false c3
        clear c3
        by_cases c22 : x4_1 = (a0.size : Int)
        · rw [if_pos c22] at H
          have c22b0 : (x4_1 == (a0.size : Int)) = true := beq_iff_eq.mpr c22
          have c22b1 : (x4_1 != (a0.size : Int)) = false := bne_eq_false_iff_eq.mpr c22
          clear c22
          simp only [Option.some.injEq, Prod.mk.injEq] at H
          obtain ⟨rfl, rfl, rfl⟩ := H
          have hcz23_0 : wr.cell? ⟨gb169, 0, none⟩ = some (.string (⟨#[]⟩ : ByteArray)) := (blk_cell BK169.out 0).trans rfl
          have hcz23_1 : wr.cell? ⟨gb169, 1, none⟩ = some (.string (⟨#[]⟩ : ByteArray)) := (blk_cell BK169.out 1).trans rfl
          have hfz23_0 := blk_frozen BK169.out 0
          have hfz23_1 := blk_frozen BK169.out 1
          go_wp2
          refine bodyPost_ret (results_ct rfl _ _ gb169 68 #[.string (⟨#[]⟩ : ByteArray), .string (⟨#[]⟩ : ByteArray)] (0, 0) _ rfl (by (with_reducible repeat (first | refine blk_drewN ?_ _ | refine blk_drew ?_ | refine blk_alloc ?_ _)); refine blk_put (cs := #[.string (⟨#[]⟩ : ByteArray), .string (⟨#[]⟩ : ByteArray)]) ?_ 1 _ rfl; (with_reducible repeat (first | refine blk_drewN ?_ _ | refine blk_drew ?_ | refine blk_alloc ?_ _)); refine blk_put (cs := #[.string (⟨#[]⟩ : ByteArray), .string (⟨#[]⟩ : ByteArray)]) ?_ 0 _ rfl; (with_reducible repeat (first | refine blk_drewN ?_ _ | refine blk_drew ?_ | refine blk_alloc ?_ _)); exact BK169.out) Tryd.underlying68 rfl (by kernel_rfl)) rfl ?_
          exact ⟨by first | rfl | (simp [errW_none, errW_some] <;> rfl) | (simp [*, errW_none, errW_some] <;> rfl), by repeat (first | (with_reducible first | exact HB.out | apply below_alloc | apply pw_below_drewN | apply below_drew1 | refine below_set ?_ GE169.out) | exact HB.out)⟩
        · rw [if_neg c22] at H
          have c22b0 : (x4_1 == (a0.size : Int)) = false := beq_eq_false_iff_ne.mpr c22
          have c22b1 : (x4_1 != (a0.size : Int)) = true := bne_iff_ne.mpr c22
          by_cases c24 : 0 ≤ x4_1
          · rw [if_pos c24] at H
            have c24b0 := eq_true c24
            have c24b1 : decide (0 ≤ x4_1) = true := decide_eq_true c24
            clear c24
            by_cases c25 : x4_1 ≤ (a0.size : Int)
            · rw [if_pos c25] at H
              have c25b0 := eq_true c25
              have c25b1 : decide (x4_1 ≤ (a0.size : Int)) = true := decide_eq_true c25
              clear c25
              replace H := Option.bind_eq_some_iff.mp H
              obtain ⟨t171, A260, H⟩ := H
              replace H : (if t171 = true then (if 0 ≤ (wrap64 (x4_1 + 1)) then (if (wrap64 (x4_1 + 1)) ≤ (a0.size : Int) then (some (a0.extract 0 (x4_1 : Int).toNat, a0.extract ((wrap64 (x4_1 + 1)) : Int).toNat a0.size, true)) else (none)) else (none)) else (some ((⟨#[]⟩ : ByteArray), (⟨#[]⟩ : ByteArray), false))) = some (r1, r2, r3) := H
              have A26 := Aside0.mk A260
              clear A260
              by_cases c27 : t171 = true
              · subst c27
                have H1 : (if 0 ≤ (wrap64 (x4_1 + 1)) then (if (wrap64 (x4_1 + 1)) ≤ (a0.size : Int) then (some (a0.extract 0 (x4_1 : Int).toNat, a0.extract ((wrap64 (x4_1 + 1)) : Int).toNat a0.size, true)) else (none)) else (none)) = some (r1, r2, r3) := by rw [if_pos rfl] at H; exact H
                clear H
                have H := H1
                clear H1
                have c28b0 := eq_true (of_decide_eq_true (by first | (with_reducible assumption) | assumption) : 0 ≤ x4_1)
                have c29b0 := eq_true (of_decide_eq_true (by first | (with_reducible assumption) | assumption) : x4_1 ≤ (a0.size : Int))
                obtain ⟨ji30, hji30⟩ : ∃ j_ : Int, (wrap64 (x4_1 + 1)) = j_ := ⟨_, rfl⟩
                replace H : (if 0 ≤ (ji30) then (if (ji30) ≤ (a0.size : Int) then (some (a0.extract 0 (x4_1 : Int).toNat, a0.extract ((ji30) : Int).toNat a0.size, true)) else (none)) else (none)) = some (r1, r2, r3) := by first | (rw [hji30] at H; exact H) | (simp only [hji30] at H ⊢; exact H)
                (try rw [hji30] at A26)
                have hji30w : (IntKind.i64.wrap (x4_1 + 1)) = ji30 := (i64_w _).trans hji30
                by_cases c31 : 0 ≤ (ji30)
                · rw [if_pos c31] at H
                  have c31b0 := eq_true c31
                  have c31b1 : decide (0 ≤ (ji30)) = true := decide_eq_true c31
                  clear c31
                  by_cases c32 : (ji30) ≤ (a0.size : Int)
                  · rw [if_pos c32] at H
                    have c32b0 := eq_true c32
                    have c32b1 : decide ((ji30) ≤ (a0.size : Int)) = true := decide_eq_true c32
                    clear c32
                    simp only [Option.some.injEq, Prod.mk.injEq] at H
                    obtain ⟨rfl, rfl, rfl⟩ := H
                    try go_wp2_with (first | (go_at_call 21; (with_reducible refine (mailbagref18_Name.calls k1 (a0.extract 0 (x4_1 : Int).toNat) true _ A26.out).mono ?_); rintro e w' ⟨rfl, ⟨nd, rfl⟩⟩; (try (rw [drewN_self wr]; generalize hq_ : World.drewN wr _ = wr; have n0_ : Aside0 (wr.heap[gb169]? = some (.cells #[.string (⟨#[]⟩ : ByteArray), .string (⟨#[]⟩ : ByteArray)] 68 (0, 0))) := ⟨by rw [← hq_]; exact (by (with_reducible repeat (first | refine blk_drewN ?_ _ | refine blk_drew ?_ | refine blk_alloc ?_ _)); exact BK169.out)⟩; have n1_ : Aside0 (Below w.heap.size w wr) := ⟨by rw [← hq_]; exact (by repeat (first | (with_reducible first | exact HB.out | apply below_alloc | apply pw_below_drewN | apply below_drew1 | refine below_set ?_ GE169.out) | exact HB.out))⟩; clear BK169 HB hq_; have BK169 := n0_; have HB := n1_; clear n0_ n1_))))
                    have n0_ := Aside0.mk (blk_drew BK169.out)
                    have n1_ := Aside0.mk (below_drew1 HB.out)
                    clear BK169
                    clear HB
                    have BK169 := n0_
                    have HB := n1_
                    clear n0_ n1_
                    refine start_ (n := 10) (S := fun w' => True) (ds := []) #[false, false, false, false, false, false, false, false, false, false] (by kernel_rfl) rfl rfl trivial (fun hHeld => ?_); refine with_tabW mailbagref18_field.tab6 mailbagref18_field.bits6 (fun HT_ HW_ => ?_)
                    generalize wr.drew = w33 at BK169 HB hHeld ⊢
                    refine pure_ (i := 0) (N := some 29) (v := ?_) (a' := ?_) #[true, false, false, false, false, false, false, false, false, false] rfl rfl (any_of HT_.out (by kernel_rfl)) (fun _ _ _ h => h) (Or.inl ⟨by rfl, ?_⟩) ?_ ?_
                    rotate_left
                    · intro w'
                      go_simp
                      with_reducible rfl
                    rotate_left
                    · simp only [Act.put, List.setIfInBounds_toArray, List.set_cons_zero, List.set_cons_succ, i64_w, i32_w]
                      rfl
                    refine pure_ (i := 1) (N := some 30) (v := ?_) (a' := ?_) #[true, true, false, false, false, false, false, false, false, false] rfl rfl (any_of HT_.out (by kernel_rfl)) (fun _ _ _ h => h) (Or.inl ⟨by rfl, ?_⟩) ?_ ?_
                    rotate_left
                    · intro w'
                      go_simp
                      with_reducible rfl
                    rotate_left
                    · simp only [Act.put, List.setIfInBounds_toArray, List.set_cons_zero, List.set_cons_succ, i64_w, i32_w]
                      rfl
                    refine pure_ (i := 2) (N := some 31) (v := ?_) (a' := ?_) #[true, true, true, false, false, false, false, false, false, false] rfl rfl (any_of HT_.out (by kernel_rfl)) (fun _ _ _ h => h) (Or.inl ⟨by rfl, ?_⟩) ?_ ?_
                    rotate_left
                    · intro w'
                      go_simp
                      with_reducible rfl
                    rotate_left
                    · simp only [Act.put, List.setIfInBounds_toArray, List.set_cons_zero, List.set_cons_succ, i64_w, i32_w]
                      rfl
                    refine pure_ (i := 3) (N := some 32) (v := ?_) (a' := ?_) #[true, true, true, true, false, false, false, false, false, false] rfl rfl (any_of HT_.out (by kernel_rfl)) (fun _ _ _ h => h) (Or.inl ⟨by rfl, ?_⟩) ?_ ?_
                    rotate_left
                    · intro w'
                      go_simp
                      with_reducible rfl
                    rotate_left
                    · simp only [Act.put, List.setIfInBounds_toArray, List.set_cons_zero, List.set_cons_succ, i64_w, i32_w]
                      rfl
                    refine pure_ (i := 4) (N := some 33) (v := ?_) (a' := ?_) #[true, true, true, true, true, false, false, false, false, false] rfl rfl (any_of HT_.out (by kernel_rfl)) (fun _ _ _ h => h) (Or.inl ⟨by rfl, ?_⟩) ?_ ?_
                    rotate_left
                    · intro w'
                      go_simp
                      with_reducible rfl
                    rotate_left
                    · simp only [Act.put, List.setIfInBounds_toArray, List.set_cons_zero, List.set_cons_succ, i64_w, i32_w]
                      rfl
                    refine pure_ (i := 5) (N := some 34) (v := ?_) (a' := ?_) #[true, true, true, true, true, true, false, false, false, false] rfl rfl (any_of HT_.out (by kernel_rfl)) (fun _ _ _ h => h) (Or.inl ⟨by rfl, ?_⟩) ?_ ?_
                    rotate_left
                    · intro w'
                      go_simp
                      with_reducible rfl
                    rotate_left
                    · simp only [Act.put, List.setIfInBounds_toArray, List.set_cons_zero, List.set_cons_succ, i64_w, i32_w]
                      rfl
                    refine pure_ (i := 6) (N := some 35) (v := ?_) (a' := ?_) #[true, true, true, true, true, true, true, false, false, false] rfl rfl (any_of HT_.out (by kernel_rfl)) (fun _ _ _ h => h) (Or.inl ⟨by rfl, ?_⟩) ?_ ?_
                    rotate_left
                    · intro w'
                      go_simp
                      with_reducible rfl
                    rotate_left
                    · simp only [Act.put, List.setIfInBounds_toArray, List.set_cons_zero, List.set_cons_succ, i64_w, i32_w]
                      rfl
                    refine pure_ (i := 7) (N := some 36) (v := ?_) (a' := ?_) #[true, true, true, true, true, true, true, true, false, false] rfl rfl (any_of HT_.out (by kernel_rfl)) (fun _ _ _ h => h) (Or.inl ⟨by rfl, ?_⟩) ?_ ?_
                    rotate_left
                    · intro w'
                      go_simp
                      with_reducible rfl
                    rotate_left
                    · simp only [Act.put, List.setIfInBounds_toArray, List.set_cons_zero, List.set_cons_succ, i64_w, i32_w]
                      rfl
                    refine one_ (i := 8) (N := none) #[true, true, true, true, true, true, true, true, true, false] rfl rfl (one_of HT_.out (by kernel_rfl)) (by decide) (fun K hK => ?_)
                    have hs34 : w33.cell? ⟨gb169, 0, none⟩ = some (.string (⟨#[]⟩ : ByteArray)) := (blk_cell BK169.out 0).trans rfl
                    have hfs34 := blk_frozen BK169.out 0
                    have hs35 : w33.cell? ⟨gb169, 1, none⟩ = some (.string (⟨#[]⟩ : ByteArray)) := (blk_cell BK169.out 1).trans rfl
                    have hfs35 := blk_frozen BK169.out 1
                    refine skip_ (w1 := ?_) (by rfl) rfl ?_ ?_
                    rotate_left
                    · go_simp
                      rfl
                    refine hK.out _ _ trivial (fun hHeld => ?_)
                    clear hK K
                    refine pure_ (i := 9) (N := some 3) (v := ?_) (a' := ?_) #[true, true, true, true, true, true, true, true, true, true] rfl rfl (any_of HT_.out (by kernel_rfl)) (fun _ _ _ h => h) (Or.inl ⟨by rfl, ?_⟩) ?_ ?_
                    rotate_left
                    · intro w'
                      go_simp
                      with_reducible rfl
                    rotate_left
                    · simp only [Act.put, List.setIfInBounds_toArray, List.set_cons_zero, List.set_cons_succ, i64_w, i32_w]
                      rfl
                    refine done_ (done_of HT_.out (by kernel_rfl)) ?_
                    try go_wp2
                    refine bodyPost_ret (results_ct rfl _ _ gb169 68 #[.string (a0.extract 0 (x4_1 : Int).toNat), .string (a0.extract ((ji30) : Int).toNat a0.size)] (0, 0) _ rfl (by (with_reducible repeat (first | refine blk_drewN ?_ _ | refine blk_drew ?_ | refine blk_alloc ?_ _)); refine blk_put (cs := #[.string (a0.extract 0 (x4_1 : Int).toNat), .string (⟨#[]⟩ : ByteArray)]) ?_ 1 _ rfl; (with_reducible repeat (first | refine blk_drewN ?_ _ | refine blk_drew ?_ | refine blk_alloc ?_ _)); refine blk_put (cs := #[.string (⟨#[]⟩ : ByteArray), .string (⟨#[]⟩ : ByteArray)]) ?_ 0 _ rfl; (with_reducible repeat (first | refine blk_drewN ?_ _ | refine blk_drew ?_ | refine blk_alloc ?_ _)); exact BK169.out) Tryd.underlying68 rfl (by kernel_rfl)) rfl ?_
                    exact ⟨by first | rfl | (simp [errW_none, errW_some] <;> rfl) | (simp only [← hji30]; first | rfl | (simp [errW_none, errW_some] <;> rfl)) | (simp [*, errW_none, errW_some] <;> rfl), by repeat (first | (with_reducible first | exact HB.out | apply below_alloc | apply pw_below_drewN | apply below_drew1 | refine below_set ?_ GE169.out) | exact HB.out)⟩
                  · rw [if_neg c32] at H
                    exact absurd H (by simp)
                · rw [if_neg c31] at H
                  exact absurd H (by simp)
              · replace c27 := Bool.eq_false_iff.mpr c27
                subst c27
                have H1 : (some ((⟨#[]⟩ : ByteArray), (⟨#[]⟩ : ByteArray), false)) = some (r1, r2, r3) := by rw [if_neg (show ¬ (false = true) by decide)] at H; exact H
                clear H
                have H := H1
                clear H1
                simp only [Option.some.injEq, Prod.mk.injEq] at H
                obtain ⟨rfl, rfl, rfl⟩ := H
                go_wp2_with (first | (go_at_call 21; (with_reducible refine (mailbagref18_Name.calls k1 (a0.extract 0 (x4_1 : Int).toNat) false _ A26.out).mono ?_); rintro e w' ⟨rfl, ⟨nd, rfl⟩⟩; (try (rw [drewN_self wr]; generalize hq_ : World.drewN wr _ = wr; have n0_ : Aside0 (wr.heap[gb169]? = some (.cells #[.string (⟨#[]⟩ : ByteArray), .string (⟨#[]⟩ : ByteArray)] 68 (0, 0))) := ⟨by rw [← hq_]; exact (by (with_reducible repeat (first | refine blk_drewN ?_ _ | refine blk_drew ?_ | refine blk_alloc ?_ _)); exact BK169.out)⟩; have n1_ : Aside0 (Below w.heap.size w wr) := ⟨by rw [← hq_]; exact (by repeat (first | (with_reducible first | exact HB.out | apply below_alloc | apply pw_below_drewN | apply below_drew1 | refine below_set ?_ GE169.out) | exact HB.out))⟩; clear BK169 HB hq_; have BK169 := n0_; have HB := n1_; clear n0_ n1_)); have hcz36_0 : wr.cell? ⟨gb169, 0, none⟩ = some (.string (⟨#[]⟩ : ByteArray)) := (blk_cell BK169.out 0).trans rfl; have hcz36_1 : wr.cell? ⟨gb169, 1, none⟩ = some (.string (⟨#[]⟩ : ByteArray)) := (blk_cell BK169.out 1).trans rfl; have hfz36_0 := blk_frozen BK169.out 0; have hfz36_1 := blk_frozen BK169.out 1))
                refine bodyPost_ret (results_ct rfl _ _ gb169 68 #[.string (⟨#[]⟩ : ByteArray), .string (⟨#[]⟩ : ByteArray)] (0, 0) _ rfl (by (with_reducible repeat (first | refine blk_drewN ?_ _ | refine blk_drew ?_ | refine blk_alloc ?_ _)); refine blk_put (cs := #[.string (⟨#[]⟩ : ByteArray), .string (⟨#[]⟩ : ByteArray)]) ?_ 1 _ rfl; (with_reducible repeat (first | refine blk_drewN ?_ _ | refine blk_drew ?_ | refine blk_alloc ?_ _)); refine blk_put (cs := #[.string (⟨#[]⟩ : ByteArray), .string (⟨#[]⟩ : ByteArray)]) ?_ 0 _ rfl; (with_reducible repeat (first | refine blk_drewN ?_ _ | refine blk_drew ?_ | refine blk_alloc ?_ _)); exact BK169.out) Tryd.underlying68 rfl (by kernel_rfl)) rfl ?_
                exact ⟨by first | rfl | (simp [errW_none, errW_some] <;> rfl) | (simp [*, errW_none, errW_some] <;> rfl), by repeat (first | (with_reducible first | exact HB.out | apply below_alloc | apply pw_below_drewN | apply below_drew1 | refine below_set ?_ GE169.out) | exact HB.out)⟩
            · rw [if_neg c25] at H
              exact absurd H (by simp)
          · rw [if_neg c24] at H
            exact absurd H (by simp)

end Go.Proofs.YtfpcngoonfbphaaDoor.XH
