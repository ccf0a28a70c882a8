/- What YtfpcngoonfbphaaDoorRJ needs, in one text: PN, XHx2, XHx1, XHx6, PS, PT, WB, E2. -/
import Derived.Test.YtfpcngoonfbphaaDoorCJ1
/- Plain: what the printed functions of ref17 and ref18 answer: names, fields, lines. -/
set_option linter.unusedVariables false
set_option linter.unusedSimpArgs false
namespace Go.Proofs.YtfpcngoonfbphaaDoor.XH
open Go.RowKit Go.Proofs.YtfpcngoonfbphaaDoorW.PrintWords Go.Proofs.YtfpcngoonfbphaaDoor Go.Proofs.YtfpcngoonfbphaaDoor.Pl

abbrev mk (l : Bs) : ByteArray := ⟨l.toArray⟩
theorem w64 {x : Int} (h1 : -9223372036854775808 ≤ x) (h2 : x ≤ 9223372036854775807) : wrap64 x = x := by unfold wrap64; omega
theorem w64n (n : Nat) (h2 : n ≤ 9223372036854775807) : wrap64 (n : Int) = n := w64 (by omega) (by omega)
theorem w64s (n : Nat) (h2 : n ≤ 9223372036854775806) : wrap64 ((n : Int) + 1) = ((n + 1 : Nat) : Int) := by rw [w64 (by omega) (by omega)]; omega
theorem bt_mk (l : Bs) (i : Nat) (h : i < l.length) : bt (mk l) (i : Int) = ((l[i]).toNat : Int) := by
  unfold bt
  rw [Int.toNat_natCast, dif_pos (by rw [size_mk]; exact h)]
  rfl
theorem rd_i8 (l : Bs) (i : Nat) (h : i < l.length) : rd (i8 l) (i : Int) = ((l[i]).toNat : Int) := by
  unfold rd i8
  rw [Int.toNat_natCast, List.getD_eq_getElem?_getD, List.getElem?_map, List.getElem?_eq_getElem h]
  rfl
theorem emp_mk (l : Bs) : (mk l).toList = l := toList_mk l
theorem okC_iff (c : UInt8) : okC c = true ↔ 33 ≤ c.toNat ∧ c.toNat ≤ 126 ∧ c.toNat ≠ 58 := by
  unfold okC
  simp only [Bool.and_eq_true, decide_eq_true_eq, bne_iff_ne, UInt8.le_iff_toNat_le, and_assoc]
  constructor
  · rintro ⟨h1, h2, h3⟩
    exact ⟨h1, h2, fun e => h3 (UInt8.toNat_inj.1 e)⟩
  · rintro ⟨h1, h2, h3⟩
    exact ⟨h1, h2, fun e => h3 (by rw [e]; rfl)⟩
theorem extract_mk (l : Bs) (a b : Nat) : (mk l).extract a b = mk ((l.take b).drop a) := by
  apply ByteArray.ext
  simp [List.drop_take]

/-! ### Names -/
theorem rname_l0 (l : Bs) (hl : l.length ≤ 1000000000) : ∀ (d i : Nat), i + d = l.length → Ev (fun k => mailbagref18_Name.l0 k (mk l) (i : Int)) ((l.drop i).all okC) := by
  intro d
  induction d with
  | zero =>
    intro i hi
    rw [List.drop_of_length_le (by omega)]
    refine Ev.step (f := fun _ => some true) (fun k => ?_) (Ev.now true)
    simp only [mailbagref18_Name.l0]
    rw [if_neg (by rw [size_mk]; omega)]
  | succ d ih =>
    intro i hi
    have hlt : i < l.length := by omega
    rw [List.drop_eq_getElem_cons hlt, List.all_cons]
    by_cases hc : okC l[i] = true
    · rw [hc, Bool.true_and]
      obtain ⟨h1, h2, h3⟩ := (okC_iff _).1 hc
      refine Ev.step (f := fun k => mailbagref18_Name.l0 k (mk l) ((i + 1 : Nat) : Int)) (fun k => ?_) (ih (i + 1) (by omega))
      simp only [mailbagref18_Name.l0]
      rw [if_pos (by rw [size_mk]; omega), if_pos (by omega), bt_mk l i hlt, if_neg (by omega), if_neg (by omega), if_neg (by omega), w64s _ (by omega)]
    · rw [Bool.eq_false_iff.2 hc, Bool.false_and]
      rw [okC_iff] at hc
      refine Ev.step (f := fun _ => some false) (fun k => ?_) (Ev.now false)
      simp only [mailbagref18_Name.l0]
      rw [if_pos (by rw [size_mk]; omega), if_pos (by omega), bt_mk l i hlt]
      by_cases h1 : ((l[i].toNat : Nat) : Int) < 33
      · rw [if_pos h1]
      · rw [if_neg h1]
        by_cases h2 : ((l[i].toNat : Nat) : Int) > 126
        · rw [if_pos h2]
        · rw [if_neg h2, if_pos (by omega)]
theorem rname (l : Bs) (hl : l.length ≤ 1000000000) : Ev (fun k => mailbagref18_Name.f k (mk l)) (nameOk l) := by
  unfold mailbagref18_Name.f nameOk
  rw [emp_mk, size_mk]
  by_cases h0 : l = []
  · subst h0
    refine Ev.congr (f := fun k => mailbagref18_Name.j0 k (mk []) true) (fun k => if_pos rfl) ?_
    refine Ev.step (f := fun _ => some false) (fun k => ?_) (Ev.now false)
    simp only [mailbagref18_Name.j0]
    rfl
  · have he : l.isEmpty = false := by cases l with | nil => exact absurd rfl h0 | cons a b => rfl
    refine Ev.congr (f := fun k => mailbagref18_Name.j0 k (mk l) (decide ((l.length : Int) > 76))) (fun k => if_neg h0) ?_
    rw [he]
    by_cases h7 : (l.length : Int) > 76
    · rw [decide_eq_true h7, decide_eq_false (show ¬ l.length ≤ 76 by omega)]
      simp only [Bool.and_false]
      refine Ev.step (f := fun _ => some false) (fun k => ?_) (Ev.now false)
      simp only [mailbagref18_Name.j0]
      rfl
    · rw [decide_eq_false h7, decide_eq_true (show l.length ≤ 76 by omega)]
      simp only [Bool.not_false, Bool.and_true]
      refine Ev.step (f := fun k => mailbagref18_Name.l0 k (mk l) ((0 : Nat) : Int)) (fun k => ?_) (by simpa using rname_l0 l hl l.length 0 (by omega))
      simp only [mailbagref18_Name.j0]
      rfl

/-! ### A line as a field -/
theorem cut58_none (l : Bs) (h : ∀ c ∈ l, c ≠ 58) : Lib.cut l [58] = (l, [], false) := by
  induction l with
  | nil => exact cut_nil _ (by simp)
  | cons c t ih =>
    have hp : [(58 : UInt8)].isPrefixOf (c :: t) = false := by
      simp only [List.isPrefixOf, Bool.and_true]
      rw [beq_eq_false_iff_ne]
      exact fun e => h c List.mem_cons_self e.symm
    rw [cut_miss _ _ _ hp, ih (fun x hx => h x (List.mem_cons_of_mem _ hx))]
theorem cut58_at (l r : Bs) (h : ∀ c ∈ l, c ≠ 58) : Lib.cut (l ++ 58 :: r) [58] = (l, r, true) := by
  induction l with
  | nil => rw [List.nil_append, cut_hit _ _ _ (by simp [List.isPrefixOf])]; rfl
  | cons c t ih =>
    have hp : [(58 : UInt8)].isPrefixOf (c :: (t ++ 58 :: r)) = false := by
      simp only [List.isPrefixOf, Bool.and_true]
      rw [beq_eq_false_iff_ne]
      exact fun e => h c List.mem_cons_self e.symm
    rw [List.cons_append, cut_miss _ _ _ hp, ih (fun x hx => h x (List.mem_cons_of_mem _ hx))]
def fieldR (l : Bs) : ByteArray × ByteArray × Bool := if ((Lib.cut l [58]).2.2 && nameOk (Lib.cut l [58]).1) = true then (mk (Lib.cut l [58]).1, mk (Lib.cut l [58]).2.1, true) else (⟨#[]⟩, ⟨#[]⟩, false)
theorem rfield_l0 : ∀ (r pre : Bs), (∀ c ∈ pre, c ≠ 58) → (pre ++ r).length ≤ 1000000000 → Ev (fun k => mailbagref18_field.l0 k (mk (pre ++ r)) (pre.length : Int)) (fieldR (pre ++ r)) := by
  intro r
  induction r with
  | nil =>
    intro pre hp hl
    rw [List.append_nil] at hl ⊢
    unfold fieldR
    rw [cut58_none pre hp]
    refine Ev.step (f := fun _ => some (⟨#[]⟩, ⟨#[]⟩, false)) (fun k => ?_) (Ev.now _)
    simp only [mailbagref18_field.l0]
    rw [if_neg (by rw [size_mk]; omega), if_pos (by rw [size_mk])]
  | cons c r ih =>
    intro pre hp hl
    have hlen : (pre ++ c :: r).length = pre.length + r.length + 1 := by simp; omega
    have hlt : pre.length < (pre ++ c :: r).length := by omega
    have hg : (pre ++ c :: r)[pre.length] = c := by simp
    have hb := bt_mk (pre ++ c :: r) pre.length hlt
    rw [hg] at hb
    by_cases hc : c = 58
    · subst hc
      unfold fieldR
      rw [cut58_at pre r hp]
      simp only [Bool.true_and]
      have e1 : (mk (pre ++ 58 :: r)).extract 0 ((pre.length : Int)).toNat = mk pre := by rw [extract_mk]; simp
      have e2 : (mk (pre ++ 58 :: r)).extract (((pre.length + 1 : Nat) : Int)).toNat (mk (pre ++ 58 :: r)).size = mk r := by
        rw [extract_mk, size_mk, Int.toNat_natCast, List.take_length, show pre.length + 1 = (pre ++ [58]).length from by simp, show pre ++ 58 :: r = (pre ++ [58]) ++ r from by simp, List.drop_left]
      have hn := rname pre (by omega)
      refine Ev.step (f := fun k => (mailbagref18_Name.f k (mk pre)).bind fun t170 => if t170 = true then some (mk pre, mk r, true) else some (⟨#[]⟩, ⟨#[]⟩, false)) (fun k => ?_) (Ev.bind hn (f := fun _ t170 => if t170 = true then some (mk pre, mk r, true) else some (⟨#[]⟩, ⟨#[]⟩, false)) ?_)
      · simp only [mailbagref18_field.l0]
        rw [if_pos (by rw [size_mk]; omega), if_pos (by omega), hb, if_pos (by rfl), if_neg (by rw [size_mk]; omega), if_pos (by rw [size_mk]; omega), e1, w64s _ (by omega), if_pos (by omega), if_pos (by rw [size_mk]; omega), e2]
      · cases nameOk pre with
        | true => exact Ev.now _
        | false => exact Ev.now _
    · have hne : (c.toNat : Int) ≠ 58 := fun e => hc (UInt8.toNat_inj.1 (show c.toNat = 58 by omega))
      have h2 := ih (pre ++ [c]) (fun x hx => by
        rcases List.mem_append.1 hx with hx | hx
        · exact hp x hx
        · rw [List.mem_singleton.1 hx]; exact hc) (by simpa using hl)
      rw [List.append_assoc, List.singleton_append] at h2
      refine Ev.step (f := fun k => mailbagref18_field.l0 k (mk (pre ++ c :: r)) ((pre ++ [c]).length : Int)) (fun k => ?_) h2
      simp only [mailbagref18_field.l0]
      rw [if_pos (by rw [size_mk]; omega), if_pos (by omega), hb, if_neg hne, w64s _ (by omega)]
      simp
theorem rfield (l : Bs) (hl : l.length ≤ 1000000000) : Ev (fun k => mailbagref18_field.f k (mk l)) (fieldR l) := by
  have h := rfield_l0 l [] (by simp) (by simpa using hl)
  exact h

/-! ### Lines -/
theorem rends (b : Bs) (hb : b.length ≤ 1000000000) : mailbagref17_ends.f (i8 b) ⟨#[13, 10]⟩ = some (decide ([13, 10] <:+ b)) := by
  rw [← endsB_i8]
  unfold mailbagref17_ends.f endsB
  rw [i8_len, show crlf.length = 2 from rfl, show ((⟨#[13, 10]⟩ : ByteArray).size : Int) = 2 from rfl]
  by_cases h : 2 ≤ b.length
  · rw [if_pos (by omega), w64 (by omega) (by omega), if_pos (by omega), if_pos (by omega), decide_eq_true h, Bool.true_and]
    rw [show ((b.length : Int) - 2).toNat = b.length - 2 from by omega]
    rfl
  · rw [if_neg (by omega), decide_eq_false h, Bool.false_and]
theorem rwhole (b : Bs) (hb : b.length ≤ 1000000000) : mailbagref17_Whole.f (i8 b) = some (i8 (wholeB b)) := by
  unfold mailbagref17_Whole.f wholeB
  rw [rends b hb, i8_len]
  by_cases h0 : b = []
  · subst h0
    rfl
  · have hl : b.length ≠ 0 := fun e => h0 (List.eq_nil_of_length_eq_zero e)
    rw [if_neg (by omega)]
    by_cases hs : [13, 10] <:+ b
    · rw [if_pos (.inr hs), decide_eq_true hs]
      simp only [Option.bind_some, if_true, List.length_nil, List.nil_append]
      rw [if_pos (by omega)]
    · rw [if_neg (by rintro (q | q); · exact h0 q
                     · exact hs q), decide_eq_false hs]
      simp only [Option.bind_some, List.length_nil, List.nil_append, i8_len]
      rw [if_neg (by simp), if_pos (by omega), if_pos (by simp; omega)]
      simp [i8]
theorem get_app (P Q : Bs) (m : Nat) (h : m < Q.length) : (P ++ Q)[P.length + m]'(by simp; omega) = Q[m] := by
  rw [List.getElem_append_right (by omega)]
  simp
/-- A place within a line: it goes on to the line's end. -/
theorem noNL_at : ∀ (l R : Bs) (m : Nat) (hm : m + 1 ≤ l.length) (h : noNL l = true) (h1 : (l ++ 13 :: 10 :: R)[m]'(by simp; omega) = 13), (l ++ 13 :: 10 :: R)[m + 1]'(by simp; omega) ≠ 10 := by
  intro l
  induction l with
  | nil => intro R m hm; simp at hm
  | cons c t ih =>
    intro R m hm h h1
    cases m with
    | zero =>
      simp only [List.cons_append, List.getElem_cons_zero] at h1
      unfold noNL at h
      simp only [Bool.and_eq_true, Bool.not_eq_true', Bool.and_eq_false_iff] at h
      rcases h.1 with h3 | h3
      · rw [h1] at h3; simp at h3
      · cases t with
        | nil => simp
        | cons d t => simp only [List.head?_cons] at h3; intro e; simp only [List.cons_append, List.getElem_cons_succ, List.getElem_cons_zero] at e; rw [e] at h3; simp at h3
    | succ m =>
      simp only [List.cons_append, List.getElem_cons_succ] at h1 ⊢
      exact ih R m (by simpa using hm) (noNL_tail h) h1
theorem rline (P l R : Bs) (h : noNL l = true) (acc : List ByteArray) (ha : acc.length ≤ 1000000000) (hW : (P ++ (l ++ 13 :: 10 :: R)).length ≤ 1000000000) (r : List ByteArray)
    (hr : Ev (fun k => mailbagref17_Lines.l0 k (i8 (P ++ (l ++ 13 :: 10 :: R))) (acc ++ [mk l]) ((P.length + l.length + 2 : Nat) : Int) ((P.length + l.length + 2 : Nat) : Int)) r) :
    ∀ (d m : Nat), m + d = l.length + 1 → 1 ≤ P.length + m → Ev (fun k => mailbagref17_Lines.l0 k (i8 (P ++ (l ++ 13 :: 10 :: R))) acc (P.length : Int) ((P.length + m : Nat) : Int)) r := by
  have hlen : (P ++ (l ++ 13 :: 10 :: R)).length = P.length + l.length + 2 + R.length := by simp; omega
  intro d
  induction d with
  | zero =>
    intro m hm h1
    obtain rfl : m = l.length + 1 := by omega
    refine Ev.step (f := fun k => mailbagref17_Lines.l0 k (i8 (P ++ (l ++ 13 :: 10 :: R))) (acc ++ [mk l]) ((P.length + l.length + 2 : Nat) : Int) ((P.length + l.length + 2 : Nat) : Int)) (fun k => ?_) hr
    have g1 : rd (i8 (P ++ (l ++ 13 :: 10 :: R))) ((P.length + (l.length + 1) : Nat) : Int) = 10 := by
      rw [rd_i8 _ _ (by rw [hlen]; omega), get_app P (l ++ 13 :: 10 :: R) (l.length + 1) (by simp)]
      have : (l ++ 13 :: 10 :: R)[l.length + 1]'(by simp) = 10 := by rw [List.getElem_append_right (by omega)]; simp
      rw [this]; rfl
    have g0 : rd (i8 (P ++ (l ++ 13 :: 10 :: R))) ((P.length + l.length : Nat) : Int) = 13 := by
      rw [rd_i8 _ _ (by rw [hlen]; omega), get_app P (l ++ 13 :: 10 :: R) l.length (by simp)]
      have : (l ++ 13 :: 10 :: R)[l.length]'(by simp) = 13 := by simp
      rw [this]; rfl
    simp only [mailbagref17_Lines.l0]
    rw [i8_len, hlen, if_pos (by omega), if_pos (by omega), g1, if_pos rfl]
    rw [show ((P.length + (l.length + 1) : Nat) : Int) - 1 = ((P.length + l.length : Nat) : Int) from by omega, w64n _ (by omega), if_pos (by omega), if_pos (by omega), g0, if_pos rfl, if_pos (by omega), if_pos (by omega), if_pos (by omega), if_pos (by omega), if_pos (by omega), w64s _ (by omega)]
    have e1 : strOfNums (((i8 (P ++ (l ++ 13 :: 10 :: R))).take ((P.length + l.length : Nat) : Int).toNat).drop (P.length : Int).toNat) = mk l := by
      rw [Int.toNat_natCast, Int.toNat_natCast]
      have e : ((i8 (P ++ (l ++ 13 :: 10 :: R))).take (P.length + l.length)).drop P.length = i8 l := by
        unfold i8
        rw [← List.map_take, ← List.map_drop]
        congr 1
        rw [show P ++ (l ++ 13 :: 10 :: R) = (P ++ l) ++ 13 :: 10 :: R from by simp, show P.length + l.length = (P ++ l).length from by simp, List.take_left, List.drop_left]
      rw [e, strOf_i8]
    rw [e1, show P.length + (l.length + 1) + 1 = P.length + l.length + 2 from by omega]
  | succ d ih =>
    intro m hm h1
    have hm' : m ≤ l.length := by omega
    refine Ev.step (f := fun k => mailbagref17_Lines.l0 k (i8 (P ++ (l ++ 13 :: 10 :: R))) acc (P.length : Int) ((P.length + (m + 1) : Nat) : Int)) (fun k => ?_) (ih (m + 1) (by omega) (by omega))
    simp only [mailbagref17_Lines.l0]
    rw [i8_len, hlen, if_pos (by omega), if_pos (by omega)]
    have e1 : wrap64 (((P.length + m : Nat) : Int) + 1) = ((P.length + (m + 1) : Nat) : Int) := by rw [w64s _ (by omega)]; rfl
    rw [e1]
    by_cases g1 : rd (i8 (P ++ (l ++ 13 :: 10 :: R))) ((P.length + m : Nat) : Int) = 10
    · rw [if_pos g1]
      rw [show ((P.length + m : Nat) : Int) - 1 = ((P.length + m - 1 : Nat) : Int) from by omega, w64n _ (by omega), if_pos (by omega), if_pos (by omega)]
      by_cases g0 : rd (i8 (P ++ (l ++ 13 :: 10 :: R))) ((P.length + m - 1 : Nat) : Int) = 13
      · rw [if_pos g0]
        by_cases hm0 : m = 0
        · subst hm0
          rw [if_neg (by omega)]
        · exfalso
          obtain ⟨m, rfl⟩ : ∃ q, m = q + 1 := ⟨m - 1, by omega⟩
          rw [rd_i8 _ _ (by rw [hlen]; omega), get_app P (l ++ 13 :: 10 :: R) (m + 1) (by simp; omega)] at g1
          rw [show P.length + (m + 1) - 1 = P.length + m from by omega, rd_i8 _ _ (by rw [hlen]; omega), get_app P (l ++ 13 :: 10 :: R) m (by simp; omega)] at g0
          refine noNL_at l R m (by omega) h (UInt8.toNat_inj.1 ?_) (UInt8.toNat_inj.1 ?_)
          · rw [show (13 : UInt8).toNat = 13 from rfl]; omega
          · rw [show (10 : UInt8).toNat = 10 from rfl]; omega
      · rw [if_neg g0]
    · rw [if_neg g1]
theorem joinL_len_le (ls : List Bs) : ls.length * 2 ≤ (joinL ls).length := by
  induction ls with
  | nil => simp
  | cons l ls ih => rw [joinL_cons]; simp only [List.length_append, List.length_cons]; omega
theorem rlines_l0 : ∀ (ls : List Bs) (P : Bs) (acc : List ByteArray) (i : Nat), (∀ l ∈ ls, noNL l = true) → (P ++ joinL ls).length ≤ 1000000000 → acc.length + ls.length ≤ 1000000000 → (i = P.length ∨ i = P.length + 1) → 1 ≤ i →
    Ev (fun k => mailbagref17_Lines.l0 k (i8 (P ++ joinL ls)) acc (P.length : Int) (i : Int)) (acc ++ ls.map mk) := by
  intro ls
  induction ls with
  | nil =>
    intro P acc i _ hl _ hi h1
    rw [joinL_nil, List.append_nil] at hl ⊢
    rw [List.map_nil, List.append_nil]
    refine Ev.step (f := fun _ => some acc) (fun k => ?_) (Ev.now _)
    simp only [mailbagref17_Lines.l0]
    rw [i8_len, if_neg (by omega)]
  | cons l ls ih =>
    intro P acc i hn hl ha hi h1
    rw [joinL_cons] at hl ⊢
    have hn1 := hn l List.mem_cons_self
    have hlen : (P ++ (l ++ 13 :: 10 :: joinL ls)).length = P.length + l.length + 2 + (joinL ls).length := by simp; omega
    have h2 := ih (P ++ (l ++ [13, 10])) (acc ++ [mk l]) (P.length + l.length + 2) (fun x hx => hn x (List.mem_cons_of_mem _ hx)) (by simp; omega) (by simp at ha ⊢; omega) (.inl (by simp; omega)) (by omega)
    have e1 : P ++ (l ++ [13, 10]) ++ joinL ls = P ++ (l ++ 13 :: 10 :: joinL ls) := by simp
    have e2 : ((P ++ (l ++ [13, 10])).length : Int) = ((P.length + l.length + 2 : Nat) : Int) := by simp; omega
    rw [e1, e2] at h2
    rw [List.append_assoc, List.singleton_append] at h2
    rw [List.map_cons]
    have h3 := rline P l (joinL ls) hn1 acc (by simp at ha; omega) hl _ h2
    rcases hi with rfl | rfl
    · exact h3 (l.length + 1) 0 (by omega) (by omega)
    · exact h3 l.length 1 (by omega) (by omega)
theorem rlines (b : Bs) (ls : List Bs) (hb : b.length ≤ 100000000) (hw : wholeB b = joinL ls) (hn : ∀ l ∈ ls, noNL l = true) : Ev (fun k => mailbagref17_Lines.f k (i8 b)) (ls.map mk) := by
  have hl := wholeB_len b
  rw [hw] at hl
  have h2 := joinL_len_le ls
  have h := rlines_l0 ls [] [] 1 hn (by simp; omega) (by simp; omega) (.inr rfl) (by omega)
  unfold mailbagref17_Lines.f
  rw [rwhole b (by omega), hw]
  exact h
end Go.Proofs.YtfpcngoonfbphaaDoor.XH

/- Contracts of Go functions: for each function a Lean function with its answers, and the proof that the Go code comes to these. Written by wip/px.py of this session, upon the kit's printer. -/
namespace Go.Proofs.YtfpcngoonfbphaaDoor.XH
open Go.RowKit Go.Proofs.YtfpcngoonfbphaaDoorW.PrintWords Go.Proofs.YtfpcngoonfbphaaDoorW.PrintLast Go.Proofs.YtfpcngoonfbphaaDoorW.PrintMore
attribute [local go_sem] max2_int min2_int max_two min_two max_three min_three max_four min_four   -- for this text's walks alone
set_option linter.unusedVariables false
set_option linter.unusedSimpArgs false





/-! ### head_Get: function 14 -/
def head_Get.l0 : Nat → ByteArray → ByteArray → Int → List (S34) → Int → Int → Option (ByteArray × Int)
  | 0, _, _, _, _, _, _ => none
  | k + 1, x1, x6, x7, x10, x11, x12 => if x12 < x11 then (if 0 ≤ x12 then (if x12 < (x10.length : Int) then ((addr_Lower.f ((rd_T34 x10 x12).f0)).bind fun t103 => ((addr_Lower.f x1).bind fun t104 => (if t103.toList = t104.toList then (if (wrap64 (x7 + 1)) = 1 then (head_Get.l0 k x1 ((rd_T34 x10 x12).f1) (wrap64 (x7 + 1)) x10 x11 (wrap64 (x12 + 1))) else (head_Get.l0 k x1 x6 (wrap64 (x7 + 1)) x10 x11 (wrap64 (x12 + 1)))) else (head_Get.l0 k x1 x6 x7 x10 x11 (wrap64 (x12 + 1)))))) else (none)) else (none)) else (some (x6, x7))
def head_Get.f (k : Nat) (l0 : List (S34)) (a1 : ByteArray) : Option (ByteArray × Int) := head_Get.l0 k a1 (⟨#[]⟩ : ByteArray) 0 l0 (l0.length : Int) 0
theorem head_Get.mono_l : ∀ k, (∀ y0 y1 y2 y3 y4 y5, LeO (head_Get.l0 k y0 y1 y2 y3 y4 y5) (head_Get.l0 (k + 1) y0 y1 y2 y3 y4 y5))
  | 0 => fun _ _ _ _ _ _ r h => by simp [head_Get.l0] at h
  | k + 1 => by
    have ih0 := head_Get.mono_l k
    · intro y0 y1 y2 y3 y4 y5
      unfold head_Get.l0
      repeat' first
      | (with_reducible exact ih0 _ _ _ _ _ _)
      | (with_reducible exact LeO.refl _)
      | (with_reducible exact LeO.none _)
      | (with_reducible refine LeO.ite ?_ ?_)
      | (with_reducible refine LeO.bind ?_ (fun _ => ?_))
      | exact ih0 _ _ _ _ _ _
      | exact LeO.none _
      | refine LeO.ite ?_ ?_
      | refine LeO.bind ?_ (fun _ => ?_)
theorem head_Get.mono : ∀ a0 a1 k, LeO (head_Get.f k a0 a1) (head_Get.f (k + 1) a0 a1) := by
  intro a0 a1 k
  have ih0 := head_Get.mono_l k
  unfold head_Get.f
  repeat' first
      | (with_reducible exact ih0 _ _ _ _ _ _)
      | (with_reducible exact LeO.refl _)
      | (with_reducible exact LeO.none _)
      | (with_reducible refine LeO.ite ?_ ?_)
      | (with_reducible refine LeO.bind ?_ (fun _ => ?_))
      | exact ih0 _ _ _ _ _ _
      | exact LeO.none _
      | refine LeO.ite ?_ ?_
      | refine LeO.bind ?_ (fun _ => ?_)
set_option maxHeartbeats 8000000 in
set_option maxRecDepth 100000 in
theorem head_Get.calls (k : Nat) (A0 : Option Addr) (c0 : Nat) (l0 : List (S34)) (a1 : ByteArray) (r1 : ByteArray) (r2 : Int) (w : World) (hr0 : Kd.C k34 w A0 l0.length l0) (hc0 : l0.length ≤ c0) (h : head_Get.f k l0 a1 = some (r1, r2)) :
    Calls Tryd.prog 14 #[.slice A0 l0.length c0, .string a1] w fun e w' => e = .returned (.tuple #[.string r1, .int .i64 r2]) ∧ Below w.heap.size w w' := by
  have hu34 := Tryd.underlying34
  have HR0 := Aside0.mk hr0
  have HC0 := Aside0.mk hc0
  clear hr0 hc0
  have HB := Aside0.mk (Below.refl w.heap.size w)
  have H : (head_Get.l0 k a1 (⟨#[]⟩ : ByteArray) 0 l0 (l0.length : Int) 0) = some (r1, r2) := h
  clear h
  have H' := Aside0.mk H
  clear H
  go_enter Tryd.func14, Tryd.ntmps14
  go_wp2
  go_loopg [6, 7, 12] k (fun kq v6 v7 v12 w' => ∃ (x6_1 : ByteArray) (x7_1 : Int) (x12_1 : Int), v6 = .string x6_1 ∧ v7 = .int .i64 x7_1 ∧ v12 = .int .i64 x12_1 ∧ Aside0 (head_Get.l0 kq a1 x6_1 x7_1 l0 (l0.length : Int) x12_1 = some (r1, r2)) ∧ Aside0 (kq ≤ k) ∧ Aside0 (Below w.heap.size w w'))
  case atStart => exact ⟨((⟨#[]⟩ : ByteArray)), (0), (0), (by first | rfl | (simp; done) | (simp [*]; done)), (by first | rfl | (simp; done) | (simp [*]; done)), (by first | rfl | (simp; done) | (simp [*]; done)), H', ⟨Nat.le_refl _⟩, ⟨by repeat (first | (with_reducible first | exact HB.out | apply below_alloc | apply pw_below_drewN | apply below_drew1) | exact HB.out)⟩⟩
  case round =>
    clear H'
    try clear c1
    try clear p2
    obtain ⟨x6_1, x7_1, x12_1, rfl, rfl, rfl, HA, HK1, HB⟩ := hrel
    cases gk with
    | zero => exact absurd HA.out (by simp [head_Get.l0])
    | succ k1 =>
      have H := HA.out
      clear HA
      simp only [head_Get.l0] at H
      by_cases c3 : x12_1 < (l0.length : Int)
      · rw [if_pos c3] at H
        have c3b0 : decide (x12_1 < (l0.length : Int)) = true := decide_eq_true c3
        clear c3
        by_cases c4 : 0 ≤ x12_1
        · rw [if_pos c4] at H
          have c4b0 : decide (0 ≤ x12_1) = true := decide_eq_true c4
          clear c4
          by_cases c5 : x12_1 < (l0.length : Int)
          · rw [if_pos c5] at H
            have c5b0 : decide (x12_1 < (l0.length : Int)) = true := decide_eq_true c5
            clear c5
            replace H := Option.bind_eq_some_iff.mp H
            obtain ⟨t103, A60, H⟩ := H
            replace H : ((addr_Lower.f a1).bind fun t104 => (if t103.toList = t104.toList then (if (wrap64 (x7_1 + 1)) = 1 then (head_Get.l0 k1 a1 ((rd_T34 l0 x12_1).f1) (wrap64 (x7_1 + 1)) l0 (l0.length : Int) (wrap64 (x12_1 + 1))) else (head_Get.l0 k1 a1 x6_1 (wrap64 (x7_1 + 1)) l0 (l0.length : Int) (wrap64 (x12_1 + 1)))) else (head_Get.l0 k1 a1 x6_1 x7_1 l0 (l0.length : Int) (wrap64 (x12_1 + 1))))) = some (r1, r2) := H
            have A6 := Aside0.mk A60
            clear A60
            replace H := Option.bind_eq_some_iff.mp H
            obtain ⟨t104, A70, H⟩ := H
            replace H : (if t103.toList = t104.toList then (if (wrap64 (x7_1 + 1)) = 1 then (head_Get.l0 k1 a1 ((rd_T34 l0 x12_1).f1) (wrap64 (x7_1 + 1)) l0 (l0.length : Int) (wrap64 (x12_1 + 1))) else (head_Get.l0 k1 a1 x6_1 (wrap64 (x7_1 + 1)) l0 (l0.length : Int) (wrap64 (x12_1 + 1)))) else (head_Get.l0 k1 a1 x6_1 x7_1 l0 (l0.length : Int) (wrap64 (x12_1 + 1)))) = some (r1, r2) := H
            have A7 := Aside0.mk A70
            clear A70
            by_cases c8 : t103.toList = t104.toList
            · rw [if_pos c8] at H
              have c8b0 : (t103.toList == t104.toList) = true := beq_iff_eq.mpr c8
              have c8b1 : (t103.toList != t104.toList) = false := bne_eq_false_iff_eq.mpr c8
              clear c8
              by_cases c9 : (wrap64 (x7_1 + 1)) = 1
              · rw [if_pos c9] at H
                have c9b0 : ((wrap64 (x7_1 + 1)) == 1) = true := beq_iff_eq.mpr c9
                have c9b1 : ((wrap64 (x7_1 + 1)) != 1) = false := bne_eq_false_iff_eq.mpr c9
                clear c9
                have H' := Aside0.mk H
                clear H
                have p101 : 0 ≤ (x12_1 : Int) := of_decide_eq_true (by first | (with_reducible assumption) | assumption)
                have q101 : x12_1 < (l0.length : Int) := of_decide_eq_true (by first | (with_reducible assumption) | assumption)
                obtain ⟨ad101, e101, hx101_0, hx101_1⟩ := at_T34 HR0.out x12_1 p101 q101
                cases e101
                replace hx101_0 := (HB.out.cell (World.block_lt_of_cell? w _ hx101_0)).trans hx101_0
                replace hx101_1 := (HB.out.cell (World.block_lt_of_cell? w _ hx101_1)).trans hx101_1
                replace p101 := eq_true p101
                replace q101 := eq_true q101
                go_wp2_with (first | ((with_reducible refine gate_dst (N := 9) rfl ?_); refine box_event ?hg (N := 9) ?hd (cs := #[.string (⟨#[]⟩ : ByteArray), .string (⟨#[]⟩ : ByteArray)]) (t := 34) ?hr ?_; (case hd => rfl); (case hg => rfl); (case hr => first | (go_simp; done) | (go_simp; rfl)); intro gb102 hg w10 hbox hb; have n0_ := Aside0.mk (below_step (by repeat (first | (with_reducible first | exact HB.out | apply below_alloc | apply pw_below_drewN | apply below_drew1) | exact HB.out)) hb); have n1_ := Aside0.mk (hbox); have n2_ := Aside0.mk ((by rw [hg]; exact (below_size (by repeat (first | (with_reducible first | exact HB.out | apply below_alloc | apply pw_below_drewN | apply below_drew1) | exact HB.out))) : w.heap.size ≤ gb102)); have n3_ := Aside0.mk ((by rw [hg]; exact (below_size (by repeat (first | (with_reducible first | exact HB.out | apply below_alloc | apply pw_below_drewN | apply below_drew1) | exact HB.out))) : w.heap.size ≤ gb102)); clear HB; have HB := n0_; have BK102 := n1_; have GW102 := n2_; have GE102 := n3_; clear n0_ n1_ n2_ n3_; clear hb hbox hg; have hcz11_0 : w10.cell? ⟨gb102, 0, none⟩ = some (.string (⟨#[]⟩ : ByteArray)) := (blk_cell BK102.out 0).trans rfl; have hcz11_1 : w10.cell? ⟨gb102, 1, none⟩ = some (.string (⟨#[]⟩ : ByteArray)) := (blk_cell BK102.out 1).trans rfl; have hfz11_0 := blk_frozen BK102.out 0; have hfz11_1 := blk_frozen BK102.out 1) | ((with_reducible refine gate_callee (f := 46) rfl ?_); refine goesL_ (some 18) rfl rfl Tryd.func46 (by kernel_rfl) rfl #[.string ((rd_T34 l0 x12_1).f0)] rfl (by (try simp only [List.map_toArray, List.map_cons, List.map_nil]); first | done | rfl | (simp only [List.length_drop, List.length_take]; rfl)) ?_; (with_reducible refine (addr_Lower.calls ((rd_T34 l0 x12_1).f0) t103 _ A6.out).mono ?_); rintro e w12 ⟨rfl, hb⟩; refine ⟨_, rfl, ?_⟩; have n0_ := Aside0.mk (blk_below (g := gb102) (o := .cells #[.string ((rd_T34 l0 x12_1).f0), .string ((rd_T34 l0 x12_1).f1)] 34 (0, 0)) (by (with_reducible repeat (first | refine blk_drewN ?_ _ | refine blk_drew ?_ | refine blk_alloc ?_ _)); refine blk_put (cs := #[.string ((rd_T34 l0 x12_1).f0), .string (⟨#[]⟩ : ByteArray)]) ?_ 1 _ rfl; (with_reducible repeat (first | refine blk_drewN ?_ _ | refine blk_drew ?_ | refine blk_alloc ?_ _)); refine blk_put (cs := #[.string (⟨#[]⟩ : ByteArray), .string (⟨#[]⟩ : ByteArray)]) ?_ 0 _ rfl; (with_reducible repeat (first | refine blk_drewN ?_ _ | refine blk_drew ?_ | refine blk_alloc ?_ _)); exact BK102.out) hb); have n1_ := Aside0.mk (below_step (by repeat (first | (with_reducible first | exact HB.out | apply below_alloc | apply pw_below_drewN | apply below_drew1 | refine below_set ?_ GE102.out) | exact HB.out)) hb); clear BK102; clear HB; have BK102 := n0_; have HB := n1_; clear n0_ n1_; (try clear hb); (try clear hb2); (try clear hk); (try clear hi)) | ((with_reducible refine gate_callee (f := 46) rfl ?_); refine goesL_ (some 20) rfl rfl Tryd.func46 (by kernel_rfl) rfl #[.string a1] rfl (by (try simp only [List.map_toArray, List.map_cons, List.map_nil]); first | done | rfl | (simp only [List.length_drop, List.length_take]; rfl)) ?_; (with_reducible refine (addr_Lower.calls a1 t104 _ A7.out).mono ?_); rintro e w13 ⟨rfl, hb⟩; refine ⟨_, rfl, ?_⟩; have n0_ := Aside0.mk (blk_below (g := gb102) (o := .cells #[.string ((rd_T34 l0 x12_1).f0), .string ((rd_T34 l0 x12_1).f1)] 34 (0, 0)) (by (with_reducible repeat (first | refine blk_drewN ?_ _ | refine blk_drew ?_ | refine blk_alloc ?_ _)); exact BK102.out) hb); have n1_ := Aside0.mk (below_step (by repeat (first | (with_reducible first | exact HB.out | apply below_alloc | apply pw_below_drewN | apply below_drew1 | refine below_set ?_ GE102.out) | exact HB.out)) hb); clear BK102; clear HB; have BK102 := n0_; have HB := n1_; clear n0_ n1_; (try clear hb); (try clear hb2); (try clear hk); (try clear hi); have hcz14_0 : w13.cell? ⟨gb102, 0, none⟩ = some (.string ((rd_T34 l0 x12_1).f0)) := (blk_cell BK102.out 0).trans rfl; have hcz14_1 : w13.cell? ⟨gb102, 1, none⟩ = some (.string ((rd_T34 l0 x12_1).f1)) := (blk_cell BK102.out 1).trans rfl; have hfz14_0 := blk_frozen BK102.out 0; have hfz14_1 := blk_frozen BK102.out 1))
                go_roundg k1
                case measure => have := HK1.out; omega
                case rel => exact ⟨((rd_T34 l0 x12_1).f1), (wrap64 (x7_1 + 1)), (wrap64 (x12_1 + 1)), (by first | rfl | (simp; done) | (simp [*]; done)), (by first | rfl | (simp; done) | (simp [*]; done)), (by first | rfl | (simp; done) | (simp [*]; done)), H', ⟨by have := HK1.out; omega⟩, ⟨by repeat (first | (with_reducible first | exact HB.out | apply below_alloc | apply pw_below_drewN | apply below_drew1 | refine below_set ?_ GE102.out) | exact HB.out)⟩⟩
              · rw [if_neg c9] at H
                have c9b0 : ((wrap64 (x7_1 + 1)) == 1) = false := beq_eq_false_iff_ne.mpr c9
                have c9b1 : ((wrap64 (x7_1 + 1)) != 1) = true := bne_iff_ne.mpr c9
                have H' := Aside0.mk H
                clear H
                have p101 : 0 ≤ (x12_1 : Int) := of_decide_eq_true (by first | (with_reducible assumption) | assumption)
                have q101 : x12_1 < (l0.length : Int) := of_decide_eq_true (by first | (with_reducible assumption) | assumption)
                obtain ⟨ad101, e101, hx101_0, hx101_1⟩ := at_T34 HR0.out x12_1 p101 q101
                cases e101
                replace hx101_0 := (HB.out.cell (World.block_lt_of_cell? w _ hx101_0)).trans hx101_0
                replace hx101_1 := (HB.out.cell (World.block_lt_of_cell? w _ hx101_1)).trans hx101_1
                replace p101 := eq_true p101
                replace q101 := eq_true q101
                go_wp2_with (first | ((with_reducible refine gate_dst (N := 9) rfl ?_); refine box_event ?hg (N := 9) ?hd (cs := #[.string (⟨#[]⟩ : ByteArray), .string (⟨#[]⟩ : ByteArray)]) (t := 34) ?hr ?_; (case hd => rfl); (case hg => rfl); (case hr => first | (go_simp; done) | (go_simp; rfl)); intro gb102 hg w15 hbox hb; have n0_ := Aside0.mk (below_step (by repeat (first | (with_reducible first | exact HB.out | apply below_alloc | apply pw_below_drewN | apply below_drew1) | exact HB.out)) hb); have n1_ := Aside0.mk (hbox); have n2_ := Aside0.mk ((by rw [hg]; exact (below_size (by repeat (first | (with_reducible first | exact HB.out | apply below_alloc | apply pw_below_drewN | apply below_drew1) | exact HB.out))) : w.heap.size ≤ gb102)); have n3_ := Aside0.mk ((by rw [hg]; exact (below_size (by repeat (first | (with_reducible first | exact HB.out | apply below_alloc | apply pw_below_drewN | apply below_drew1) | exact HB.out))) : w.heap.size ≤ gb102)); clear HB; have HB := n0_; have BK102 := n1_; have GW102 := n2_; have GE102 := n3_; clear n0_ n1_ n2_ n3_; clear hb hbox hg; have hcz16_0 : w15.cell? ⟨gb102, 0, none⟩ = some (.string (⟨#[]⟩ : ByteArray)) := (blk_cell BK102.out 0).trans rfl; have hcz16_1 : w15.cell? ⟨gb102, 1, none⟩ = some (.string (⟨#[]⟩ : ByteArray)) := (blk_cell BK102.out 1).trans rfl; have hfz16_0 := blk_frozen BK102.out 0; have hfz16_1 := blk_frozen BK102.out 1) | ((with_reducible refine gate_callee (f := 46) rfl ?_); refine goesL_ (some 18) rfl rfl Tryd.func46 (by kernel_rfl) rfl #[.string ((rd_T34 l0 x12_1).f0)] rfl (by (try simp only [List.map_toArray, List.map_cons, List.map_nil]); first | done | rfl | (simp only [List.length_drop, List.length_take]; rfl)) ?_; (with_reducible refine (addr_Lower.calls ((rd_T34 l0 x12_1).f0) t103 _ A6.out).mono ?_); rintro e w17 ⟨rfl, hb⟩; refine ⟨_, rfl, ?_⟩; have n0_ := Aside0.mk (blk_below (g := gb102) (o := .cells #[.string ((rd_T34 l0 x12_1).f0), .string ((rd_T34 l0 x12_1).f1)] 34 (0, 0)) (by (with_reducible repeat (first | refine blk_drewN ?_ _ | refine blk_drew ?_ | refine blk_alloc ?_ _)); refine blk_put (cs := #[.string ((rd_T34 l0 x12_1).f0), .string (⟨#[]⟩ : ByteArray)]) ?_ 1 _ rfl; (with_reducible repeat (first | refine blk_drewN ?_ _ | refine blk_drew ?_ | refine blk_alloc ?_ _)); refine blk_put (cs := #[.string (⟨#[]⟩ : ByteArray), .string (⟨#[]⟩ : ByteArray)]) ?_ 0 _ rfl; (with_reducible repeat (first | refine blk_drewN ?_ _ | refine blk_drew ?_ | refine blk_alloc ?_ _)); exact BK102.out) hb); have n1_ := Aside0.mk (below_step (by repeat (first | (with_reducible first | exact HB.out | apply below_alloc | apply pw_below_drewN | apply below_drew1 | refine below_set ?_ GE102.out) | exact HB.out)) hb); clear BK102; clear HB; have BK102 := n0_; have HB := n1_; clear n0_ n1_; (try clear hb); (try clear hb2); (try clear hk); (try clear hi)) | ((with_reducible refine gate_callee (f := 46) rfl ?_); refine goesL_ (some 20) rfl rfl Tryd.func46 (by kernel_rfl) rfl #[.string a1] rfl (by (try simp only [List.map_toArray, List.map_cons, List.map_nil]); first | done | rfl | (simp only [List.length_drop, List.length_take]; rfl)) ?_; (with_reducible refine (addr_Lower.calls a1 t104 _ A7.out).mono ?_); rintro e w18 ⟨rfl, hb⟩; refine ⟨_, rfl, ?_⟩; have n0_ := Aside0.mk (blk_below (g := gb102) (o := .cells #[.string ((rd_T34 l0 x12_1).f0), .string ((rd_T34 l0 x12_1).f1)] 34 (0, 0)) (by (with_reducible repeat (first | refine blk_drewN ?_ _ | refine blk_drew ?_ | refine blk_alloc ?_ _)); exact BK102.out) hb); have n1_ := Aside0.mk (below_step (by repeat (first | (with_reducible first | exact HB.out | apply below_alloc | apply pw_below_drewN | apply below_drew1 | refine below_set ?_ GE102.out) | exact HB.out)) hb); clear BK102; clear HB; have BK102 := n0_; have HB := n1_; clear n0_ n1_; (try clear hb); (try clear hb2); (try clear hk); (try clear hi)))
                go_roundg k1
                case measure => have := HK1.out; omega
                case rel => exact ⟨(x6_1), (wrap64 (x7_1 + 1)), (wrap64 (x12_1 + 1)), (by first | rfl | (simp; done) | (simp [*]; done)), (by first | rfl | (simp; done) | (simp [*]; done)), (by first | rfl | (simp; done) | (simp [*]; done)), H', ⟨by have := HK1.out; omega⟩, ⟨by repeat (first | (with_reducible first | exact HB.out | apply below_alloc | apply pw_below_drewN | apply below_drew1 | refine below_set ?_ GE102.out) | exact HB.out)⟩⟩
            · rw [if_neg c8] at H
              have c8b0 : (t103.toList == t104.toList) = false := beq_eq_false_iff_ne.mpr c8
              have c8b1 : (t103.toList != t104.toList) = true := bne_iff_ne.mpr c8
              have H' := Aside0.mk H
              clear H
              have p101 : 0 ≤ (x12_1 : Int) := of_decide_eq_true (by first | (with_reducible assumption) | assumption)
              have q101 : x12_1 < (l0.length : Int) := of_decide_eq_true (by first | (with_reducible assumption) | assumption)
              obtain ⟨ad101, e101, hx101_0, hx101_1⟩ := at_T34 HR0.out x12_1 p101 q101
              cases e101
              replace hx101_0 := (HB.out.cell (World.block_lt_of_cell? w _ hx101_0)).trans hx101_0
              replace hx101_1 := (HB.out.cell (World.block_lt_of_cell? w _ hx101_1)).trans hx101_1
              replace p101 := eq_true p101
              replace q101 := eq_true q101
              go_wp2_with (first | ((with_reducible refine gate_dst (N := 9) rfl ?_); refine box_event ?hg (N := 9) ?hd (cs := #[.string (⟨#[]⟩ : ByteArray), .string (⟨#[]⟩ : ByteArray)]) (t := 34) ?hr ?_; (case hd => rfl); (case hg => rfl); (case hr => first | (go_simp; done) | (go_simp; rfl)); intro gb102 hg w19 hbox hb; have n0_ := Aside0.mk (below_step (by repeat (first | (with_reducible first | exact HB.out | apply below_alloc | apply pw_below_drewN | apply below_drew1) | exact HB.out)) hb); have n1_ := Aside0.mk (hbox); have n2_ := Aside0.mk ((by rw [hg]; exact (below_size (by repeat (first | (with_reducible first | exact HB.out | apply below_alloc | apply pw_below_drewN | apply below_drew1) | exact HB.out))) : w.heap.size ≤ gb102)); have n3_ := Aside0.mk ((by rw [hg]; exact (below_size (by repeat (first | (with_reducible first | exact HB.out | apply below_alloc | apply pw_below_drewN | apply below_drew1) | exact HB.out))) : w.heap.size ≤ gb102)); clear HB; have HB := n0_; have BK102 := n1_; have GW102 := n2_; have GE102 := n3_; clear n0_ n1_ n2_ n3_; clear hb hbox hg; have hcz20_0 : w19.cell? ⟨gb102, 0, none⟩ = some (.string (⟨#[]⟩ : ByteArray)) := (blk_cell BK102.out 0).trans rfl; have hcz20_1 : w19.cell? ⟨gb102, 1, none⟩ = some (.string (⟨#[]⟩ : ByteArray)) := (blk_cell BK102.out 1).trans rfl; have hfz20_0 := blk_frozen BK102.out 0; have hfz20_1 := blk_frozen BK102.out 1) | ((with_reducible refine gate_callee (f := 46) rfl ?_); refine goesL_ (some 18) rfl rfl Tryd.func46 (by kernel_rfl) rfl #[.string ((rd_T34 l0 x12_1).f0)] rfl (by (try simp only [List.map_toArray, List.map_cons, List.map_nil]); first | done | rfl | (simp only [List.length_drop, List.length_take]; rfl)) ?_; (with_reducible refine (addr_Lower.calls ((rd_T34 l0 x12_1).f0) t103 _ A6.out).mono ?_); rintro e w21 ⟨rfl, hb⟩; refine ⟨_, rfl, ?_⟩; have n0_ := Aside0.mk (blk_below (g := gb102) (o := .cells #[.string ((rd_T34 l0 x12_1).f0), .string ((rd_T34 l0 x12_1).f1)] 34 (0, 0)) (by (with_reducible repeat (first | refine blk_drewN ?_ _ | refine blk_drew ?_ | refine blk_alloc ?_ _)); refine blk_put (cs := #[.string ((rd_T34 l0 x12_1).f0), .string (⟨#[]⟩ : ByteArray)]) ?_ 1 _ rfl; (with_reducible repeat (first | refine blk_drewN ?_ _ | refine blk_drew ?_ | refine blk_alloc ?_ _)); refine blk_put (cs := #[.string (⟨#[]⟩ : ByteArray), .string (⟨#[]⟩ : ByteArray)]) ?_ 0 _ rfl; (with_reducible repeat (first | refine blk_drewN ?_ _ | refine blk_drew ?_ | refine blk_alloc ?_ _)); exact BK102.out) hb); have n1_ := Aside0.mk (below_step (by repeat (first | (with_reducible first | exact HB.out | apply below_alloc | apply pw_below_drewN | apply below_drew1 | refine below_set ?_ GE102.out) | exact HB.out)) hb); clear BK102; clear HB; have BK102 := n0_; have HB := n1_; clear n0_ n1_; (try clear hb); (try clear hb2); (try clear hk); (try clear hi)) | ((with_reducible refine gate_callee (f := 46) rfl ?_); refine goesL_ (some 20) rfl rfl Tryd.func46 (by kernel_rfl) rfl #[.string a1] rfl (by (try simp only [List.map_toArray, List.map_cons, List.map_nil]); first | done | rfl | (simp only [List.length_drop, List.length_take]; rfl)) ?_; (with_reducible refine (addr_Lower.calls a1 t104 _ A7.out).mono ?_); rintro e w22 ⟨rfl, hb⟩; refine ⟨_, rfl, ?_⟩; have n0_ := Aside0.mk (blk_below (g := gb102) (o := .cells #[.string ((rd_T34 l0 x12_1).f0), .string ((rd_T34 l0 x12_1).f1)] 34 (0, 0)) (by (with_reducible repeat (first | refine blk_drewN ?_ _ | refine blk_drew ?_ | refine blk_alloc ?_ _)); exact BK102.out) hb); have n1_ := Aside0.mk (below_step (by repeat (first | (with_reducible first | exact HB.out | apply below_alloc | apply pw_below_drewN | apply below_drew1 | refine below_set ?_ GE102.out) | exact HB.out)) hb); clear BK102; clear HB; have BK102 := n0_; have HB := n1_; clear n0_ n1_; (try clear hb); (try clear hb2); (try clear hk); (try clear hi)))
              go_roundg k1
              case measure => have := HK1.out; omega
              case rel => exact ⟨(x6_1), (x7_1), (wrap64 (x12_1 + 1)), (by first | rfl | (simp; done) | (simp [*]; done)), (by first | rfl | (simp; done) | (simp [*]; done)), (by first | rfl | (simp; done) | (simp [*]; done)), H', ⟨by have := HK1.out; omega⟩, ⟨by repeat (first | (with_reducible first | exact HB.out | apply below_alloc | apply pw_below_drewN | apply below_drew1 | refine below_set ?_ GE102.out) | exact HB.out)⟩⟩
          · rw [if_neg c5] at H
            exact absurd H (by simp)
        · rw [if_neg c4] at H
          exact absurd H (by simp)
      · rw [if_neg c3] at H
        have c3b0 : decide (x12_1 < (l0.length : Int)) = false := decide_eq_false c3
        clear c3
        simp only [Option.some.injEq, Prod.mk.injEq] at H
        obtain ⟨rfl, rfl⟩ := H
        go_wp2
        go_ret2
        exact ⟨by first | rfl | (simp [errW_none, errW_some] <;> rfl) | (simp [*, errW_none, errW_some] <;> rfl), by repeat (first | (with_reducible first | exact HB.out | apply below_alloc | apply pw_below_drewN | apply below_drew1) | exact HB.out)⟩

end Go.Proofs.YtfpcngoonfbphaaDoor.XH

/- Contracts of Go functions: for each function a Lean function with its answers, and the proof that the Go code comes to these. Written by wip/px.py of this session, upon the kit's printer. -/
namespace Go.Proofs.YtfpcngoonfbphaaDoor.XH
open Go.RowKit Go.Proofs.YtfpcngoonfbphaaDoorW.PrintWords Go.Proofs.YtfpcngoonfbphaaDoorW.PrintLast Go.Proofs.YtfpcngoonfbphaaDoorW.PrintMore
attribute [local go_sem] max2_int min2_int max_two min_two max_three min_three max_four min_four   -- for this text's walks alone
set_option linter.unusedVariables false
set_option linter.unusedSimpArgs false

theorem eqA68 (d : Nat) (w : World) (x0 y0 : ByteArray) (x1 y1 : ByteArray) :
    (Op.equalIn (d + 2) 68 (.agg #[.string x0, .string x1]) (.agg #[.string y0, .string y1])).run Tryd.prog w = .ok (x0.toList == y0.toList && (x1.toList == y1.toList)) w := by
  refine eqA_of Tryd.underlying68 (by kernel_rfl) ?_
  refine eqf_cons (by rfl) (by go_simp; rfl) (by go_simp; rfl) (by go_simp) ?_
  exact eqf_last (by rfl) (by go_simp; rfl) (by go_simp; rfl) (by go_simp)
end Go.Proofs.YtfpcngoonfbphaaDoor.XH

/- Contracts of Go functions: for each function a Lean function with its answers, and the proof that the Go code comes to these. Written by wip/px.py of this session, upon the kit's printer. -/
namespace Go.Proofs.YtfpcngoonfbphaaDoor.XH
open Go.RowKit Go.Proofs.YtfpcngoonfbphaaDoorW.PrintWords Go.Proofs.YtfpcngoonfbphaaDoorW.PrintLast Go.Proofs.YtfpcngoonfbphaaDoorW.PrintMore
attribute [local go_sem] max2_int min2_int max_two min_two max_three min_three max_four min_four   -- for this text's walks alone
set_option linter.unusedVariables false
set_option linter.unusedSimpArgs false

attribute [local go_sem high] eqA68
/-! ### mailbagref18_Split: function 15 -/
mutual
def mailbagref18_Split.l0 : Nat → List Int → List ByteArray → List (S68) → Int → Int → Option ((List (S68)) × List Int)
  | 0, _, _, _, _, _ => none
  | k + 1, x4, x5, x6, x7, x8 => if x8 < (x5.length : Int) then (if 0 ≤ x8 then (if (rdOf ByteArray.empty x5 x8).toList = ([] : List UInt8) then (mailbagref18_Split.j1 k x4 x5 x6 x7 x8 (rdOf ByteArray.empty x5 x8) false) else (if 0 < ((rdOf ByteArray.empty x5 x8).size : Int) then (if (bt (rdOf ByteArray.empty x5 x8) 0) = 32 then (mailbagref18_Split.j1 k x4 x5 x6 x7 x8 (rdOf ByteArray.empty x5 x8) (decide ((x6.length : Int) > 0))) else (if (bt (rdOf ByteArray.empty x5 x8) 0) = 9 then (mailbagref18_Split.j1 k x4 x5 x6 x7 x8 (rdOf ByteArray.empty x5 x8) (decide ((x6.length : Int) > 0))) else (mailbagref18_Split.j1 k x4 x5 x6 x7 x8 (rdOf ByteArray.empty x5 x8) false))) else (none))) else (none)) else (some (x6, ([] : List Int)))
def mailbagref18_Split.j1 : Nat → List Int → List ByteArray → List (S68) → Int → Int → ByteArray → Bool → Option ((List (S68)) × List Int)
  | 0, _, _, _, _, _, _, _ => none
  | k + 1, x4, x5, x6, x7, x8, x9, x42 => if x42 = true then (if 0 ≤ (wrap64 ((x6.length : Int) - 1)) then (if (wrap64 ((x6.length : Int) - 1)) < (x6.length : Int) then (if ((rd_T68 x6 (wrap64 ((x6.length : Int) - 1))).f1).size + 2 ≤ 9223372036854775807 then (if (((rd_T68 x6 (wrap64 ((x6.length : Int) - 1))).f1) ++ (⟨#[13, 10]⟩ : ByteArray)).size + x9.size ≤ 9223372036854775807 then (mailbagref18_Split.l0 k x4 x5 (x6.set ((wrap64 ((x6.length : Int) - 1)) : Int).toNat (⟨(rd_T68 x6 (wrap64 ((x6.length : Int) - 1))).f0, (((rd_T68 x6 (wrap64 ((x6.length : Int) - 1))).f1) ++ (⟨#[13, 10]⟩ : ByteArray)) ++ x9⟩ : S68)) (wrap64 ((wrap64 (x7 + (x9.size : Int))) + 2)) (wrap64 (x8 + 1))) else (none)) else (none)) else (none)) else (none)) else ((mailbagref18_field.f k x9).bind fun bt181 => (if bt181.2.2 = true then (if x6.length < 4398046511104 then (mailbagref18_Split.l0 k x4 x5 (x6 ++ [(⟨bt181.1, bt181.2.1⟩ : S68)]) (wrap64 ((wrap64 (x7 + (x9.size : Int))) + 2)) (wrap64 (x8 + 1))) else (none)) else (if x9.toList = ([] : List UInt8) then (if 0 ≤ (wrap64 (x7 + 2)) then (if (wrap64 (x7 + 2)) ≤ (x4.length : Int) then (some (x6, (x4.drop ((wrap64 (x7 + 2)) : Int).toNat))) else (none)) else (none)) else (if 0 ≤ x7 then (if x7 ≤ (x4.length : Int) then (some (x6, (x4.drop (x7 : Int).toNat))) else (none)) else (none)))))
end
def mailbagref18_Split.f (k : Nat) (l0 : List Int) : Option ((List (S68)) × List Int) := (mailbagref17_Whole.f l0).bind fun t172 => ((mailbagref17_Lines.f k l0).bind fun t175 => (mailbagref18_Split.l0 k t172 t175 ([] : List (S68)) 0 0))
theorem mailbagref18_Split.mono_l : ∀ k, (∀ y0 y1 y2 y3 y4, LeO (mailbagref18_Split.l0 k y0 y1 y2 y3 y4) (mailbagref18_Split.l0 (k + 1) y0 y1 y2 y3 y4)) ∧ (∀ y0 y1 y2 y3 y4 y5 y6, LeO (mailbagref18_Split.j1 k y0 y1 y2 y3 y4 y5 y6) (mailbagref18_Split.j1 (k + 1) y0 y1 y2 y3 y4 y5 y6))
  | 0 => ⟨fun _ _ _ _ _ r h => by simp [mailbagref18_Split.l0] at h, fun _ _ _ _ _ _ _ r h => by simp [mailbagref18_Split.j1] at h⟩
  | k + 1 => by
    obtain ⟨ih0, ih1⟩ := mailbagref18_Split.mono_l k
    refine ⟨?_, ?_⟩
    · intro y0 y1 y2 y3 y4
      unfold mailbagref18_Split.l0
      repeat' first
      | (with_reducible exact ih0 _ _ _ _ _)
      | (with_reducible exact ih1 _ _ _ _ _ _ _)
      | (with_reducible exact mailbagref17_Lines.mono _ _)
      | (with_reducible exact mailbagref18_field.mono _ _)
      | (with_reducible exact LeO.refl _)
      | (with_reducible exact LeO.none _)
      | (with_reducible refine LeO.ite ?_ ?_)
      | (with_reducible refine LeO.bind ?_ (fun _ => ?_))
      | exact ih0 _ _ _ _ _
      | exact ih1 _ _ _ _ _ _ _
      | exact mailbagref17_Lines.mono _ _
      | exact mailbagref18_field.mono _ _
      | exact LeO.none _
      | refine LeO.ite ?_ ?_
      | refine LeO.bind ?_ (fun _ => ?_)
    · intro y0 y1 y2 y3 y4 y5 y6
      unfold mailbagref18_Split.j1
      repeat' first
      | (with_reducible exact ih0 _ _ _ _ _)
      | (with_reducible exact ih1 _ _ _ _ _ _ _)
      | (with_reducible exact mailbagref17_Lines.mono _ _)
      | (with_reducible exact mailbagref18_field.mono _ _)
      | (with_reducible exact LeO.refl _)
      | (with_reducible exact LeO.none _)
      | (with_reducible refine LeO.ite ?_ ?_)
      | (with_reducible refine LeO.bind ?_ (fun _ => ?_))
      | exact ih0 _ _ _ _ _
      | exact ih1 _ _ _ _ _ _ _
      | exact mailbagref17_Lines.mono _ _
      | exact mailbagref18_field.mono _ _
      | exact LeO.none _
      | refine LeO.ite ?_ ?_
      | refine LeO.bind ?_ (fun _ => ?_)
theorem mailbagref18_Split.mono : ∀ a0 k, LeO (mailbagref18_Split.f k a0) (mailbagref18_Split.f (k + 1) a0) := by
  intro a0 k
  obtain ⟨ih0, ih1⟩ := mailbagref18_Split.mono_l k
  unfold mailbagref18_Split.f
  repeat' first
      | (with_reducible exact ih0 _ _ _ _ _)
      | (with_reducible exact ih1 _ _ _ _ _ _ _)
      | (with_reducible exact mailbagref17_Lines.mono _ _)
      | (with_reducible exact mailbagref18_field.mono _ _)
      | (with_reducible exact LeO.refl _)
      | (with_reducible exact LeO.none _)
      | (with_reducible refine LeO.ite ?_ ?_)
      | (with_reducible refine LeO.bind ?_ (fun _ => ?_))
      | exact ih0 _ _ _ _ _
      | exact ih1 _ _ _ _ _ _ _
      | exact mailbagref17_Lines.mono _ _
      | exact mailbagref18_field.mono _ _
      | exact LeO.none _
      | refine LeO.ite ?_ ?_
      | refine LeO.bind ?_ (fun _ => ?_)
set_option maxHeartbeats 8000000 in
set_option maxRecDepth 100000 in
theorem mailbagref18_Split.calls (k : Nat) (A0 : Option Addr) (c0 : Nat) (l0 : List Int) (r1 : List (S68)) (r2 : List Int) (w : World) (hr0 : Kd.C (Kd.int .u8) w A0 l0.length l0) (hc0 : l0.length ≤ c0) (h : mailbagref18_Split.f k l0 = some (r1, r2)) :
    Calls Tryd.prog 15 #[.slice A0 l0.length c0] w fun e w' => ∃ v0_ v1_ : Value, e = .returned (.tuple #[v0_, v1_]) ∧ Kd.R k68 68 w' w.heap.size (fun _ => True) v0_ r1 ∧ Kd.Q (Kd.int .u8) 5 w' w.heap.size (fun _ => True) v1_ r2 ∧ Below w.heap.size w w' := by
  have hu68 := Tryd.underlying68
  have HR0 := Aside0.mk hr0
  have HC0 := Aside0.mk hc0
  clear hr0 hc0
  have HB := Aside0.mk (Below.refl w.heap.size w)
  have H : ((mailbagref17_Whole.f l0).bind fun t172 => ((mailbagref17_Lines.f k l0).bind fun t175 => (mailbagref18_Split.l0 k t172 t175 ([] : List (S68)) 0 0))) = some (r1, r2) := h
  clear h
  replace H := Option.bind_eq_some_iff.mp H
  obtain ⟨t172, A20, H⟩ := H
  replace H : ((mailbagref17_Lines.f k l0).bind fun t175 => (mailbagref18_Split.l0 k t172 t175 ([] : List (S68)) 0 0)) = some (r1, r2) := H
  have A2 := Aside0.mk A20
  clear A20
  replace H := Option.bind_eq_some_iff.mp H
  obtain ⟨t175, A30, H⟩ := H
  replace H : (mailbagref18_Split.l0 k t172 t175 ([] : List (S68)) 0 0) = some (r1, r2) := H
  have A3 := Aside0.mk A30
  clear A30
  have H' := Aside0.mk H
  clear H
  go_enter Tryd.func15, Tryd.ntmps15
  go_wp2_with (first | (go_at_call 26; (with_reducible refine (mailbagref17_Whole.calls _ _ l0 t172 _ ?side1 ?side2 A2.out).mono ?_); (case side1 => repeat (first | exact HR0.out | (with_reducible refine Kd.C_alloc ?_ _) | (with_reducible refine Kd.C_drewN ?_ _) | (with_reducible refine Kd.C_drew ?_))); (case side2 => exact HC0.out); rintro e w4 ⟨v173, rfl, ho0, hb⟩; have n0_ := Aside0.mk (Kd.R_lower ho0 (below_size (by repeat (first | (with_reducible first | exact HB.out | apply below_alloc | apply pw_below_drewN | apply below_drew1) | exact HB.out)))); have n1_ := Aside0.mk (below_step (by repeat (first | (with_reducible first | exact HB.out | apply below_alloc | apply pw_below_drewN | apply below_drew1) | exact HB.out)) hb); clear HB; have HO174 := n0_; have HB := n1_; clear n0_ n1_; (try clear hb); (try clear hb2); (try clear hk); (try clear hi); (try clear ho0)) | (go_at_call 47; (with_reducible refine (mailbagref17_Lines.calls k _ _ l0 t175 _ ?side1 ?side2 A3.out).mono ?_); (case side1 => repeat (first | exact (Kd.C_below HR0.out HB.out) | (with_reducible refine Kd.C_alloc ?_ _) | (with_reducible refine Kd.C_drewN ?_ _) | (with_reducible refine Kd.C_drew ?_))); (case side2 => exact HC0.out); rintro e w5 ⟨v176, rfl, ho0, hb⟩; have n0_ := Aside0.mk (Kd.R_below (by (with_reducible repeat (first | apply Kd.R_alloc | apply Kd.R_drewN | apply Kd.R_drew)); exact HO174.out) hb); have n1_ := Aside0.mk (Kd.R_lower ho0 (below_size (by repeat (first | (with_reducible first | exact HB.out | apply below_alloc | apply pw_below_drewN | apply below_drew1) | exact HB.out)))); have n2_ := Aside0.mk (below_step (by repeat (first | (with_reducible first | exact HB.out | apply below_alloc | apply pw_below_drewN | apply below_drew1) | exact HB.out)) hb); clear HO174; clear HB; have HO174 := n0_; have HO177 := n1_; have HB := n2_; clear n0_ n1_ n2_; (try clear hb); (try clear hb2); (try clear hk); (try clear hi); (try clear ho0)))
  repeat (go_quiet (first | (go_at_call 26; (with_reducible refine (mailbagref17_Whole.calls _ _ l0 t172 _ ?side1 ?side2 A2.out).mono ?_); (case side1 => repeat (first | exact HR0.out | (with_reducible refine Kd.C_alloc ?_ _) | (with_reducible refine Kd.C_drewN ?_ _) | (with_reducible refine Kd.C_drew ?_))); (case side2 => exact HC0.out); rintro e w4 ⟨v173, rfl, ho0, hb⟩; have n0_ := Aside0.mk (Kd.R_lower ho0 (below_size (by repeat (first | (with_reducible first | exact HB.out | apply below_alloc | apply pw_below_drewN | apply below_drew1) | exact HB.out)))); have n1_ := Aside0.mk (below_step (by repeat (first | (with_reducible first | exact HB.out | apply below_alloc | apply pw_below_drewN | apply below_drew1) | exact HB.out)) hb); clear HB; have HO174 := n0_; have HB := n1_; clear n0_ n1_; (try clear hb); (try clear hb2); (try clear hk); (try clear hi); (try clear ho0)) | (go_at_call 47; (with_reducible refine (mailbagref17_Lines.calls k _ _ l0 t175 _ ?side1 ?side2 A3.out).mono ?_); (case side1 => repeat (first | exact (Kd.C_below HR0.out HB.out) | (with_reducible refine Kd.C_alloc ?_ _) | (with_reducible refine Kd.C_drewN ?_ _) | (with_reducible refine Kd.C_drew ?_))); (case side2 => exact HC0.out); rintro e w5 ⟨v176, rfl, ho0, hb⟩; have n0_ := Aside0.mk (Kd.R_below (by (with_reducible repeat (first | apply Kd.R_alloc | apply Kd.R_drewN | apply Kd.R_drew)); exact HO174.out) hb); have n1_ := Aside0.mk (Kd.R_lower ho0 (below_size (by repeat (first | (with_reducible first | exact HB.out | apply below_alloc | apply pw_below_drewN | apply below_drew1) | exact HB.out)))); have n2_ := Aside0.mk (below_step (by repeat (first | (with_reducible first | exact HB.out | apply below_alloc | apply pw_below_drewN | apply below_drew1) | exact HB.out)) hb); clear HO174; clear HB; have HO174 := n0_; have HO177 := n1_; have HB := n2_; clear n0_ n1_ n2_; (try clear hb); (try clear hb2); (try clear hk); (try clear hi); (try clear ho0))); try go_wp2_with (first | (go_at_call 26; (with_reducible refine (mailbagref17_Whole.calls _ _ l0 t172 _ ?side1 ?side2 A2.out).mono ?_); (case side1 => repeat (first | exact HR0.out | (with_reducible refine Kd.C_alloc ?_ _) | (with_reducible refine Kd.C_drewN ?_ _) | (with_reducible refine Kd.C_drew ?_))); (case side2 => exact HC0.out); rintro e w4 ⟨v173, rfl, ho0, hb⟩; have n0_ := Aside0.mk (Kd.R_lower ho0 (below_size (by repeat (first | (with_reducible first | exact HB.out | apply below_alloc | apply pw_below_drewN | apply below_drew1) | exact HB.out)))); have n1_ := Aside0.mk (below_step (by repeat (first | (with_reducible first | exact HB.out | apply below_alloc | apply pw_below_drewN | apply below_drew1) | exact HB.out)) hb); clear HB; have HO174 := n0_; have HB := n1_; clear n0_ n1_; (try clear hb); (try clear hb2); (try clear hk); (try clear hi); (try clear ho0)) | (go_at_call 47; (with_reducible refine (mailbagref17_Lines.calls k _ _ l0 t175 _ ?side1 ?side2 A3.out).mono ?_); (case side1 => repeat (first | exact (Kd.C_below HR0.out HB.out) | (with_reducible refine Kd.C_alloc ?_ _) | (with_reducible refine Kd.C_drewN ?_ _) | (with_reducible refine Kd.C_drew ?_))); (case side2 => exact HC0.out); rintro e w5 ⟨v176, rfl, ho0, hb⟩; have n0_ := Aside0.mk (Kd.R_below (by (with_reducible repeat (first | apply Kd.R_alloc | apply Kd.R_drewN | apply Kd.R_drew)); exact HO174.out) hb); have n1_ := Aside0.mk (Kd.R_lower ho0 (below_size (by repeat (first | (with_reducible first | exact HB.out | apply below_alloc | apply pw_below_drewN | apply below_drew1) | exact HB.out)))); have n2_ := Aside0.mk (below_step (by repeat (first | (with_reducible first | exact HB.out | apply below_alloc | apply pw_below_drewN | apply below_drew1) | exact HB.out)) hb); clear HO174; clear HB; have HO174 := n0_; have HO177 := n1_; have HB := n2_; clear n0_ n1_ n2_; (try clear hb); (try clear hb2); (try clear hk); (try clear hi); (try clear ho0))))
  go_loopg [6, 7, 8] k (fun kq v6 v7 v8 w' => ∃ (x6_1 : List (S68)) (x7_1 : Int) (x8_1 : Int), v7 = .int .i64 x7_1 ∧ v8 = .int .i64 x8_1 ∧ Aside0 (mailbagref18_Split.l0 kq t172 t175 x6_1 x7_1 x8_1 = some (r1, r2)) ∧ Aside0 (kq ≤ k) ∧ Aside0 (Kd.R (Kd.int .u8) 5 w' w.heap.size (fun _ => True) v173 t172) ∧ Aside0 (Kd.R Kd.string 9 w' w.heap.size (fun _ => True) v176 t175) ∧ Aside0 (Kd.R k68 68 w' w.heap.size (fun _ => True) v6 x6_1) ∧ Aside0 (Below w.heap.size w w'))
  case atStart => exact ⟨(([] : List (S68))), (0), (0), (by first | rfl | (simp; done) | (simp [*]; done)), (by first | rfl | (simp; done) | (simp [*]; done)), H', ⟨Nat.le_refl _⟩, ⟨by (with_reducible repeat (first | apply Kd.R_alloc | apply Kd.R_drewN | apply Kd.R_drew)); exact HO174.out⟩, ⟨by (with_reducible repeat (first | apply Kd.R_alloc | apply Kd.R_drewN | apply Kd.R_drew)); exact HO177.out⟩, ⟨by first | exact Kd.R_nil _ _ _ _ _ | exact Kd.N_nil _ _ _ _ _ | exact Kd.V_nil _ _ _ _ _ | exact Kd.Q_nil _ _ _ _ _ | exact Kd.S_nil _ _ _ _ _⟩, ⟨by repeat (first | (with_reducible first | exact HB.out | apply below_alloc | apply pw_below_drewN | apply below_drew1) | exact HB.out)⟩⟩
  case round =>
    clear H'
    try clear c1
    try clear p2
    obtain ⟨x6_1, x7_1, x8_1, rfl, rfl, HA, HK1, HO_4, HO_5, HO_6, HB⟩ := hrel
    cases gk with
    | zero => exact absurd HA.out (by simp [mailbagref18_Split.l0])
    | succ k1 =>
      have H := HA.out
      clear HA
      simp only [mailbagref18_Split.l0] at H
      by_cases c6 : x8_1 < (t175.length : Int)
      · rw [if_pos c6] at H
        have c6b0 : decide (x8_1 < (t175.length : Int)) = true := decide_eq_true c6
        clear c6
        by_cases c7 : 0 ≤ x8_1
        · rw [if_pos c7] at H
          have c7b0 : decide (0 ≤ x8_1) = true := decide_eq_true c7
          clear c7
          have HC8 := Aside0.mk H
          clear H
          obtain ⟨Ao9, co9, eo9⟩ := Kd.R_slice HO_5.out
          subst eo9
          have p178 : 0 ≤ (x8_1 : Int) := of_decide_eq_true (by first | (with_reducible assumption) | assumption)
          have q178 : x8_1 < (t175.length : Int) := of_decide_eq_true (by first | (with_reducible assumption) | assumption)
          obtain ⟨ad178, e178, hx178_0⟩ := Kd.at_string (Kd.R_reads' HO_5.out).2.2 x8_1 p178 q178
          cases e178
          replace p178 := eq_true p178
          replace q178 := eq_true q178
          go_upto_region 9 with (fail)
          repeat (go_quiet (fail); go_upto_region 9 with (fail))
          go_cut [42] (fun v42 wc => ∃ (kq : Nat) (x42_7 : Bool), v42 = .bool x42_7 ∧ Aside0 (mailbagref18_Split.j1 kq t172 t175 x6_1 x7_1 x8_1 (rdOf ByteArray.empty t175 x8_1) x42_7 = some (r1, r2)) ∧ Aside0 (kq ≤ k1) ∧ Aside0 (Kd.R (Kd.int .u8) 5 wc w.heap.size (fun _ => True) v173 t172) ∧ Aside0 (Kd.R Kd.string 9 wc w.heap.size (fun _ => True) (.slice (some ad178) t175.length co9) t175) ∧ Aside0 (Kd.R k68 68 wc w.heap.size (fun _ => True) u6 x6_1) ∧ Aside0 (Below w.heap.size w wc))
          case first =>
            have H := HC8.out
            clear HC8
            by_cases c10 : (rdOf ByteArray.empty t175 x8_1).toList = ([] : List UInt8)
            · rw [if_pos c10] at H
              have c10b0 : ((rdOf ByteArray.empty t175 x8_1).toList == ([] : List UInt8)) = true := beq_iff_eq.mpr c10
              have c10b1 : ((rdOf ByteArray.empty t175 x8_1).toList != ([] : List UInt8)) = false := bne_eq_false_iff_eq.mpr c10
              clear c10
              (first | rw [c10b0] | (simp only [i64_w, i32_w]; rw [c10b0]) | skip)
              have H' := Aside0.mk H
              clear H
              go_wp2
              repeat (go_quiet (fail); try go_wp2)
              go_meet
              case rel => exact ⟨_, (false), (by first | rfl | (simp; done) | (simp [*]; done)), H', ⟨by have := HK1.out; first | omega | exact Nat.le_refl _⟩, ⟨by (with_reducible repeat (first | apply Kd.R_alloc | apply Kd.R_drewN | apply Kd.R_drew)); exact HO_4.out⟩, ⟨by (with_reducible repeat (first | apply Kd.R_alloc | apply Kd.R_drewN | apply Kd.R_drew)); exact HO_5.out⟩, ⟨by (with_reducible repeat (first | apply Kd.R_alloc | apply Kd.R_drewN | apply Kd.R_drew)); exact HO_6.out⟩, ⟨by repeat (first | (with_reducible first | exact HB.out | apply below_alloc | apply pw_below_drewN | apply below_drew1) | exact HB.out)⟩⟩
            · rw [if_neg c10] at H
              have c10b0 : ((rdOf ByteArray.empty t175 x8_1).toList == ([] : List UInt8)) = false := beq_eq_false_iff_ne.mpr c10
              have c10b1 : ((rdOf ByteArray.empty t175 x8_1).toList != ([] : List UInt8)) = true := bne_iff_ne.mpr c10
              (first | rw [c10b0] | (simp only [i64_w, i32_w]; rw [c10b0]) | skip)
              by_cases c11 : 0 < ((rdOf ByteArray.empty t175 x8_1).size : Int)
              · rw [if_pos c11] at H
                have c11b0 : decide (0 < ((rdOf ByteArray.empty t175 x8_1).size : Int)) = true := decide_eq_true c11
                have c11b1 : decide (0 < (rdOf ByteArray.empty t175 x8_1).size) = true := decide_eq_true (by omega)
                clear c11
                by_cases c13 : (bt (rdOf ByteArray.empty t175 x8_1) 0) = 32
                · rw [if_pos c13] at H
                  have c13b0 : ((bt (rdOf ByteArray.empty t175 x8_1) 0) == 32) = true := beq_iff_eq.mpr c13
                  have c13b1 : ((bt (rdOf ByteArray.empty t175 x8_1) 0) != 32) = false := bne_eq_false_iff_eq.mpr c13
                  clear c13
                  have H' := Aside0.mk H
                  clear H
                  have p12 : 0 ≤ (0 : Int) := (by omega)
                  have q12 : 0 < (rdOf ByteArray.empty t175 x8_1).size := (by have : (0 : Int) < ((rdOf ByteArray.empty t175 x8_1).size : Int) := of_decide_eq_true (by first | (with_reducible assumption) | assumption); omega)
                  have hx12 : ∀ h : 0 < (rdOf ByteArray.empty t175 x8_1).size, (((rdOf ByteArray.empty t175 x8_1)[0]'h).toNat : Int) = bt (rdOf ByteArray.empty t175 x8_1) 0 := bt_at (rdOf ByteArray.empty t175 x8_1) 0
                  clear p12
                  have qi12 : (0 < ((rdOf ByteArray.empty t175 x8_1).size : Int)) = True := eq_true (of_decide_eq_true (by first | (with_reducible assumption) | assumption))
                  replace q12 := eq_true q12
                  obtain ⟨Ao14, co14, eo14⟩ := Kd.R_slice HO_6.out
                  subst eo14
                  go_wp2
                  repeat (go_quiet (fail); try go_wp2)
                  go_meet
                  case rel => exact ⟨_, (decide ((x6_1.length : Int) > 0)), (by first | rfl | (simp; done) | (simp [*]; done)), H', ⟨by have := HK1.out; first | omega | exact Nat.le_refl _⟩, ⟨by (with_reducible repeat (first | apply Kd.R_alloc | apply Kd.R_drewN | apply Kd.R_drew)); exact HO_4.out⟩, ⟨by (with_reducible repeat (first | apply Kd.R_alloc | apply Kd.R_drewN | apply Kd.R_drew)); exact HO_5.out⟩, ⟨by (with_reducible repeat (first | apply Kd.R_alloc | apply Kd.R_drewN | apply Kd.R_drew)); exact HO_6.out⟩, ⟨by repeat (first | (with_reducible first | exact HB.out | apply below_alloc | apply pw_below_drewN | apply below_drew1) | exact HB.out)⟩⟩
                · rw [if_neg c13] at H
                  have c13b0 : ((bt (rdOf ByteArray.empty t175 x8_1) 0) == 32) = false := beq_eq_false_iff_ne.mpr c13
                  have c13b1 : ((bt (rdOf ByteArray.empty t175 x8_1) 0) != 32) = true := bne_iff_ne.mpr c13
                  by_cases c16 : (bt (rdOf ByteArray.empty t175 x8_1) 0) = 9
                  · rw [if_pos c16] at H
                    have c16b0 : ((bt (rdOf ByteArray.empty t175 x8_1) 0) == 9) = true := beq_iff_eq.mpr c16
                    have c16b1 : ((bt (rdOf ByteArray.empty t175 x8_1) 0) != 9) = false := bne_eq_false_iff_eq.mpr c16
                    clear c16
                    have H' := Aside0.mk H
                    clear H
                    have p12 : 0 ≤ (0 : Int) := (by omega)
                    have q12 : 0 < (rdOf ByteArray.empty t175 x8_1).size := (by have : (0 : Int) < ((rdOf ByteArray.empty t175 x8_1).size : Int) := of_decide_eq_true (by first | (with_reducible assumption) | assumption); omega)
                    have hx12 : ∀ h : 0 < (rdOf ByteArray.empty t175 x8_1).size, (((rdOf ByteArray.empty t175 x8_1)[0]'h).toNat : Int) = bt (rdOf ByteArray.empty t175 x8_1) 0 := bt_at (rdOf ByteArray.empty t175 x8_1) 0
                    clear p12
                    have qi12 : (0 < ((rdOf ByteArray.empty t175 x8_1).size : Int)) = True := eq_true (of_decide_eq_true (by first | (with_reducible assumption) | assumption))
                    replace q12 := eq_true q12
                    have p15 : 0 ≤ (0 : Int) := (by omega)
                    have q15 : 0 < (rdOf ByteArray.empty t175 x8_1).size := (by have : (0 : Int) < ((rdOf ByteArray.empty t175 x8_1).size : Int) := of_decide_eq_true (by first | (with_reducible assumption) | assumption); omega)
                    have hx15 : ∀ h : 0 < (rdOf ByteArray.empty t175 x8_1).size, (((rdOf ByteArray.empty t175 x8_1)[0]'h).toNat : Int) = bt (rdOf ByteArray.empty t175 x8_1) 0 := bt_at (rdOf ByteArray.empty t175 x8_1) 0
                    clear p15
                    have qi15 : (0 < ((rdOf ByteArray.empty t175 x8_1).size : Int)) = True := eq_true (of_decide_eq_true (by first | (with_reducible assumption) | assumption))
                    replace q15 := eq_true q15
                    obtain ⟨Ao17, co17, eo17⟩ := Kd.R_slice HO_6.out
                    subst eo17
                    go_wp2
                    repeat (go_quiet (fail); try go_wp2)
                    go_meet
                    case rel => exact ⟨_, (decide ((x6_1.length : Int) > 0)), (by first | rfl | (simp; done) | (simp [*]; done)), H', ⟨by have := HK1.out; first | omega | exact Nat.le_refl _⟩, ⟨by (with_reducible repeat (first | apply Kd.R_alloc | apply Kd.R_drewN | apply Kd.R_drew)); exact HO_4.out⟩, ⟨by (with_reducible repeat (first | apply Kd.R_alloc | apply Kd.R_drewN | apply Kd.R_drew)); exact HO_5.out⟩, ⟨by (with_reducible repeat (first | apply Kd.R_alloc | apply Kd.R_drewN | apply Kd.R_drew)); exact HO_6.out⟩, ⟨by repeat (first | (with_reducible first | exact HB.out | apply below_alloc | apply pw_below_drewN | apply below_drew1) | exact HB.out)⟩⟩
                  · rw [if_neg c16] at H
                    have c16b0 : ((bt (rdOf ByteArray.empty t175 x8_1) 0) == 9) = false := beq_eq_false_iff_ne.mpr c16
                    have c16b1 : ((bt (rdOf ByteArray.empty t175 x8_1) 0) != 9) = true := bne_iff_ne.mpr c16
                    have H' := Aside0.mk H
                    clear H
                    have p12 : 0 ≤ (0 : Int) := (by omega)
                    have q12 : 0 < (rdOf ByteArray.empty t175 x8_1).size := (by have : (0 : Int) < ((rdOf ByteArray.empty t175 x8_1).size : Int) := of_decide_eq_true (by first | (with_reducible assumption) | assumption); omega)
                    have hx12 : ∀ h : 0 < (rdOf ByteArray.empty t175 x8_1).size, (((rdOf ByteArray.empty t175 x8_1)[0]'h).toNat : Int) = bt (rdOf ByteArray.empty t175 x8_1) 0 := bt_at (rdOf ByteArray.empty t175 x8_1) 0
                    clear p12
                    have qi12 : (0 < ((rdOf ByteArray.empty t175 x8_1).size : Int)) = True := eq_true (of_decide_eq_true (by first | (with_reducible assumption) | assumption))
                    replace q12 := eq_true q12
                    have p15 : 0 ≤ (0 : Int) := (by omega)
                    have q15 : 0 < (rdOf ByteArray.empty t175 x8_1).size := (by have : (0 : Int) < ((rdOf ByteArray.empty t175 x8_1).size : Int) := of_decide_eq_true (by first | (with_reducible assumption) | assumption); omega)
                    have hx15 : ∀ h : 0 < (rdOf ByteArray.empty t175 x8_1).size, (((rdOf ByteArray.empty t175 x8_1)[0]'h).toNat : Int) = bt (rdOf ByteArray.empty t175 x8_1) 0 := bt_at (rdOf ByteArray.empty t175 x8_1) 0
                    clear p15
                    have qi15 : (0 < ((rdOf ByteArray.empty t175 x8_1).size : Int)) = True := eq_true (of_decide_eq_true (by first | (with_reducible assumption) | assumption))
                    replace q15 := eq_true q15
                    go_wp2
                    repeat (go_quiet (fail); try go_wp2)
                    go_meet
                    case rel => exact ⟨_, (false), (by first | rfl | (simp; done) | (simp [*]; done)), H', ⟨by have := HK1.out; first | omega | exact Nat.le_refl _⟩, ⟨by (with_reducible repeat (first | apply Kd.R_alloc | apply Kd.R_drewN | apply Kd.R_drew)); exact HO_4.out⟩, ⟨by (with_reducible repeat (first | apply Kd.R_alloc | apply Kd.R_drewN | apply Kd.R_drew)); exact HO_5.out⟩, ⟨by (with_reducible repeat (first | apply Kd.R_alloc | apply Kd.R_drewN | apply Kd.R_drew)); exact HO_6.out⟩, ⟨by repeat (first | (with_reducible first | exact HB.out | apply below_alloc | apply pw_below_drewN | apply below_drew1) | exact HB.out)⟩⟩
              · rw [if_neg c11] at H
                exact absurd H (by simp)
          case rest =>
            clear HC8
            try clear c1
            try clear p1
            try clear q1
            try clear hx1
            try clear qi1
            try clear p2
            try clear c6
            try clear c6b0
            try clear c7
            try clear c7b0
            try clear c10
            try clear c10b0
            try clear c10b1
            try clear c11
            try clear c11b0
            try clear c11b1
            try clear p12
            try clear q12
            try clear hx12
            try clear qi12
            try clear c13
            try clear c13b0
            try clear c13b1
            try clear c15
            try clear p15
            try clear q15
            try clear hx15
            try clear qi15
            try clear c16
            try clear c16b0
            try clear c16b1
            try clear p17
            try clear q17
            try clear hx17
            try clear hx178_0
            try clear p12
            try clear p15
            try clear p178
            try clear p2
            try clear q12
            try clear q15
            try clear q178
            obtain ⟨kq, x42_7, rfl, HA, HJ7, HO_4, HO_5, HO_6, HB⟩ := hcut
            cases kq with
            | zero => exact absurd HA.out (by simp [mailbagref18_Split.j1])
            | succ kj7 =>
              have H := HA.out
              clear HA
              simp only [mailbagref18_Split.j1] at H
              by_cases c18 : x42_7 = true
              · subst c18
                have H1 : (if 0 ≤ (wrap64 ((x6_1.length : Int) - 1)) then (if (wrap64 ((x6_1.length : Int) - 1)) < (x6_1.length : Int) then (if ((rd_T68 x6_1 (wrap64 ((x6_1.length : Int) - 1))).f1).size + 2 ≤ 9223372036854775807 then (if (((rd_T68 x6_1 (wrap64 ((x6_1.length : Int) - 1))).f1) ++ (⟨#[13, 10]⟩ : ByteArray)).size + (rdOf ByteArray.empty t175 x8_1).size ≤ 9223372036854775807 then (mailbagref18_Split.l0 kj7 t172 t175 (x6_1.set ((wrap64 ((x6_1.length : Int) - 1)) : Int).toNat (⟨(rd_T68 x6_1 (wrap64 ((x6_1.length : Int) - 1))).f0, (((rd_T68 x6_1 (wrap64 ((x6_1.length : Int) - 1))).f1) ++ (⟨#[13, 10]⟩ : ByteArray)) ++ (rdOf ByteArray.empty t175 x8_1)⟩ : S68)) (wrap64 ((wrap64 (x7_1 + ((rdOf ByteArray.empty t175 x8_1).size : Int))) + 2)) (wrap64 (x8_1 + 1))) else (none)) else (none)) else (none)) else (none)) = some (r1, r2) := by rw [if_pos rfl] at H; exact H
                clear H
                have H := H1
                clear H1
                obtain ⟨ji19, hji19⟩ : ∃ j_ : Int, (wrap64 ((x6_1.length : Int) - 1)) = j_ := ⟨_, rfl⟩
                replace H : (if 0 ≤ (ji19) then (if (ji19) < (x6_1.length : Int) then (if ((rd_T68 x6_1 (ji19)).f1).size + 2 ≤ 9223372036854775807 then (if (((rd_T68 x6_1 (ji19)).f1) ++ (⟨#[13, 10]⟩ : ByteArray)).size + (rdOf ByteArray.empty t175 x8_1).size ≤ 9223372036854775807 then (mailbagref18_Split.l0 kj7 t172 t175 (x6_1.set ((ji19) : Int).toNat (⟨(rd_T68 x6_1 (ji19)).f0, (((rd_T68 x6_1 (ji19)).f1) ++ (⟨#[13, 10]⟩ : ByteArray)) ++ (rdOf ByteArray.empty t175 x8_1)⟩ : S68)) (wrap64 ((wrap64 (x7_1 + ((rdOf ByteArray.empty t175 x8_1).size : Int))) + 2)) (wrap64 (x8_1 + 1))) else (none)) else (none)) else (none)) else (none)) = some (r1, r2) := by first | (rw [hji19] at H; exact H) | (simp only [hji19] at H ⊢; exact H)
                have hji19w : (IntKind.i64.wrap ((x6_1.length : Int) - 1)) = ji19 := (i64_w _).trans hji19
                by_cases c20 : 0 ≤ (ji19)
                · rw [if_pos c20] at H
                  have c20b0 : decide (0 ≤ (ji19)) = true := decide_eq_true c20
                  clear c20
                  by_cases c21 : (ji19) < (x6_1.length : Int)
                  · rw [if_pos c21] at H
                    have c21b0 : decide ((ji19) < (x6_1.length : Int)) = true := decide_eq_true c21
                    clear c21
                    by_cases c22 : ((rd_T68 x6_1 (ji19)).f1).size + 2 ≤ 9223372036854775807
                    · rw [if_pos c22] at H
                      have c22b0 := eq_true c22
                      have c22b1 : decide (((rd_T68 x6_1 (ji19)).f1).size + 2 ≤ 9223372036854775807) = true := decide_eq_true c22
                      try have c22b2 : (9223372036854775807 < ((rd_T68 x6_1 (ji19)).f1).size + 2) = False := eq_false (Nat.not_lt.2 c22)
                      by_cases c23 : (((rd_T68 x6_1 (ji19)).f1) ++ (⟨#[13, 10]⟩ : ByteArray)).size + (rdOf ByteArray.empty t175 x8_1).size ≤ 9223372036854775807
                      · rw [if_pos c23] at H
                        have c23b0 := eq_true c23
                        have c23b1 : decide ((((rd_T68 x6_1 (ji19)).f1) ++ (⟨#[13, 10]⟩ : ByteArray)).size + (rdOf ByteArray.empty t175 x8_1).size ≤ 9223372036854775807) = true := decide_eq_true c23
                        try have c23b2 : (9223372036854775807 < (((rd_T68 x6_1 (ji19)).f1) ++ (⟨#[13, 10]⟩ : ByteArray)).size + (rdOf ByteArray.empty t175 x8_1).size) = False := eq_false (Nat.not_lt.2 c23)
                        try (have c23b3 := c23b2; simp only [ByteArray.size_append, show (⟨#[13, 10]⟩ : ByteArray).size = 2 from rfl] at c23b3)
                        obtain ⟨y180, hy180⟩ : ∃ y_ : List (S68), y_ = (x6_1.set ((ji19) : Int).toNat (⟨(rd_T68 x6_1 (ji19)).f0, (((rd_T68 x6_1 (ji19)).f1) ++ (⟨#[13, 10]⟩ : ByteArray)) ++ (rdOf ByteArray.empty t175 x8_1)⟩ : S68)) := ⟨_, rfl⟩
                        replace H : (mailbagref18_Split.l0 kj7 t172 t175 y180 (wrap64 ((wrap64 (x7_1 + ((rdOf ByteArray.empty t175 x8_1).size : Int))) + 2)) (wrap64 (x8_1 + 1))) = some (r1, r2) := by first | (rw [hy180]; with_reducible exact H) | (have H2_ := (Option.bind_some _ _).symm.trans H; rw [hy180]; with_reducible exact H2_) | (have H2_ := (Option.bind_some _ _).symm.trans H; with_reducible exact H2_) | with_reducible exact H | (rw [hy180]; exact H) | exact H
                        have Ny180 := Aside0.mk hy180
                        clear hy180
                        have H' := Aside0.mk H
                        clear H
                        obtain ⟨Ao25, co25, eo25⟩ := Kd.R_slice HO_6.out
                        subst eo25
                        have p179 : 0 ≤ ((ji19) : Int) := of_decide_eq_true (by first | (with_reducible assumption) | assumption)
                        have q179 : (ji19) < (x6_1.length : Int) := of_decide_eq_true (by first | (with_reducible assumption) | assumption)
                        obtain ⟨ad179, e179, hx179_0, hx179_1⟩ := at_T68 (Kd.R_reads' HO_6.out).2.2 (ji19) p179 q179
                        cases e179
                        replace p179 := eq_true p179
                        replace q179 := eq_true q179
                        have p24 : 0 ≤ ((ji19) : Int) := of_decide_eq_true (by first | (with_reducible assumption) | assumption)
                        have q24 : ((ji19) : Int) < ((x6_1.length : Int) : Int) := of_decide_eq_true (by first | (with_reducible assumption) | assumption)
                        obtain ⟨go24, co24, eo24, gb24, gl24, cl24, HG24⟩ := Kd.R_form HO_6.out (by omega)
                        (first | cases eo24 | (injection eo24 with ea_ en_ ec_; (first | subst ea_ | (injection ea_ with ea_; subst ea_)); subst ec_; clear en_))
                        have GB24 := Aside0.mk gb24
                        have GG24 := Aside0.mk HG24
                        clear gb24 gl24 HG24
                        (first | simp only [add_plain] at hx179_0 | skip)
                        (first | simp only [add_plain] at hx179_1 | skip)
                        obtain ⟨ce24, hcl24, hM24, hcc24, hfr24⟩ := Kd.R_elem HO_6.out z68 ((ji19) : Int) p24 q24
                        obtain rfl := k68_openM hM24
                        have hx24_0 : wc.cell? ⟨go24, ((ji19) : Int).toNat * 2, none⟩ = some (.string ((rd_T68 x6_1 (ji19)).f0)) := hcc24 0 _ rfl
                        have hx24_1 : wc.cell? ⟨go24, ((ji19) : Int).toNat * 2 + 1, none⟩ = some (.string ((rd_T68 x6_1 (ji19)).f1)) := hcc24 1 _ rfl
                        have hf24_0 : wc.frozen? ⟨go24, ((ji19) : Int).toNat * 2, none⟩ = false := hfr24 0
                        have hf24_1 : wc.frozen? ⟨go24, ((ji19) : Int).toNat * 2 + 1, none⟩ = false := hfr24 1
                        clear hcl24 hcc24 hfr24 hM24
                        replace p24 := eq_true p24
                        replace q24 := eq_true q24
                        have HX26 := Aside0.mk (show Kd.R k68 68 wc w.heap.size (fun _ => True) (.slice (some ⟨go24, 0, none⟩) x6_1.length co25) x6_1 from (by (with_reducible repeat (first | apply Kd.R_alloc | apply Kd.R_drewN | apply Kd.R_drew)); exact HO_6.out))
                        obtain ⟨ce26, hcl26, hM26, hcc26, hfr26⟩ := Kd.R_elem HX26.out z68 ((ji19) : Int) (of_decide_eq_true (by first | (with_reducible assumption) | assumption)) (by have h_ : ((ji19) : Int) < ((x6_1.length : Int) : Int) := of_decide_eq_true (by first | (with_reducible assumption) | assumption); first | exact h_ | (have e_ := (Kd.R_reads' HO_6.out).1; omega) | simpa using h_)
                        obtain rfl := k68_openM hM26
                        have HP26 := Kd.R_seg HX26.out ((ji19) : Int) (of_decide_eq_true (by first | (with_reducible assumption) | assumption)) (by have h_ : ((ji19) : Int) < ((x6_1.length : Int) : Int) := of_decide_eq_true (by first | (with_reducible assumption) | assumption); first | exact h_ | (have e_ := (Kd.R_reads' HO_6.out).1; omega) | simpa using h_) (seg := [.string ((((rd_T68 x6_1 (ji19)).f1) ++ (⟨#[13, 10]⟩ : ByteArray)) ++ (rdOf ByteArray.empty t175 x8_1))]) (j := 1) hcl26 hcc26 (show 2 ≤ 2 from by decide) (x' := (⟨(rd_T68 x6_1 (ji19)).f0, (((rd_T68 x6_1 (ji19)).f1) ++ (⟨#[13, 10]⟩ : ByteArray)) ++ (rdOf ByteArray.empty t175 x8_1)⟩ : S68)) (k68_mkM _ _ _ (⟨(rd_T68 x6_1 (ji19)).f0, (((rd_T68 x6_1 (ji19)).f1) ++ (⟨#[13, 10]⟩ : ByteArray)) ++ (rdOf ByteArray.empty t175 x8_1)⟩ : S68) ) (fun _ hk => hk)
                        have hx26_1 := hcc26 1 _ rfl
                        (try simp only [show (k68).sz = 2 from rfl, Nat.mul_one, Nat.add_zero] at hx26_1)
                        have hf26_1 := hfr26 1
                        (try simp only [show (k68).sz = 2 from rfl, Nat.mul_one, Nat.add_zero] at hf26_1)
                        clear hcl26 hcc26 hfr26 hM26
                        go_wp2_with (first | ((with_reducible refine gate_store (t := 9) (p := 58) rfl ?_); (try (rw [drewN_self wc]; generalize hq_ : World.drewN wc _ = wc; have n0_ := Aside0.mk (Kd.R_at hq_ HO_4.out); have n1_ := Aside0.mk (Kd.R_at hq_ HO_5.out); have n2_ := Aside0.mk (Kd.R_at hq_ HO_6.out); have n3_ := Aside0.mk (below_at hq_ HB.out); clear hq_ HO_4 HO_5 HO_6 HB; have HO_4 := n0_; have HO_5 := n1_; have HO_6 := n2_; have HB := n3_; clear n0_ n1_ n2_ n3_; (try (have HX26 := Aside0.mk (show Kd.R k68 68 wc w.heap.size (fun _ => True) (.slice (some ⟨go24, 0, none⟩) x6_1.length co25) x6_1 from (by (with_reducible repeat (first | apply Kd.R_alloc | apply Kd.R_drewN | apply Kd.R_drew)); exact HO_6.out)))); (try (obtain ⟨ce26, hcl26, hM26, hcc26, hfr26⟩ := Kd.R_elem HX26.out z68 ((ji19) : Int) (of_decide_eq_true (by first | (with_reducible assumption) | assumption)) (by have h_ : ((ji19) : Int) < ((x6_1.length : Int) : Int) := of_decide_eq_true (by first | (with_reducible assumption) | assumption); first | exact h_ | (have e_ := (Kd.R_reads' HO_6.out).1; omega) | simpa using h_))); (try (obtain rfl := k68_openM hM26)); (try (have HP26 := Kd.R_seg HX26.out ((ji19) : Int) (of_decide_eq_true (by first | (with_reducible assumption) | assumption)) (by have h_ : ((ji19) : Int) < ((x6_1.length : Int) : Int) := of_decide_eq_true (by first | (with_reducible assumption) | assumption); first | exact h_ | (have e_ := (Kd.R_reads' HO_6.out).1; omega) | simpa using h_) (seg := [.string ((((rd_T68 x6_1 (ji19)).f1) ++ (⟨#[13, 10]⟩ : ByteArray)) ++ (rdOf ByteArray.empty t175 x8_1))]) (j := 1) hcl26 hcc26 (show 2 ≤ 2 from by decide) (x' := (⟨(rd_T68 x6_1 (ji19)).f0, (((rd_T68 x6_1 (ji19)).f1) ++ (⟨#[13, 10]⟩ : ByteArray)) ++ (rdOf ByteArray.empty t175 x8_1)⟩ : S68)) (k68_mkM _ _ _ (⟨(rd_T68 x6_1 (ji19)).f0, (((rd_T68 x6_1 (ji19)).f1) ++ (⟨#[13, 10]⟩ : ByteArray)) ++ (rdOf ByteArray.empty t175 x8_1)⟩ : S68) ) (fun _ hk => hk))); (try (have hx26_1 := hcc26 1 _ rfl)); (try (try simp only [show (k68).sz = 2 from rfl, Nat.mul_one, Nat.add_zero] at hx26_1)); (try (have hf26_1 := hfr26 1)); (try (try simp only [show (k68).sz = 2 from rfl, Nat.mul_one, Nat.add_zero] at hf26_1)); (try (clear hcl26 hcc26 hfr26 hM26)))); refine store_event (t := 9) (p := 58) (v := ?vo_w27) (w1 := (wc.setCell ⟨go24, ((ji19) : Int).toNat * 2 + 1, none⟩ (.string ((((rd_T68 x6_1 (ji19)).f1) ++ (⟨#[13, 10]⟩ : ByteArray)) ++ (rdOf ByteArray.empty t175 x8_1))))) ?hg ?ho ?hn ?hr ?_; (case ho => rfl); (case hg => rfl); (case hn => rfl); (case hr => first | (go_simp; done) | (go_simp; rfl)); intro w27 hw; have hg : wc.grownBy w27 (some go24) := (by rw [hw]; exact HP26.2); have hp_ : Kd.R k68 68 w27 w.heap.size (fun _ => True) (.slice (some ⟨go24, 0, none⟩) x6_1.length co25) y180 := (by rw [hw, Ny180.out]; exact HP26.1); clear HP26; have n0_ := Aside0.mk (Kd.R_over' (v := (.slice (some ⟨go24, 0, none⟩) x6_1.length co25)) (by (with_reducible repeat (first | apply Kd.R_alloc | apply Kd.R_drewN | apply Kd.R_drew)); exact HO_4.out) (Kd.R_typed HO_6.out) (by decide) hg); have n1_ := Aside0.mk (Kd.R_over' (v := (.slice (some ⟨go24, 0, none⟩) x6_1.length co25)) (by (with_reducible repeat (first | apply Kd.R_alloc | apply Kd.R_drewN | apply Kd.R_drew)); exact HO_5.out) (Kd.R_typed HO_6.out) (by decide) hg); have n2_ := Aside0.mk (hp_); have n3_ := Aside0.mk ((by rw [hw]; exact below_set (HB.out) GB24.out : Below w.heap.size w w27)); clear HO_4; clear HO_5; clear HO_6; clear HB; have HO_4 := n0_; have HO_5 := n1_; have HO_6 := n2_; have HB := n3_; clear n0_ n1_ n2_ n3_; clear hg hw hp_))
                        repeat (go_quiet (first | ((with_reducible refine gate_store (t := 9) (p := 58) rfl ?_); (try (rw [drewN_self wc]; generalize hq_ : World.drewN wc _ = wc; have n0_ := Aside0.mk (Kd.R_at hq_ HO_4.out); have n1_ := Aside0.mk (Kd.R_at hq_ HO_5.out); have n2_ := Aside0.mk (Kd.R_at hq_ HO_6.out); have n3_ := Aside0.mk (below_at hq_ HB.out); clear hq_ HO_4 HO_5 HO_6 HB; have HO_4 := n0_; have HO_5 := n1_; have HO_6 := n2_; have HB := n3_; clear n0_ n1_ n2_ n3_; (try (have HX26 := Aside0.mk (show Kd.R k68 68 wc w.heap.size (fun _ => True) (.slice (some ⟨go24, 0, none⟩) x6_1.length co25) x6_1 from (by (with_reducible repeat (first | apply Kd.R_alloc | apply Kd.R_drewN | apply Kd.R_drew)); exact HO_6.out)))); (try (obtain ⟨ce26, hcl26, hM26, hcc26, hfr26⟩ := Kd.R_elem HX26.out z68 ((ji19) : Int) (of_decide_eq_true (by first | (with_reducible assumption) | assumption)) (by have h_ : ((ji19) : Int) < ((x6_1.length : Int) : Int) := of_decide_eq_true (by first | (with_reducible assumption) | assumption); first | exact h_ | (have e_ := (Kd.R_reads' HO_6.out).1; omega) | simpa using h_))); (try (obtain rfl := k68_openM hM26)); (try (have HP26 := Kd.R_seg HX26.out ((ji19) : Int) (of_decide_eq_true (by first | (with_reducible assumption) | assumption)) (by have h_ : ((ji19) : Int) < ((x6_1.length : Int) : Int) := of_decide_eq_true (by first | (with_reducible assumption) | assumption); first | exact h_ | (have e_ := (Kd.R_reads' HO_6.out).1; omega) | simpa using h_) (seg := [.string ((((rd_T68 x6_1 (ji19)).f1) ++ (⟨#[13, 10]⟩ : ByteArray)) ++ (rdOf ByteArray.empty t175 x8_1))]) (j := 1) hcl26 hcc26 (show 2 ≤ 2 from by decide) (x' := (⟨(rd_T68 x6_1 (ji19)).f0, (((rd_T68 x6_1 (ji19)).f1) ++ (⟨#[13, 10]⟩ : ByteArray)) ++ (rdOf ByteArray.empty t175 x8_1)⟩ : S68)) (k68_mkM _ _ _ (⟨(rd_T68 x6_1 (ji19)).f0, (((rd_T68 x6_1 (ji19)).f1) ++ (⟨#[13, 10]⟩ : ByteArray)) ++ (rdOf ByteArray.empty t175 x8_1)⟩ : S68) ) (fun _ hk => hk))); (try (have hx26_1 := hcc26 1 _ rfl)); (try (try simp only [show (k68).sz = 2 from rfl, Nat.mul_one, Nat.add_zero] at hx26_1)); (try (have hf26_1 := hfr26 1)); (try (try simp only [show (k68).sz = 2 from rfl, Nat.mul_one, Nat.add_zero] at hf26_1)); (try (clear hcl26 hcc26 hfr26 hM26)))); refine store_event (t := 9) (p := 58) (v := ?vo_w27) (w1 := (wc.setCell ⟨go24, ((ji19) : Int).toNat * 2 + 1, none⟩ (.string ((((rd_T68 x6_1 (ji19)).f1) ++ (⟨#[13, 10]⟩ : ByteArray)) ++ (rdOf ByteArray.empty t175 x8_1))))) ?hg ?ho ?hn ?hr ?_; (case ho => rfl); (case hg => rfl); (case hn => rfl); (case hr => first | (go_simp; done) | (go_simp; rfl)); intro w27 hw; have hg : wc.grownBy w27 (some go24) := (by rw [hw]; exact HP26.2); have hp_ : Kd.R k68 68 w27 w.heap.size (fun _ => True) (.slice (some ⟨go24, 0, none⟩) x6_1.length co25) y180 := (by rw [hw, Ny180.out]; exact HP26.1); clear HP26; have n0_ := Aside0.mk (Kd.R_over' (v := (.slice (some ⟨go24, 0, none⟩) x6_1.length co25)) (by (with_reducible repeat (first | apply Kd.R_alloc | apply Kd.R_drewN | apply Kd.R_drew)); exact HO_4.out) (Kd.R_typed HO_6.out) (by decide) hg); have n1_ := Aside0.mk (Kd.R_over' (v := (.slice (some ⟨go24, 0, none⟩) x6_1.length co25)) (by (with_reducible repeat (first | apply Kd.R_alloc | apply Kd.R_drewN | apply Kd.R_drew)); exact HO_5.out) (Kd.R_typed HO_6.out) (by decide) hg); have n2_ := Aside0.mk (hp_); have n3_ := Aside0.mk ((by rw [hw]; exact below_set (HB.out) GB24.out : Below w.heap.size w w27)); clear HO_4; clear HO_5; clear HO_6; clear HB; have HO_4 := n0_; have HO_5 := n1_; have HO_6 := n2_; have HB := n3_; clear n0_ n1_ n2_ n3_; clear hg hw hp_)); try go_wp2_with (first | ((with_reducible refine gate_store (t := 9) (p := 58) rfl ?_); (try (rw [drewN_self wc]; generalize hq_ : World.drewN wc _ = wc; have n0_ := Aside0.mk (Kd.R_at hq_ HO_4.out); have n1_ := Aside0.mk (Kd.R_at hq_ HO_5.out); have n2_ := Aside0.mk (Kd.R_at hq_ HO_6.out); have n3_ := Aside0.mk (below_at hq_ HB.out); clear hq_ HO_4 HO_5 HO_6 HB; have HO_4 := n0_; have HO_5 := n1_; have HO_6 := n2_; have HB := n3_; clear n0_ n1_ n2_ n3_; (try (have HX26 := Aside0.mk (show Kd.R k68 68 wc w.heap.size (fun _ => True) (.slice (some ⟨go24, 0, none⟩) x6_1.length co25) x6_1 from (by (with_reducible repeat (first | apply Kd.R_alloc | apply Kd.R_drewN | apply Kd.R_drew)); exact HO_6.out)))); (try (obtain ⟨ce26, hcl26, hM26, hcc26, hfr26⟩ := Kd.R_elem HX26.out z68 ((ji19) : Int) (of_decide_eq_true (by first | (with_reducible assumption) | assumption)) (by have h_ : ((ji19) : Int) < ((x6_1.length : Int) : Int) := of_decide_eq_true (by first | (with_reducible assumption) | assumption); first | exact h_ | (have e_ := (Kd.R_reads' HO_6.out).1; omega) | simpa using h_))); (try (obtain rfl := k68_openM hM26)); (try (have HP26 := Kd.R_seg HX26.out ((ji19) : Int) (of_decide_eq_true (by first | (with_reducible assumption) | assumption)) (by have h_ : ((ji19) : Int) < ((x6_1.length : Int) : Int) := of_decide_eq_true (by first | (with_reducible assumption) | assumption); first | exact h_ | (have e_ := (Kd.R_reads' HO_6.out).1; omega) | simpa using h_) (seg := [.string ((((rd_T68 x6_1 (ji19)).f1) ++ (⟨#[13, 10]⟩ : ByteArray)) ++ (rdOf ByteArray.empty t175 x8_1))]) (j := 1) hcl26 hcc26 (show 2 ≤ 2 from by decide) (x' := (⟨(rd_T68 x6_1 (ji19)).f0, (((rd_T68 x6_1 (ji19)).f1) ++ (⟨#[13, 10]⟩ : ByteArray)) ++ (rdOf ByteArray.empty t175 x8_1)⟩ : S68)) (k68_mkM _ _ _ (⟨(rd_T68 x6_1 (ji19)).f0, (((rd_T68 x6_1 (ji19)).f1) ++ (⟨#[13, 10]⟩ : ByteArray)) ++ (rdOf ByteArray.empty t175 x8_1)⟩ : S68) ) (fun _ hk => hk))); (try (have hx26_1 := hcc26 1 _ rfl)); (try (try simp only [show (k68).sz = 2 from rfl, Nat.mul_one, Nat.add_zero] at hx26_1)); (try (have hf26_1 := hfr26 1)); (try (try simp only [show (k68).sz = 2 from rfl, Nat.mul_one, Nat.add_zero] at hf26_1)); (try (clear hcl26 hcc26 hfr26 hM26)))); refine store_event (t := 9) (p := 58) (v := ?vo_w27) (w1 := (wc.setCell ⟨go24, ((ji19) : Int).toNat * 2 + 1, none⟩ (.string ((((rd_T68 x6_1 (ji19)).f1) ++ (⟨#[13, 10]⟩ : ByteArray)) ++ (rdOf ByteArray.empty t175 x8_1))))) ?hg ?ho ?hn ?hr ?_; (case ho => rfl); (case hg => rfl); (case hn => rfl); (case hr => first | (go_simp; done) | (go_simp; rfl)); intro w27 hw; have hg : wc.grownBy w27 (some go24) := (by rw [hw]; exact HP26.2); have hp_ : Kd.R k68 68 w27 w.heap.size (fun _ => True) (.slice (some ⟨go24, 0, none⟩) x6_1.length co25) y180 := (by rw [hw, Ny180.out]; exact HP26.1); clear HP26; have n0_ := Aside0.mk (Kd.R_over' (v := (.slice (some ⟨go24, 0, none⟩) x6_1.length co25)) (by (with_reducible repeat (first | apply Kd.R_alloc | apply Kd.R_drewN | apply Kd.R_drew)); exact HO_4.out) (Kd.R_typed HO_6.out) (by decide) hg); have n1_ := Aside0.mk (Kd.R_over' (v := (.slice (some ⟨go24, 0, none⟩) x6_1.length co25)) (by (with_reducible repeat (first | apply Kd.R_alloc | apply Kd.R_drewN | apply Kd.R_drew)); exact HO_5.out) (Kd.R_typed HO_6.out) (by decide) hg); have n2_ := Aside0.mk (hp_); have n3_ := Aside0.mk ((by rw [hw]; exact below_set (HB.out) GB24.out : Below w.heap.size w w27)); clear HO_4; clear HO_5; clear HO_6; clear HB; have HO_4 := n0_; have HO_5 := n1_; have HO_6 := n2_; have HB := n3_; clear n0_ n1_ n2_ n3_; clear hg hw hp_)))
                        go_roundg kj7
                        case measure => have := HK1.out; have := HJ7.out; omega
                        case rel => exact ⟨(y180), (wrap64 ((wrap64 (x7_1 + ((rdOf ByteArray.empty t175 x8_1).size : Int))) + 2)), (wrap64 (x8_1 + 1)), (by first | rfl | (simp; done) | (simp [*]; done)), (by first | rfl | (simp; done) | (simp [*]; done)), H', ⟨by have := HK1.out; have := HJ7.out; omega⟩, ⟨by (with_reducible repeat (first | apply Kd.R_alloc | apply Kd.R_drewN | apply Kd.R_drew)); exact HO_4.out⟩, ⟨by (with_reducible repeat (first | apply Kd.R_alloc | apply Kd.R_drewN | apply Kd.R_drew)); exact HO_5.out⟩, ⟨by (with_reducible repeat (first | apply Kd.R_alloc | apply Kd.R_drewN | apply Kd.R_drew)); exact HO_6.out⟩, ⟨by repeat (first | (with_reducible first | exact HB.out | apply below_alloc | apply pw_below_drewN | apply below_drew1) | exact HB.out)⟩⟩
                      · rw [if_neg c23] at H
                        exact absurd H (by simp)
                    · rw [if_neg c22] at H
                      exact absurd H (by simp)
                  · rw [if_neg c21] at H
                    exact absurd H (by simp)
                · rw [if_neg c20] at H
                  exact absurd H (by simp)
              · replace c18 := Bool.eq_false_iff.mpr c18
                subst c18
                have H1 : ((mailbagref18_field.f kj7 (rdOf ByteArray.empty t175 x8_1)).bind fun bt181 => (if bt181.2.2 = true then (if x6_1.length < 4398046511104 then (mailbagref18_Split.l0 kj7 t172 t175 (x6_1 ++ [(⟨bt181.1, bt181.2.1⟩ : S68)]) (wrap64 ((wrap64 (x7_1 + ((rdOf ByteArray.empty t175 x8_1).size : Int))) + 2)) (wrap64 (x8_1 + 1))) else (none)) else (if (rdOf ByteArray.empty t175 x8_1).toList = ([] : List UInt8) then (if 0 ≤ (wrap64 (x7_1 + 2)) then (if (wrap64 (x7_1 + 2)) ≤ (t172.length : Int) then (some (x6_1, (t172.drop ((wrap64 (x7_1 + 2)) : Int).toNat))) else (none)) else (none)) else (if 0 ≤ x7_1 then (if x7_1 ≤ (t172.length : Int) then (some (x6_1, (t172.drop (x7_1 : Int).toNat))) else (none)) else (none))))) = some (r1, r2) := by rw [if_neg (show ¬ (false = true) by decide)] at H; exact H
                clear H
                have H := H1
                clear H1
                replace H := Option.bind_eq_some_iff.mp H
                obtain ⟨⟨t181, t182, t183⟩, A280, H⟩ := H
                replace H : (if t183 = true then (if x6_1.length < 4398046511104 then (mailbagref18_Split.l0 kj7 t172 t175 (x6_1 ++ [(⟨t181, t182⟩ : S68)]) (wrap64 ((wrap64 (x7_1 + ((rdOf ByteArray.empty t175 x8_1).size : Int))) + 2)) (wrap64 (x8_1 + 1))) else (none)) else (if (rdOf ByteArray.empty t175 x8_1).toList = ([] : List UInt8) then (if 0 ≤ (wrap64 (x7_1 + 2)) then (if (wrap64 (x7_1 + 2)) ≤ (t172.length : Int) then (some (x6_1, (t172.drop ((wrap64 (x7_1 + 2)) : Int).toNat))) else (none)) else (none)) else (if 0 ≤ x7_1 then (if x7_1 ≤ (t172.length : Int) then (some (x6_1, (t172.drop (x7_1 : Int).toNat))) else (none)) else (none)))) = some (r1, r2) := H
                have A28 := Aside0.mk A280
                clear A280
                by_cases c29 : t183 = true
                · subst c29
                  have H1 : (if x6_1.length < 4398046511104 then (mailbagref18_Split.l0 kj7 t172 t175 (x6_1 ++ [(⟨t181, t182⟩ : S68)]) (wrap64 ((wrap64 (x7_1 + ((rdOf ByteArray.empty t175 x8_1).size : Int))) + 2)) (wrap64 (x8_1 + 1))) else (none)) = some (r1, r2) := by rw [if_pos rfl] at H; exact H
                  clear H
                  have H := H1
                  clear H1
                  by_cases c30 : x6_1.length < 4398046511104
                  · rw [if_pos c30] at H
                    have LMc30 := Aside0.mk c30
                    clear c30
                    obtain ⟨y185, hy185⟩ : ∃ y_ : List (S68), y_ = (x6_1 ++ [(⟨t181, t182⟩ : S68)]) := ⟨_, rfl⟩
                    replace H : (mailbagref18_Split.l0 kj7 t172 t175 y185 (wrap64 ((wrap64 (x7_1 + ((rdOf ByteArray.empty t175 x8_1).size : Int))) + 2)) (wrap64 (x8_1 + 1))) = some (r1, r2) := by first | (rw [hy185]; with_reducible exact H) | (have H2_ := (Option.bind_some _ _).symm.trans H; rw [hy185]; with_reducible exact H2_) | (have H2_ := (Option.bind_some _ _).symm.trans H; with_reducible exact H2_) | with_reducible exact H | (rw [hy185]; exact H) | exact H
                    have Ny185 := Aside0.mk hy185
                    clear hy185
                    have H' := Aside0.mk H
                    clear H
                    go_wp2_with (first | (go_at_call 48; (with_reducible refine (mailbagref18_field.calls kj7 (rdOf ByteArray.empty t175 x8_1) t181 t182 true _ A28.out).mono ?_); rintro e w31 ⟨rfl, hb⟩; have n0_ := Aside0.mk (Kd.R_below (by (with_reducible repeat (first | apply Kd.R_alloc | apply Kd.R_drewN | apply Kd.R_drew)); exact HO_4.out) hb); have n1_ := Aside0.mk (Kd.R_below (by (with_reducible repeat (first | apply Kd.R_alloc | apply Kd.R_drewN | apply Kd.R_drew)); exact HO_5.out) hb); have n2_ := Aside0.mk (Kd.R_below (by (with_reducible repeat (first | apply Kd.R_alloc | apply Kd.R_drewN | apply Kd.R_drew)); exact HO_6.out) hb); have n3_ := Aside0.mk (below_step (by repeat (first | (with_reducible first | exact HB.out | apply below_alloc | apply pw_below_drewN | apply below_drew1) | exact HB.out)) hb); clear HO_4; clear HO_5; clear HO_6; clear HB; have HO_4 := n0_; have HO_5 := n1_; have HO_6 := n2_; have HB := n3_; clear n0_ n1_ n2_ n3_; (try clear hb); (try clear hb2); (try clear hk); (try clear hi)) | ((with_reducible refine gate_dst (N := 10) rfl ?_); (try (refine gate_guard (by rfl) ?_; dsimp only)); refine box_event ?hg (N := 10) ?hd (cs := #[.string (⟨#[]⟩ : ByteArray), .string (⟨#[]⟩ : ByteArray)]) (t := 68) ?hr ?_; (case hd => rfl); (case hg => rfl); (case hr => first | (go_simp; done) | (go_simp; rfl)); intro gb184 hg w32 hbox hb; have n0_ := Aside0.mk (Kd.R_below (by (with_reducible repeat (first | apply Kd.R_alloc | apply Kd.R_drewN | apply Kd.R_drew)); exact HO_4.out) hb); have n1_ := Aside0.mk (Kd.R_below (by (with_reducible repeat (first | apply Kd.R_alloc | apply Kd.R_drewN | apply Kd.R_drew)); exact HO_5.out) hb); have n2_ := Aside0.mk (Kd.R_below (Kd.R_elderB (by (with_reducible repeat (first | apply Kd.R_alloc | apply Kd.R_drewN | apply Kd.R_drew)); exact HO_6.out) gb184 (Nat.le_of_eq hg.symm)) hb); have n3_ := Aside0.mk (below_step (by repeat (first | (with_reducible first | exact HB.out | apply below_alloc | apply pw_below_drewN | apply below_drew1) | exact HB.out)) hb); have n4_ := Aside0.mk (hbox); have n5_ := Aside0.mk ((by rw [hg]; exact (below_size (by repeat (first | (with_reducible first | exact HB.out | apply below_alloc | apply pw_below_drewN | apply below_drew1) | exact HB.out))) : w.heap.size ≤ gb184)); have n6_ := Aside0.mk ((by rw [hg]; exact (below_size (by repeat (first | (with_reducible first | exact HB.out | apply below_alloc | apply pw_below_drewN | apply below_drew1) | exact HB.out))) : w.heap.size ≤ gb184)); clear HO_4; clear HO_5; clear HO_6; clear HB; have HO_4 := n0_; have HO_5 := n1_; have HO_6 := n2_; have HB := n3_; have BK184 := n4_; have GW184 := n5_; have GE184 := n6_; clear n0_ n1_ n2_ n3_ n4_ n5_ n6_; clear hb hbox hg; have hcz33_0 : w32.cell? ⟨gb184, 0, none⟩ = some (.string (⟨#[]⟩ : ByteArray)) := (blk_cell BK184.out 0).trans rfl; have hcz33_1 : w32.cell? ⟨gb184, 1, none⟩ = some (.string (⟨#[]⟩ : ByteArray)) := (blk_cell BK184.out 1).trans rfl; have hfz33_0 := blk_frozen BK184.out 0; have hfz33_1 := blk_frozen BK184.out 1) | ((with_reducible refine gate_builtin (b := .append) (xs := #[.tmp 79, .tmp 81]) rfl ?_); (try (refine gate_guard (by rfl) ?_; dsimp only)); at_builtin; refine Kd.R_append k68 (w0 := w) w.heap.size rfl (.tmp 79) (.tmp 81) 36 68 (.agg #[(.string ⟨#[]⟩), (.string ⟨#[]⟩)]) 32 rfl Tryd.underlying36 info68 rfl (by decide) (by omega) u6 x6_1 (⟨t181, t182⟩ : S68) [.string t181, .string t182] (fun k_ => k_ ≠ gb184) (fun _ => False) rfl (by first | (go_simp; done) | (go_simp; rfl)) ?aP (fun _ hk => hk.elim) ?aF ?aO ?aB ?aS ?aL ?_; (case aP => exact k68_mkM _ _ _ (⟨t181, t182⟩ : S68)); (case aB => exact (by repeat (first | (with_reducible first | exact HB.out | apply below_alloc | apply pw_below_drewN | apply below_drew1 | refine below_set ?_ GE184.out) | exact HB.out))); (case aF => exact (fun k_ hk => Kd.freshB (g := gb184) (o := .cells #[.string t181, .string t182] 68 (0, 0)) (by (with_reducible repeat (first | refine blk_drewN ?_ _ | refine blk_drew ?_ | refine blk_alloc ?_ _)); refine blk_put (cs := #[.string t181, .string (⟨#[]⟩ : ByteArray)]) ?_ 1 _ rfl; (with_reducible repeat (first | refine blk_drewN ?_ _ | refine blk_drew ?_ | refine blk_alloc ?_ _)); refine blk_put (cs := #[.string (⟨#[]⟩ : ByteArray), .string (⟨#[]⟩ : ByteArray)]) ?_ 0 _ rfl; (with_reducible repeat (first | refine blk_drewN ?_ _ | refine blk_drew ?_ | refine blk_alloc ?_ _)); exact BK184.out) k_ hk)); (case aO => exact (by (with_reducible repeat (first | apply Kd.R_alloc | apply Kd.R_drewN | apply Kd.R_drew)); exact Kd.R_mono (Kd.R_far (p := ⟨gb184, 1, none⟩) (Kd.R_far (p := ⟨gb184, 0, none⟩) (Kd.R_mono HO_6.out (fun k_ hk => (⟨hk, hk.2⟩ : _ ∧ k_ ≠ gb184))) (fun _ hk => hk.2) (.string t181)) (fun _ hk => hk.2) (.string t182)) (fun _ hk => hk.1.2))); (case aS => exact (below_size (by repeat (first | (with_reducible first | exact HB.out | apply below_alloc | apply pw_below_drewN | apply below_drew1 | refine below_set ?_ GE184.out) | exact HB.out)))); (case aL => have := LMc30.out; omega); intro v186 w34 ho hb hg hat; rw [← Ny185.out] at ho; have n0_ := Aside0.mk (Kd.R_over' (by (with_reducible repeat (first | apply Kd.R_alloc | apply Kd.R_drewN | apply Kd.R_drew)); exact (Kd.R_mono (Kd.R_far (p := ⟨gb184, 1, none⟩) (Kd.R_far (p := ⟨gb184, 0, none⟩) (Kd.R_types HO_4.out BK184.out (by decide)) (fun _ hk => hk.2) (.string t181)) (fun _ hk => hk.2) (.string t182)) (fun _ h_ => h_.1))) (Kd.R_typed (by (with_reducible repeat (first | apply Kd.R_alloc | apply Kd.R_drewN | apply Kd.R_drew)); exact (Kd.R_mono (Kd.R_far (p := ⟨gb184, 1, none⟩) (Kd.R_far (p := ⟨gb184, 0, none⟩) (Kd.R_mono HO_6.out (fun k_ hk => (⟨hk, hk.2⟩ : _ ∧ k_ ≠ gb184))) (fun _ hk => hk.2) (.string t181)) (fun _ hk => hk.2) (.string t182)) (fun _ h_ => h_.1)))) (by decide) hg); have n1_ := Aside0.mk (Kd.R_over' (by (with_reducible repeat (first | apply Kd.R_alloc | apply Kd.R_drewN | apply Kd.R_drew)); exact (Kd.R_mono (Kd.R_far (p := ⟨gb184, 1, none⟩) (Kd.R_far (p := ⟨gb184, 0, none⟩) (Kd.R_types HO_5.out BK184.out (by decide)) (fun _ hk => hk.2) (.string t181)) (fun _ hk => hk.2) (.string t182)) (fun _ h_ => h_.1))) (Kd.R_typed (by (with_reducible repeat (first | apply Kd.R_alloc | apply Kd.R_drewN | apply Kd.R_drew)); exact (Kd.R_mono (Kd.R_far (p := ⟨gb184, 1, none⟩) (Kd.R_far (p := ⟨gb184, 0, none⟩) (Kd.R_mono HO_6.out (fun k_ hk => (⟨hk, hk.2⟩ : _ ∧ k_ ≠ gb184))) (fun _ hk => hk.2) (.string t181)) (fun _ hk => hk.2) (.string t182)) (fun _ h_ => h_.1)))) (by decide) hg); have n2_ := Aside0.mk (blk_grown (g := gb184) (o := .cells #[.string t181, .string t182] 68 (0, 0)) (by (with_reducible repeat (first | refine blk_drewN ?_ _ | refine blk_drew ?_ | refine blk_alloc ?_ _)); refine blk_put (cs := #[.string t181, .string (⟨#[]⟩ : ByteArray)]) ?_ 1 _ rfl; (with_reducible repeat (first | refine blk_drewN ?_ _ | refine blk_drew ?_ | refine blk_alloc ?_ _)); refine blk_put (cs := #[.string (⟨#[]⟩ : ByteArray), .string (⟨#[]⟩ : ByteArray)]) ?_ 0 _ rfl; (with_reducible repeat (first | refine blk_drewN ?_ _ | refine blk_drew ?_ | refine blk_alloc ?_ _)); exact BK184.out) hg (Kd.R_away HO_6.out (fun _ hk => hk.2))); have n3_ := Aside0.mk (hb); have n4_ := Aside0.mk (ho); clear HO_4; clear HO_5; clear BK184; clear HB; clear HO_6; have HO_4 := n0_; have HO_5 := n1_; have BK184 := n2_; have HB := n3_; have HO187 := n4_; clear n0_ n1_ n2_ n3_ n4_; clear ho hb hg hat))
                    repeat (go_quiet (first | (go_at_call 48; (with_reducible refine (mailbagref18_field.calls kj7 (rdOf ByteArray.empty t175 x8_1) t181 t182 true _ A28.out).mono ?_); rintro e w31 ⟨rfl, hb⟩; have n0_ := Aside0.mk (Kd.R_below (by (with_reducible repeat (first | apply Kd.R_alloc | apply Kd.R_drewN | apply Kd.R_drew)); exact HO_4.out) hb); have n1_ := Aside0.mk (Kd.R_below (by (with_reducible repeat (first | apply Kd.R_alloc | apply Kd.R_drewN | apply Kd.R_drew)); exact HO_5.out) hb); have n2_ := Aside0.mk (Kd.R_below (by (with_reducible repeat (first | apply Kd.R_alloc | apply Kd.R_drewN | apply Kd.R_drew)); exact HO_6.out) hb); have n3_ := Aside0.mk (below_step (by repeat (first | (with_reducible first | exact HB.out | apply below_alloc | apply pw_below_drewN | apply below_drew1) | exact HB.out)) hb); clear HO_4; clear HO_5; clear HO_6; clear HB; have HO_4 := n0_; have HO_5 := n1_; have HO_6 := n2_; have HB := n3_; clear n0_ n1_ n2_ n3_; (try clear hb); (try clear hb2); (try clear hk); (try clear hi)) | ((with_reducible refine gate_dst (N := 10) rfl ?_); (try (refine gate_guard (by rfl) ?_; dsimp only)); refine box_event ?hg (N := 10) ?hd (cs := #[.string (⟨#[]⟩ : ByteArray), .string (⟨#[]⟩ : ByteArray)]) (t := 68) ?hr ?_; (case hd => rfl); (case hg => rfl); (case hr => first | (go_simp; done) | (go_simp; rfl)); intro gb184 hg w32 hbox hb; have n0_ := Aside0.mk (Kd.R_below (by (with_reducible repeat (first | apply Kd.R_alloc | apply Kd.R_drewN | apply Kd.R_drew)); exact HO_4.out) hb); have n1_ := Aside0.mk (Kd.R_below (by (with_reducible repeat (first | apply Kd.R_alloc | apply Kd.R_drewN | apply Kd.R_drew)); exact HO_5.out) hb); have n2_ := Aside0.mk (Kd.R_below (Kd.R_elderB (by (with_reducible repeat (first | apply Kd.R_alloc | apply Kd.R_drewN | apply Kd.R_drew)); exact HO_6.out) gb184 (Nat.le_of_eq hg.symm)) hb); have n3_ := Aside0.mk (below_step (by repeat (first | (with_reducible first | exact HB.out | apply below_alloc | apply pw_below_drewN | apply below_drew1) | exact HB.out)) hb); have n4_ := Aside0.mk (hbox); have n5_ := Aside0.mk ((by rw [hg]; exact (below_size (by repeat (first | (with_reducible first | exact HB.out | apply below_alloc | apply pw_below_drewN | apply below_drew1) | exact HB.out))) : w.heap.size ≤ gb184)); have n6_ := Aside0.mk ((by rw [hg]; exact (below_size (by repeat (first | (with_reducible first | exact HB.out | apply below_alloc | apply pw_below_drewN | apply below_drew1) | exact HB.out))) : w.heap.size ≤ gb184)); clear HO_4; clear HO_5; clear HO_6; clear HB; have HO_4 := n0_; have HO_5 := n1_; have HO_6 := n2_; have HB := n3_; have BK184 := n4_; have GW184 := n5_; have GE184 := n6_; clear n0_ n1_ n2_ n3_ n4_ n5_ n6_; clear hb hbox hg; have hcz33_0 : w32.cell? ⟨gb184, 0, none⟩ = some (.string (⟨#[]⟩ : ByteArray)) := (blk_cell BK184.out 0).trans rfl; have hcz33_1 : w32.cell? ⟨gb184, 1, none⟩ = some (.string (⟨#[]⟩ : ByteArray)) := (blk_cell BK184.out 1).trans rfl; have hfz33_0 := blk_frozen BK184.out 0; have hfz33_1 := blk_frozen BK184.out 1) | ((with_reducible refine gate_builtin (b := .append) (xs := #[.tmp 79, .tmp 81]) rfl ?_); (try (refine gate_guard (by rfl) ?_; dsimp only)); at_builtin; refine Kd.R_append k68 (w0 := w) w.heap.size rfl (.tmp 79) (.tmp 81) 36 68 (.agg #[(.string ⟨#[]⟩), (.string ⟨#[]⟩)]) 32 rfl Tryd.underlying36 info68 rfl (by decide) (by omega) u6 x6_1 (⟨t181, t182⟩ : S68) [.string t181, .string t182] (fun k_ => k_ ≠ gb184) (fun _ => False) rfl (by first | (go_simp; done) | (go_simp; rfl)) ?aP (fun _ hk => hk.elim) ?aF ?aO ?aB ?aS ?aL ?_; (case aP => exact k68_mkM _ _ _ (⟨t181, t182⟩ : S68)); (case aB => exact (by repeat (first | (with_reducible first | exact HB.out | apply below_alloc | apply pw_below_drewN | apply below_drew1 | refine below_set ?_ GE184.out) | exact HB.out))); (case aF => exact (fun k_ hk => Kd.freshB (g := gb184) (o := .cells #[.string t181, .string t182] 68 (0, 0)) (by (with_reducible repeat (first | refine blk_drewN ?_ _ | refine blk_drew ?_ | refine blk_alloc ?_ _)); refine blk_put (cs := #[.string t181, .string (⟨#[]⟩ : ByteArray)]) ?_ 1 _ rfl; (with_reducible repeat (first | refine blk_drewN ?_ _ | refine blk_drew ?_ | refine blk_alloc ?_ _)); refine blk_put (cs := #[.string (⟨#[]⟩ : ByteArray), .string (⟨#[]⟩ : ByteArray)]) ?_ 0 _ rfl; (with_reducible repeat (first | refine blk_drewN ?_ _ | refine blk_drew ?_ | refine blk_alloc ?_ _)); exact BK184.out) k_ hk)); (case aO => exact (by (with_reducible repeat (first | apply Kd.R_alloc | apply Kd.R_drewN | apply Kd.R_drew)); exact Kd.R_mono (Kd.R_far (p := ⟨gb184, 1, none⟩) (Kd.R_far (p := ⟨gb184, 0, none⟩) (Kd.R_mono HO_6.out (fun k_ hk => (⟨hk, hk.2⟩ : _ ∧ k_ ≠ gb184))) (fun _ hk => hk.2) (.string t181)) (fun _ hk => hk.2) (.string t182)) (fun _ hk => hk.1.2))); (case aS => exact (below_size (by repeat (first | (with_reducible first | exact HB.out | apply below_alloc | apply pw_below_drewN | apply below_drew1 | refine below_set ?_ GE184.out) | exact HB.out)))); (case aL => have := LMc30.out; omega); intro v186 w34 ho hb hg hat; rw [← Ny185.out] at ho; have n0_ := Aside0.mk (Kd.R_over' (by (with_reducible repeat (first | apply Kd.R_alloc | apply Kd.R_drewN | apply Kd.R_drew)); exact (Kd.R_mono (Kd.R_far (p := ⟨gb184, 1, none⟩) (Kd.R_far (p := ⟨gb184, 0, none⟩) (Kd.R_types HO_4.out BK184.out (by decide)) (fun _ hk => hk.2) (.string t181)) (fun _ hk => hk.2) (.string t182)) (fun _ h_ => h_.1))) (Kd.R_typed (by (with_reducible repeat (first | apply Kd.R_alloc | apply Kd.R_drewN | apply Kd.R_drew)); exact (Kd.R_mono (Kd.R_far (p := ⟨gb184, 1, none⟩) (Kd.R_far (p := ⟨gb184, 0, none⟩) (Kd.R_mono HO_6.out (fun k_ hk => (⟨hk, hk.2⟩ : _ ∧ k_ ≠ gb184))) (fun _ hk => hk.2) (.string t181)) (fun _ hk => hk.2) (.string t182)) (fun _ h_ => h_.1)))) (by decide) hg); have n1_ := Aside0.mk (Kd.R_over' (by (with_reducible repeat (first | apply Kd.R_alloc | apply Kd.R_drewN | apply Kd.R_drew)); exact (Kd.R_mono (Kd.R_far (p := ⟨gb184, 1, none⟩) (Kd.R_far (p := ⟨gb184, 0, none⟩) (Kd.R_types HO_5.out BK184.out (by decide)) (fun _ hk => hk.2) (.string t181)) (fun _ hk => hk.2) (.string t182)) (fun _ h_ => h_.1))) (Kd.R_typed (by (with_reducible repeat (first | apply Kd.R_alloc | apply Kd.R_drewN | apply Kd.R_drew)); exact (Kd.R_mono (Kd.R_far (p := ⟨gb184, 1, none⟩) (Kd.R_far (p := ⟨gb184, 0, none⟩) (Kd.R_mono HO_6.out (fun k_ hk => (⟨hk, hk.2⟩ : _ ∧ k_ ≠ gb184))) (fun _ hk => hk.2) (.string t181)) (fun _ hk => hk.2) (.string t182)) (fun _ h_ => h_.1)))) (by decide) hg); have n2_ := Aside0.mk (blk_grown (g := gb184) (o := .cells #[.string t181, .string t182] 68 (0, 0)) (by (with_reducible repeat (first | refine blk_drewN ?_ _ | refine blk_drew ?_ | refine blk_alloc ?_ _)); refine blk_put (cs := #[.string t181, .string (⟨#[]⟩ : ByteArray)]) ?_ 1 _ rfl; (with_reducible repeat (first | refine blk_drewN ?_ _ | refine blk_drew ?_ | refine blk_alloc ?_ _)); refine blk_put (cs := #[.string (⟨#[]⟩ : ByteArray), .string (⟨#[]⟩ : ByteArray)]) ?_ 0 _ rfl; (with_reducible repeat (first | refine blk_drewN ?_ _ | refine blk_drew ?_ | refine blk_alloc ?_ _)); exact BK184.out) hg (Kd.R_away HO_6.out (fun _ hk => hk.2))); have n3_ := Aside0.mk (hb); have n4_ := Aside0.mk (ho); clear HO_4; clear HO_5; clear BK184; clear HB; clear HO_6; have HO_4 := n0_; have HO_5 := n1_; have BK184 := n2_; have HB := n3_; have HO187 := n4_; clear n0_ n1_ n2_ n3_ n4_; clear ho hb hg hat)); try go_wp2_with (first | (go_at_call 48; (with_reducible refine (mailbagref18_field.calls kj7 (rdOf ByteArray.empty t175 x8_1) t181 t182 true _ A28.out).mono ?_); rintro e w31 ⟨rfl, hb⟩; have n0_ := Aside0.mk (Kd.R_below (by (with_reducible repeat (first | apply Kd.R_alloc | apply Kd.R_drewN | apply Kd.R_drew)); exact HO_4.out) hb); have n1_ := Aside0.mk (Kd.R_below (by (with_reducible repeat (first | apply Kd.R_alloc | apply Kd.R_drewN | apply Kd.R_drew)); exact HO_5.out) hb); have n2_ := Aside0.mk (Kd.R_below (by (with_reducible repeat (first | apply Kd.R_alloc | apply Kd.R_drewN | apply Kd.R_drew)); exact HO_6.out) hb); have n3_ := Aside0.mk (below_step (by repeat (first | (with_reducible first | exact HB.out | apply below_alloc | apply pw_below_drewN | apply below_drew1) | exact HB.out)) hb); clear HO_4; clear HO_5; clear HO_6; clear HB; have HO_4 := n0_; have HO_5 := n1_; have HO_6 := n2_; have HB := n3_; clear n0_ n1_ n2_ n3_; (try clear hb); (try clear hb2); (try clear hk); (try clear hi)) | ((with_reducible refine gate_dst (N := 10) rfl ?_); (try (refine gate_guard (by rfl) ?_; dsimp only)); refine box_event ?hg (N := 10) ?hd (cs := #[.string (⟨#[]⟩ : ByteArray), .string (⟨#[]⟩ : ByteArray)]) (t := 68) ?hr ?_; (case hd => rfl); (case hg => rfl); (case hr => first | (go_simp; done) | (go_simp; rfl)); intro gb184 hg w32 hbox hb; have n0_ := Aside0.mk (Kd.R_below (by (with_reducible repeat (first | apply Kd.R_alloc | apply Kd.R_drewN | apply Kd.R_drew)); exact HO_4.out) hb); have n1_ := Aside0.mk (Kd.R_below (by (with_reducible repeat (first | apply Kd.R_alloc | apply Kd.R_drewN | apply Kd.R_drew)); exact HO_5.out) hb); have n2_ := Aside0.mk (Kd.R_below (Kd.R_elderB (by (with_reducible repeat (first | apply Kd.R_alloc | apply Kd.R_drewN | apply Kd.R_drew)); exact HO_6.out) gb184 (Nat.le_of_eq hg.symm)) hb); have n3_ := Aside0.mk (below_step (by repeat (first | (with_reducible first | exact HB.out | apply below_alloc | apply pw_below_drewN | apply below_drew1) | exact HB.out)) hb); have n4_ := Aside0.mk (hbox); have n5_ := Aside0.mk ((by rw [hg]; exact (below_size (by repeat (first | (with_reducible first | exact HB.out | apply below_alloc | apply pw_below_drewN | apply below_drew1) | exact HB.out))) : w.heap.size ≤ gb184)); have n6_ := Aside0.mk ((by rw [hg]; exact (below_size (by repeat (first | (with_reducible first | exact HB.out | apply below_alloc | apply pw_below_drewN | apply below_drew1) | exact HB.out))) : w.heap.size ≤ gb184)); clear HO_4; clear HO_5; clear HO_6; clear HB; have HO_4 := n0_; have HO_5 := n1_; have HO_6 := n2_; have HB := n3_; have BK184 := n4_; have GW184 := n5_; have GE184 := n6_; clear n0_ n1_ n2_ n3_ n4_ n5_ n6_; clear hb hbox hg; have hcz33_0 : w32.cell? ⟨gb184, 0, none⟩ = some (.string (⟨#[]⟩ : ByteArray)) := (blk_cell BK184.out 0).trans rfl; have hcz33_1 : w32.cell? ⟨gb184, 1, none⟩ = some (.string (⟨#[]⟩ : ByteArray)) := (blk_cell BK184.out 1).trans rfl; have hfz33_0 := blk_frozen BK184.out 0; have hfz33_1 := blk_frozen BK184.out 1) | ((with_reducible refine gate_builtin (b := .append) (xs := #[.tmp 79, .tmp 81]) rfl ?_); (try (refine gate_guard (by rfl) ?_; dsimp only)); at_builtin; refine Kd.R_append k68 (w0 := w) w.heap.size rfl (.tmp 79) (.tmp 81) 36 68 (.agg #[(.string ⟨#[]⟩), (.string ⟨#[]⟩)]) 32 rfl Tryd.underlying36 info68 rfl (by decide) (by omega) u6 x6_1 (⟨t181, t182⟩ : S68) [.string t181, .string t182] (fun k_ => k_ ≠ gb184) (fun _ => False) rfl (by first | (go_simp; done) | (go_simp; rfl)) ?aP (fun _ hk => hk.elim) ?aF ?aO ?aB ?aS ?aL ?_; (case aP => exact k68_mkM _ _ _ (⟨t181, t182⟩ : S68)); (case aB => exact (by repeat (first | (with_reducible first | exact HB.out | apply below_alloc | apply pw_below_drewN | apply below_drew1 | refine below_set ?_ GE184.out) | exact HB.out))); (case aF => exact (fun k_ hk => Kd.freshB (g := gb184) (o := .cells #[.string t181, .string t182] 68 (0, 0)) (by (with_reducible repeat (first | refine blk_drewN ?_ _ | refine blk_drew ?_ | refine blk_alloc ?_ _)); refine blk_put (cs := #[.string t181, .string (⟨#[]⟩ : ByteArray)]) ?_ 1 _ rfl; (with_reducible repeat (first | refine blk_drewN ?_ _ | refine blk_drew ?_ | refine blk_alloc ?_ _)); refine blk_put (cs := #[.string (⟨#[]⟩ : ByteArray), .string (⟨#[]⟩ : ByteArray)]) ?_ 0 _ rfl; (with_reducible repeat (first | refine blk_drewN ?_ _ | refine blk_drew ?_ | refine blk_alloc ?_ _)); exact BK184.out) k_ hk)); (case aO => exact (by (with_reducible repeat (first | apply Kd.R_alloc | apply Kd.R_drewN | apply Kd.R_drew)); exact Kd.R_mono (Kd.R_far (p := ⟨gb184, 1, none⟩) (Kd.R_far (p := ⟨gb184, 0, none⟩) (Kd.R_mono HO_6.out (fun k_ hk => (⟨hk, hk.2⟩ : _ ∧ k_ ≠ gb184))) (fun _ hk => hk.2) (.string t181)) (fun _ hk => hk.2) (.string t182)) (fun _ hk => hk.1.2))); (case aS => exact (below_size (by repeat (first | (with_reducible first | exact HB.out | apply below_alloc | apply pw_below_drewN | apply below_drew1 | refine below_set ?_ GE184.out) | exact HB.out)))); (case aL => have := LMc30.out; omega); intro v186 w34 ho hb hg hat; rw [← Ny185.out] at ho; have n0_ := Aside0.mk (Kd.R_over' (by (with_reducible repeat (first | apply Kd.R_alloc | apply Kd.R_drewN | apply Kd.R_drew)); exact (Kd.R_mono (Kd.R_far (p := ⟨gb184, 1, none⟩) (Kd.R_far (p := ⟨gb184, 0, none⟩) (Kd.R_types HO_4.out BK184.out (by decide)) (fun _ hk => hk.2) (.string t181)) (fun _ hk => hk.2) (.string t182)) (fun _ h_ => h_.1))) (Kd.R_typed (by (with_reducible repeat (first | apply Kd.R_alloc | apply Kd.R_drewN | apply Kd.R_drew)); exact (Kd.R_mono (Kd.R_far (p := ⟨gb184, 1, none⟩) (Kd.R_far (p := ⟨gb184, 0, none⟩) (Kd.R_mono HO_6.out (fun k_ hk => (⟨hk, hk.2⟩ : _ ∧ k_ ≠ gb184))) (fun _ hk => hk.2) (.string t181)) (fun _ hk => hk.2) (.string t182)) (fun _ h_ => h_.1)))) (by decide) hg); have n1_ := Aside0.mk (Kd.R_over' (by (with_reducible repeat (first | apply Kd.R_alloc | apply Kd.R_drewN | apply Kd.R_drew)); exact (Kd.R_mono (Kd.R_far (p := ⟨gb184, 1, none⟩) (Kd.R_far (p := ⟨gb184, 0, none⟩) (Kd.R_types HO_5.out BK184.out (by decide)) (fun _ hk => hk.2) (.string t181)) (fun _ hk => hk.2) (.string t182)) (fun _ h_ => h_.1))) (Kd.R_typed (by (with_reducible repeat (first | apply Kd.R_alloc | apply Kd.R_drewN | apply Kd.R_drew)); exact (Kd.R_mono (Kd.R_far (p := ⟨gb184, 1, none⟩) (Kd.R_far (p := ⟨gb184, 0, none⟩) (Kd.R_mono HO_6.out (fun k_ hk => (⟨hk, hk.2⟩ : _ ∧ k_ ≠ gb184))) (fun _ hk => hk.2) (.string t181)) (fun _ hk => hk.2) (.string t182)) (fun _ h_ => h_.1)))) (by decide) hg); have n2_ := Aside0.mk (blk_grown (g := gb184) (o := .cells #[.string t181, .string t182] 68 (0, 0)) (by (with_reducible repeat (first | refine blk_drewN ?_ _ | refine blk_drew ?_ | refine blk_alloc ?_ _)); refine blk_put (cs := #[.string t181, .string (⟨#[]⟩ : ByteArray)]) ?_ 1 _ rfl; (with_reducible repeat (first | refine blk_drewN ?_ _ | refine blk_drew ?_ | refine blk_alloc ?_ _)); refine blk_put (cs := #[.string (⟨#[]⟩ : ByteArray), .string (⟨#[]⟩ : ByteArray)]) ?_ 0 _ rfl; (with_reducible repeat (first | refine blk_drewN ?_ _ | refine blk_drew ?_ | refine blk_alloc ?_ _)); exact BK184.out) hg (Kd.R_away HO_6.out (fun _ hk => hk.2))); have n3_ := Aside0.mk (hb); have n4_ := Aside0.mk (ho); clear HO_4; clear HO_5; clear BK184; clear HB; clear HO_6; have HO_4 := n0_; have HO_5 := n1_; have BK184 := n2_; have HB := n3_; have HO187 := n4_; clear n0_ n1_ n2_ n3_ n4_; clear ho hb hg hat)))
                    go_roundg kj7
                    case measure => have := HK1.out; have := HJ7.out; omega
                    case rel => exact ⟨(y185), (wrap64 ((wrap64 (x7_1 + ((rdOf ByteArray.empty t175 x8_1).size : Int))) + 2)), (wrap64 (x8_1 + 1)), (by first | rfl | (simp; done) | (simp [*]; done)), (by first | rfl | (simp; done) | (simp [*]; done)), H', ⟨by have := HK1.out; have := HJ7.out; omega⟩, ⟨by (with_reducible repeat (first | apply Kd.R_alloc | apply Kd.R_drewN | apply Kd.R_drew)); exact HO_4.out⟩, ⟨by (with_reducible repeat (first | apply Kd.R_alloc | apply Kd.R_drewN | apply Kd.R_drew)); exact HO_5.out⟩, ⟨by (with_reducible repeat (first | apply Kd.R_alloc | apply Kd.R_drewN | apply Kd.R_drew)); exact Kd.R_mono HO187.out (fun _ hk => trivial)⟩, ⟨by repeat (first | (with_reducible first | exact HB.out | apply below_alloc | apply pw_below_drewN | apply below_drew1 | refine below_set ?_ GE184.out) | exact HB.out)⟩⟩
                  · rw [if_neg c30] at H
                    exact absurd H (by simp)
                · replace c29 := Bool.eq_false_iff.mpr c29
                  subst c29
                  have H1 : (if (rdOf ByteArray.empty t175 x8_1).toList = ([] : List UInt8) then (if 0 ≤ (wrap64 (x7_1 + 2)) then (if (wrap64 (x7_1 + 2)) ≤ (t172.length : Int) then (some (x6_1, (t172.drop ((wrap64 (x7_1 + 2)) : Int).toNat))) else (none)) else (none)) else (if 0 ≤ x7_1 then (if x7_1 ≤ (t172.length : Int) then (some (x6_1, (t172.drop (x7_1 : Int).toNat))) else (none)) else (none))) = some (r1, r2) := by rw [if_neg (show ¬ (false = true) by decide)] at H; exact H
                  clear H
                  have H := H1
                  clear H1
                  by_cases c35 : (rdOf ByteArray.empty t175 x8_1).toList = ([] : List UInt8)
                  · rw [if_pos c35] at H
                    have c35b0 : ((rdOf ByteArray.empty t175 x8_1).toList == ([] : List UInt8)) = true := beq_iff_eq.mpr c35
                    have c35b1 : ((rdOf ByteArray.empty t175 x8_1).toList != ([] : List UInt8)) = false := bne_eq_false_iff_eq.mpr c35
                    clear c35
                    obtain ⟨ji36, hji36⟩ : ∃ j_ : Int, (wrap64 (x7_1 + 2)) = j_ := ⟨_, rfl⟩
                    replace H : (if 0 ≤ (ji36) then (if (ji36) ≤ (t172.length : Int) then (some (x6_1, (t172.drop ((ji36) : Int).toNat))) else (none)) else (none)) = some (r1, r2) := by first | (rw [hji36] at H; exact H) | (simp only [hji36] at H ⊢; exact H)
                    (try rw [hji36] at A28)
                    have hji36w : (IntKind.i64.wrap (x7_1 + 2)) = ji36 := (i64_w _).trans hji36
                    by_cases c37 : 0 ≤ (ji36)
                    · rw [if_pos c37] at H
                      have c37b0 := eq_true c37
                      have c37b1 : decide (0 ≤ (ji36)) = true := decide_eq_true c37
                      clear c37
                      by_cases c38 : (ji36) ≤ (t172.length : Int)
                      · rw [if_pos c38] at H
                        have c38b0 := eq_true c38
                        have c38b1 : decide ((ji36) ≤ (t172.length : Int)) = true := decide_eq_true c38
                        clear c38
                        obtain ⟨y188, hy188⟩ : ∃ y_ : List Int, y_ = (t172.drop ((ji36) : Int).toNat) := ⟨_, rfl⟩
                        replace H : (some (x6_1, y188)) = some (r1, r2) := by first | (rw [hy188]; with_reducible exact H) | (have H2_ := (Option.bind_some _ _).symm.trans H; rw [hy188]; with_reducible exact H2_) | (have H2_ := (Option.bind_some _ _).symm.trans H; with_reducible exact H2_) | with_reducible exact H | (rw [hy188]; exact H) | exact H
                        have Ny188 := Aside0.mk hy188
                        clear hy188
                        simp only [Option.some.injEq, Prod.mk.injEq] at H
                        obtain ⟨rfl, rfl⟩ := H
                        go_wp2_with (first | (go_at_call 48; (with_reducible refine (mailbagref18_field.calls kj7 (rdOf ByteArray.empty t175 x8_1) t181 t182 false _ A28.out).mono ?_); rintro e w39 ⟨rfl, hb⟩; have n0_ := Aside0.mk (Kd.R_below (by (with_reducible repeat (first | apply Kd.R_alloc | apply Kd.R_drewN | apply Kd.R_drew)); exact HO_4.out) hb); have n1_ := Aside0.mk (Kd.R_below (by (with_reducible repeat (first | apply Kd.R_alloc | apply Kd.R_drewN | apply Kd.R_drew)); exact HO_5.out) hb); have n2_ := Aside0.mk (Kd.R_below (by (with_reducible repeat (first | apply Kd.R_alloc | apply Kd.R_drewN | apply Kd.R_drew)); exact HO_6.out) hb); have n3_ := Aside0.mk (below_step (by repeat (first | (with_reducible first | exact HB.out | apply below_alloc | apply pw_below_drewN | apply below_drew1) | exact HB.out)) hb); clear HO_4; clear HO_5; clear HO_6; clear HB; have HO_4 := n0_; have HO_5 := n1_; have HO_6 := n2_; have HB := n3_; clear n0_ n1_ n2_ n3_; (try clear hb); (try clear hb2); (try clear hk); (try clear hi)) | ((with_reducible refine gate_dst (N := 10) rfl ?_); (try (refine gate_guard (by rfl) ?_; dsimp only)); refine box_event ?hg (N := 10) ?hd (cs := #[.string (⟨#[]⟩ : ByteArray), .string (⟨#[]⟩ : ByteArray)]) (t := 68) ?hr ?_; (case hd => rfl); (case hg => rfl); (case hr => first | (go_simp; done) | (go_simp; rfl)); intro gb184 hg w40 hbox hb; have n0_ := Aside0.mk (Kd.R_below (by (with_reducible repeat (first | apply Kd.R_alloc | apply Kd.R_drewN | apply Kd.R_drew)); exact HO_4.out) hb); have n1_ := Aside0.mk (Kd.R_below (by (with_reducible repeat (first | apply Kd.R_alloc | apply Kd.R_drewN | apply Kd.R_drew)); exact HO_5.out) hb); have n2_ := Aside0.mk (Kd.R_below (Kd.R_elderB (by (with_reducible repeat (first | apply Kd.R_alloc | apply Kd.R_drewN | apply Kd.R_drew)); exact HO_6.out) gb184 (Nat.le_of_eq hg.symm)) hb); have n3_ := Aside0.mk (below_step (by repeat (first | (with_reducible first | exact HB.out | apply below_alloc | apply pw_below_drewN | apply below_drew1) | exact HB.out)) hb); have n4_ := Aside0.mk (hbox); have n5_ := Aside0.mk ((by rw [hg]; exact (below_size (by repeat (first | (with_reducible first | exact HB.out | apply below_alloc | apply pw_below_drewN | apply below_drew1) | exact HB.out))) : w.heap.size ≤ gb184)); have n6_ := Aside0.mk ((by rw [hg]; exact (below_size (by repeat (first | (with_reducible first | exact HB.out | apply below_alloc | apply pw_below_drewN | apply below_drew1) | exact HB.out))) : w.heap.size ≤ gb184)); clear HO_4; clear HO_5; clear HO_6; clear HB; have HO_4 := n0_; have HO_5 := n1_; have HO_6 := n2_; have HB := n3_; have BK184 := n4_; have GW184 := n5_; have GE184 := n6_; clear n0_ n1_ n2_ n3_ n4_ n5_ n6_; clear hb hbox hg; have hcz41_0 : w40.cell? ⟨gb184, 0, none⟩ = some (.string (⟨#[]⟩ : ByteArray)) := (blk_cell BK184.out 0).trans rfl; have hcz41_1 : w40.cell? ⟨gb184, 1, none⟩ = some (.string (⟨#[]⟩ : ByteArray)) := (blk_cell BK184.out 1).trans rfl; have hfz41_0 := blk_frozen BK184.out 0; have hfz41_1 := blk_frozen BK184.out 1) | ((with_reducible refine gate_store (t := 68) (p := 10) rfl ?_); (try (rw [drewN_self w40]; generalize hq_ : World.drewN w40 _ = w40; have n0_ := Aside0.mk (Kd.R_at hq_ HO_4.out); have n1_ := Aside0.mk (Kd.R_at hq_ HO_5.out); have n2_ := Aside0.mk (Kd.R_at hq_ HO_6.out); have n3_ := Aside0.mk (blk_at hq_ BK184.out); have n4_ := Aside0.mk (below_at hq_ HB.out); clear hq_ HO_4 HO_5 HO_6 BK184 HB; have HO_4 := n0_; have HO_5 := n1_; have HO_6 := n2_; have BK184 := n3_; have HB := n4_; clear n0_ n1_ n2_ n3_ n4_)); refine store_event (t := 68) (p := 10) (v := ?vo_w42) (w1 := ((w40.setCell ⟨gb184, 0, none⟩ (.string t181)).setCell ⟨gb184, 1, none⟩ (.string t182))) ?hg ?ho ?hn ?hr ?_; (case ho => rfl); (case hg => rfl); (case hn => rfl); (case hr => first | (go_simp; done) | (go_simp; rfl)); intro w42 hw; have n0_ : Aside0 (Kd.R (Kd.int .u8) 5 w42 w.heap.size (fun _ => True) v173 t172) := ⟨(by rw [hw]; exact (by (with_reducible repeat (first | apply Kd.R_alloc | apply Kd.R_drewN | apply Kd.R_drew)); exact Kd.R_mono (Kd.R_far (p := ⟨gb184, 1, none⟩) (Kd.R_far (p := ⟨gb184, 0, none⟩) (Kd.R_types HO_4.out BK184.out (by decide)) (fun _ hk => hk.2) (.string t181)) (fun _ hk => hk.2) (.string t182)) (fun _ hk => trivial)))⟩; have n1_ : Aside0 (Kd.R Kd.string 9 w42 w.heap.size (fun _ => True) (.slice (some ad178) t175.length co9) t175) := ⟨(by rw [hw]; exact (by (with_reducible repeat (first | apply Kd.R_alloc | apply Kd.R_drewN | apply Kd.R_drew)); exact Kd.R_mono (Kd.R_far (p := ⟨gb184, 1, none⟩) (Kd.R_far (p := ⟨gb184, 0, none⟩) (Kd.R_types HO_5.out BK184.out (by decide)) (fun _ hk => hk.2) (.string t181)) (fun _ hk => hk.2) (.string t182)) (fun _ hk => trivial)))⟩; have n2_ : Aside0 (Kd.R k68 68 w42 w.heap.size (fun k_ => k_ ≠ gb184) u6 x6_1) := ⟨(by rw [hw]; exact (by (with_reducible repeat (first | apply Kd.R_alloc | apply Kd.R_drewN | apply Kd.R_drew)); exact Kd.R_mono (Kd.R_far (p := ⟨gb184, 1, none⟩) (Kd.R_far (p := ⟨gb184, 0, none⟩) (Kd.R_mono HO_6.out (fun k_ hk => (⟨hk, hk.2⟩ : _ ∧ k_ ≠ gb184))) (fun _ hk => hk.2) (.string t181)) (fun _ hk => hk.2) (.string t182)) (fun _ hk => hk.1.2)))⟩; have n3_ : Aside0 (w42.heap[gb184]? = some (.cells #[.string t181, .string t182] 68 (0, 0))) := ⟨(by rw [hw]; exact (by (with_reducible repeat (first | refine blk_drewN ?_ _ | refine blk_drew ?_ | refine blk_alloc ?_ _)); refine blk_put (cs := #[.string t181, .string (⟨#[]⟩ : ByteArray)]) ?_ 1 _ rfl; (with_reducible repeat (first | refine blk_drewN ?_ _ | refine blk_drew ?_ | refine blk_alloc ?_ _)); refine blk_put (cs := #[.string (⟨#[]⟩ : ByteArray), .string (⟨#[]⟩ : ByteArray)]) ?_ 0 _ rfl; (with_reducible repeat (first | refine blk_drewN ?_ _ | refine blk_drew ?_ | refine blk_alloc ?_ _)); exact BK184.out))⟩; have n4_ : Aside0 (Below w.heap.size w w42) := ⟨(by rw [hw]; exact (by repeat (first | (with_reducible first | exact HB.out | apply below_alloc | apply pw_below_drewN | apply below_drew1 | refine below_set ?_ GE184.out) | exact HB.out)))⟩; clear hw; clear HO_4; clear HO_5; clear HO_6; clear BK184; clear HB; have HO_4 := n0_; have HO_5 := n1_; have HO_6 := n2_; have BK184 := n3_; have HB := n4_; clear n0_ n1_ n2_ n3_ n4_; obtain ⟨Ao43, co43, eo43⟩ := Kd.R_slice HO_4.out; subst eo43; have q44 : ((ji36) : Int) ≤ ((t172.length : Int) : Int) := of_decide_eq_true (by first | (with_reducible assumption) | assumption); obtain ⟨i044, hi044, _, hsz44, _⟩ := info_parts info5; have hcut44 := cut_from (P := Tryd.prog) 26 5 .i64 Tryd.underlying26 hi044 1 hsz44 Ao43 t172.length co43 (ji36) (of_decide_eq_true (by first | (with_reducible assumption) | assumption)) q44; have hr44 := Kd.Q_drop (k := ((ji36) : Int).toNat) (Kd.Q_of_R HO_4.out) (by omega); obtain ⟨A44, hA44⟩ : ∃ A1, A1 = (if co43 = ((ji36) : Int).toNat then Ao43 else (Ao43 : Option Addr).map (·.add (((ji36) : Int).toNat * 1))) := ⟨_, rfl⟩; obtain ⟨c44, hc44⟩ : ∃ c1, c1 = co43 - ((ji36) : Int).toNat := ⟨_, rfl⟩; have hy44 : y188.length = t172.length - ((ji36) : Int).toNat := (by rw [Ny188.out, List.length_drop]); rw [← Ny188.out] at hr44; rw [← hy44, ← hA44, ← hc44] at hcut44; replace hr44 : Kd.Q (Kd.int .u8) 5 w42 w.heap.size (fun _ => True) (.slice A44 y188.length c44) y188 := (by rw [hA44, hc44, hy44]; exact hr44); have HE44 : Aside0 ((Value.slice A44 y188.length c44).ownBlock = (.slice Ao43 t172.length co43 : Value).ownBlock) := ⟨by rw [hA44]; split <;> (cases (Ao43 : Option Addr) <;> first | rfl | (simp only [Option.map_some, Value.ownBlock, add_blk]))⟩; clear hy44 hi044 hsz44 HO_4 hA44 hc44; have HO190 := Aside0.mk hr44; clear hr44; replace q44 := eq_true q44))
                        repeat (go_quiet (first | (go_at_call 48; (with_reducible refine (mailbagref18_field.calls kj7 (rdOf ByteArray.empty t175 x8_1) t181 t182 false _ A28.out).mono ?_); rintro e w39 ⟨rfl, hb⟩; have n0_ := Aside0.mk (Kd.R_below (by (with_reducible repeat (first | apply Kd.R_alloc | apply Kd.R_drewN | apply Kd.R_drew)); exact HO_4.out) hb); have n1_ := Aside0.mk (Kd.R_below (by (with_reducible repeat (first | apply Kd.R_alloc | apply Kd.R_drewN | apply Kd.R_drew)); exact HO_5.out) hb); have n2_ := Aside0.mk (Kd.R_below (by (with_reducible repeat (first | apply Kd.R_alloc | apply Kd.R_drewN | apply Kd.R_drew)); exact HO_6.out) hb); have n3_ := Aside0.mk (below_step (by repeat (first | (with_reducible first | exact HB.out | apply below_alloc | apply pw_below_drewN | apply below_drew1) | exact HB.out)) hb); clear HO_4; clear HO_5; clear HO_6; clear HB; have HO_4 := n0_; have HO_5 := n1_; have HO_6 := n2_; have HB := n3_; clear n0_ n1_ n2_ n3_; (try clear hb); (try clear hb2); (try clear hk); (try clear hi)) | ((with_reducible refine gate_dst (N := 10) rfl ?_); (try (refine gate_guard (by rfl) ?_; dsimp only)); refine box_event ?hg (N := 10) ?hd (cs := #[.string (⟨#[]⟩ : ByteArray), .string (⟨#[]⟩ : ByteArray)]) (t := 68) ?hr ?_; (case hd => rfl); (case hg => rfl); (case hr => first | (go_simp; done) | (go_simp; rfl)); intro gb184 hg w40 hbox hb; have n0_ := Aside0.mk (Kd.R_below (by (with_reducible repeat (first | apply Kd.R_alloc | apply Kd.R_drewN | apply Kd.R_drew)); exact HO_4.out) hb); have n1_ := Aside0.mk (Kd.R_below (by (with_reducible repeat (first | apply Kd.R_alloc | apply Kd.R_drewN | apply Kd.R_drew)); exact HO_5.out) hb); have n2_ := Aside0.mk (Kd.R_below (Kd.R_elderB (by (with_reducible repeat (first | apply Kd.R_alloc | apply Kd.R_drewN | apply Kd.R_drew)); exact HO_6.out) gb184 (Nat.le_of_eq hg.symm)) hb); have n3_ := Aside0.mk (below_step (by repeat (first | (with_reducible first | exact HB.out | apply below_alloc | apply pw_below_drewN | apply below_drew1) | exact HB.out)) hb); have n4_ := Aside0.mk (hbox); have n5_ := Aside0.mk ((by rw [hg]; exact (below_size (by repeat (first | (with_reducible first | exact HB.out | apply below_alloc | apply pw_below_drewN | apply below_drew1) | exact HB.out))) : w.heap.size ≤ gb184)); have n6_ := Aside0.mk ((by rw [hg]; exact (below_size (by repeat (first | (with_reducible first | exact HB.out | apply below_alloc | apply pw_below_drewN | apply below_drew1) | exact HB.out))) : w.heap.size ≤ gb184)); clear HO_4; clear HO_5; clear HO_6; clear HB; have HO_4 := n0_; have HO_5 := n1_; have HO_6 := n2_; have HB := n3_; have BK184 := n4_; have GW184 := n5_; have GE184 := n6_; clear n0_ n1_ n2_ n3_ n4_ n5_ n6_; clear hb hbox hg; have hcz41_0 : w40.cell? ⟨gb184, 0, none⟩ = some (.string (⟨#[]⟩ : ByteArray)) := (blk_cell BK184.out 0).trans rfl; have hcz41_1 : w40.cell? ⟨gb184, 1, none⟩ = some (.string (⟨#[]⟩ : ByteArray)) := (blk_cell BK184.out 1).trans rfl; have hfz41_0 := blk_frozen BK184.out 0; have hfz41_1 := blk_frozen BK184.out 1) | ((with_reducible refine gate_store (t := 68) (p := 10) rfl ?_); (try (rw [drewN_self w40]; generalize hq_ : World.drewN w40 _ = w40; have n0_ := Aside0.mk (Kd.R_at hq_ HO_4.out); have n1_ := Aside0.mk (Kd.R_at hq_ HO_5.out); have n2_ := Aside0.mk (Kd.R_at hq_ HO_6.out); have n3_ := Aside0.mk (blk_at hq_ BK184.out); have n4_ := Aside0.mk (below_at hq_ HB.out); clear hq_ HO_4 HO_5 HO_6 BK184 HB; have HO_4 := n0_; have HO_5 := n1_; have HO_6 := n2_; have BK184 := n3_; have HB := n4_; clear n0_ n1_ n2_ n3_ n4_)); refine store_event (t := 68) (p := 10) (v := ?vo_w42) (w1 := ((w40.setCell ⟨gb184, 0, none⟩ (.string t181)).setCell ⟨gb184, 1, none⟩ (.string t182))) ?hg ?ho ?hn ?hr ?_; (case ho => rfl); (case hg => rfl); (case hn => rfl); (case hr => first | (go_simp; done) | (go_simp; rfl)); intro w42 hw; have n0_ : Aside0 (Kd.R (Kd.int .u8) 5 w42 w.heap.size (fun _ => True) v173 t172) := ⟨(by rw [hw]; exact (by (with_reducible repeat (first | apply Kd.R_alloc | apply Kd.R_drewN | apply Kd.R_drew)); exact Kd.R_mono (Kd.R_far (p := ⟨gb184, 1, none⟩) (Kd.R_far (p := ⟨gb184, 0, none⟩) (Kd.R_types HO_4.out BK184.out (by decide)) (fun _ hk => hk.2) (.string t181)) (fun _ hk => hk.2) (.string t182)) (fun _ hk => trivial)))⟩; have n1_ : Aside0 (Kd.R Kd.string 9 w42 w.heap.size (fun _ => True) (.slice (some ad178) t175.length co9) t175) := ⟨(by rw [hw]; exact (by (with_reducible repeat (first | apply Kd.R_alloc | apply Kd.R_drewN | apply Kd.R_drew)); exact Kd.R_mono (Kd.R_far (p := ⟨gb184, 1, none⟩) (Kd.R_far (p := ⟨gb184, 0, none⟩) (Kd.R_types HO_5.out BK184.out (by decide)) (fun _ hk => hk.2) (.string t181)) (fun _ hk => hk.2) (.string t182)) (fun _ hk => trivial)))⟩; have n2_ : Aside0 (Kd.R k68 68 w42 w.heap.size (fun k_ => k_ ≠ gb184) u6 x6_1) := ⟨(by rw [hw]; exact (by (with_reducible repeat (first | apply Kd.R_alloc | apply Kd.R_drewN | apply Kd.R_drew)); exact Kd.R_mono (Kd.R_far (p := ⟨gb184, 1, none⟩) (Kd.R_far (p := ⟨gb184, 0, none⟩) (Kd.R_mono HO_6.out (fun k_ hk => (⟨hk, hk.2⟩ : _ ∧ k_ ≠ gb184))) (fun _ hk => hk.2) (.string t181)) (fun _ hk => hk.2) (.string t182)) (fun _ hk => hk.1.2)))⟩; have n3_ : Aside0 (w42.heap[gb184]? = some (.cells #[.string t181, .string t182] 68 (0, 0))) := ⟨(by rw [hw]; exact (by (with_reducible repeat (first | refine blk_drewN ?_ _ | refine blk_drew ?_ | refine blk_alloc ?_ _)); refine blk_put (cs := #[.string t181, .string (⟨#[]⟩ : ByteArray)]) ?_ 1 _ rfl; (with_reducible repeat (first | refine blk_drewN ?_ _ | refine blk_drew ?_ | refine blk_alloc ?_ _)); refine blk_put (cs := #[.string (⟨#[]⟩ : ByteArray), .string (⟨#[]⟩ : ByteArray)]) ?_ 0 _ rfl; (with_reducible repeat (first | refine blk_drewN ?_ _ | refine blk_drew ?_ | refine blk_alloc ?_ _)); exact BK184.out))⟩; have n4_ : Aside0 (Below w.heap.size w w42) := ⟨(by rw [hw]; exact (by repeat (first | (with_reducible first | exact HB.out | apply below_alloc | apply pw_below_drewN | apply below_drew1 | refine below_set ?_ GE184.out) | exact HB.out)))⟩; clear hw; clear HO_4; clear HO_5; clear HO_6; clear BK184; clear HB; have HO_4 := n0_; have HO_5 := n1_; have HO_6 := n2_; have BK184 := n3_; have HB := n4_; clear n0_ n1_ n2_ n3_ n4_; obtain ⟨Ao43, co43, eo43⟩ := Kd.R_slice HO_4.out; subst eo43; have q44 : ((ji36) : Int) ≤ ((t172.length : Int) : Int) := of_decide_eq_true (by first | (with_reducible assumption) | assumption); obtain ⟨i044, hi044, _, hsz44, _⟩ := info_parts info5; have hcut44 := cut_from (P := Tryd.prog) 26 5 .i64 Tryd.underlying26 hi044 1 hsz44 Ao43 t172.length co43 (ji36) (of_decide_eq_true (by first | (with_reducible assumption) | assumption)) q44; have hr44 := Kd.Q_drop (k := ((ji36) : Int).toNat) (Kd.Q_of_R HO_4.out) (by omega); obtain ⟨A44, hA44⟩ : ∃ A1, A1 = (if co43 = ((ji36) : Int).toNat then Ao43 else (Ao43 : Option Addr).map (·.add (((ji36) : Int).toNat * 1))) := ⟨_, rfl⟩; obtain ⟨c44, hc44⟩ : ∃ c1, c1 = co43 - ((ji36) : Int).toNat := ⟨_, rfl⟩; have hy44 : y188.length = t172.length - ((ji36) : Int).toNat := (by rw [Ny188.out, List.length_drop]); rw [← Ny188.out] at hr44; rw [← hy44, ← hA44, ← hc44] at hcut44; replace hr44 : Kd.Q (Kd.int .u8) 5 w42 w.heap.size (fun _ => True) (.slice A44 y188.length c44) y188 := (by rw [hA44, hc44, hy44]; exact hr44); have HE44 : Aside0 ((Value.slice A44 y188.length c44).ownBlock = (.slice Ao43 t172.length co43 : Value).ownBlock) := ⟨by rw [hA44]; split <;> (cases (Ao43 : Option Addr) <;> first | rfl | (simp only [Option.map_some, Value.ownBlock, add_blk]))⟩; clear hy44 hi044 hsz44 HO_4 hA44 hc44; have HO190 := Aside0.mk hr44; clear hr44; replace q44 := eq_true q44)); try go_wp2_with (first | (go_at_call 48; (with_reducible refine (mailbagref18_field.calls kj7 (rdOf ByteArray.empty t175 x8_1) t181 t182 false _ A28.out).mono ?_); rintro e w39 ⟨rfl, hb⟩; have n0_ := Aside0.mk (Kd.R_below (by (with_reducible repeat (first | apply Kd.R_alloc | apply Kd.R_drewN | apply Kd.R_drew)); exact HO_4.out) hb); have n1_ := Aside0.mk (Kd.R_below (by (with_reducible repeat (first | apply Kd.R_alloc | apply Kd.R_drewN | apply Kd.R_drew)); exact HO_5.out) hb); have n2_ := Aside0.mk (Kd.R_below (by (with_reducible repeat (first | apply Kd.R_alloc | apply Kd.R_drewN | apply Kd.R_drew)); exact HO_6.out) hb); have n3_ := Aside0.mk (below_step (by repeat (first | (with_reducible first | exact HB.out | apply below_alloc | apply pw_below_drewN | apply below_drew1) | exact HB.out)) hb); clear HO_4; clear HO_5; clear HO_6; clear HB; have HO_4 := n0_; have HO_5 := n1_; have HO_6 := n2_; have HB := n3_; clear n0_ n1_ n2_ n3_; (try clear hb); (try clear hb2); (try clear hk); (try clear hi)) | ((with_reducible refine gate_dst (N := 10) rfl ?_); (try (refine gate_guard (by rfl) ?_; dsimp only)); refine box_event ?hg (N := 10) ?hd (cs := #[.string (⟨#[]⟩ : ByteArray), .string (⟨#[]⟩ : ByteArray)]) (t := 68) ?hr ?_; (case hd => rfl); (case hg => rfl); (case hr => first | (go_simp; done) | (go_simp; rfl)); intro gb184 hg w40 hbox hb; have n0_ := Aside0.mk (Kd.R_below (by (with_reducible repeat (first | apply Kd.R_alloc | apply Kd.R_drewN | apply Kd.R_drew)); exact HO_4.out) hb); have n1_ := Aside0.mk (Kd.R_below (by (with_reducible repeat (first | apply Kd.R_alloc | apply Kd.R_drewN | apply Kd.R_drew)); exact HO_5.out) hb); have n2_ := Aside0.mk (Kd.R_below (Kd.R_elderB (by (with_reducible repeat (first | apply Kd.R_alloc | apply Kd.R_drewN | apply Kd.R_drew)); exact HO_6.out) gb184 (Nat.le_of_eq hg.symm)) hb); have n3_ := Aside0.mk (below_step (by repeat (first | (with_reducible first | exact HB.out | apply below_alloc | apply pw_below_drewN | apply below_drew1) | exact HB.out)) hb); have n4_ := Aside0.mk (hbox); have n5_ := Aside0.mk ((by rw [hg]; exact (below_size (by repeat (first | (with_reducible first | exact HB.out | apply below_alloc | apply pw_below_drewN | apply below_drew1) | exact HB.out))) : w.heap.size ≤ gb184)); have n6_ := Aside0.mk ((by rw [hg]; exact (below_size (by repeat (first | (with_reducible first | exact HB.out | apply below_alloc | apply pw_below_drewN | apply below_drew1) | exact HB.out))) : w.heap.size ≤ gb184)); clear HO_4; clear HO_5; clear HO_6; clear HB; have HO_4 := n0_; have HO_5 := n1_; have HO_6 := n2_; have HB := n3_; have BK184 := n4_; have GW184 := n5_; have GE184 := n6_; clear n0_ n1_ n2_ n3_ n4_ n5_ n6_; clear hb hbox hg; have hcz41_0 : w40.cell? ⟨gb184, 0, none⟩ = some (.string (⟨#[]⟩ : ByteArray)) := (blk_cell BK184.out 0).trans rfl; have hcz41_1 : w40.cell? ⟨gb184, 1, none⟩ = some (.string (⟨#[]⟩ : ByteArray)) := (blk_cell BK184.out 1).trans rfl; have hfz41_0 := blk_frozen BK184.out 0; have hfz41_1 := blk_frozen BK184.out 1) | ((with_reducible refine gate_store (t := 68) (p := 10) rfl ?_); (try (rw [drewN_self w40]; generalize hq_ : World.drewN w40 _ = w40; have n0_ := Aside0.mk (Kd.R_at hq_ HO_4.out); have n1_ := Aside0.mk (Kd.R_at hq_ HO_5.out); have n2_ := Aside0.mk (Kd.R_at hq_ HO_6.out); have n3_ := Aside0.mk (blk_at hq_ BK184.out); have n4_ := Aside0.mk (below_at hq_ HB.out); clear hq_ HO_4 HO_5 HO_6 BK184 HB; have HO_4 := n0_; have HO_5 := n1_; have HO_6 := n2_; have BK184 := n3_; have HB := n4_; clear n0_ n1_ n2_ n3_ n4_)); refine store_event (t := 68) (p := 10) (v := ?vo_w42) (w1 := ((w40.setCell ⟨gb184, 0, none⟩ (.string t181)).setCell ⟨gb184, 1, none⟩ (.string t182))) ?hg ?ho ?hn ?hr ?_; (case ho => rfl); (case hg => rfl); (case hn => rfl); (case hr => first | (go_simp; done) | (go_simp; rfl)); intro w42 hw; have n0_ : Aside0 (Kd.R (Kd.int .u8) 5 w42 w.heap.size (fun _ => True) v173 t172) := ⟨(by rw [hw]; exact (by (with_reducible repeat (first | apply Kd.R_alloc | apply Kd.R_drewN | apply Kd.R_drew)); exact Kd.R_mono (Kd.R_far (p := ⟨gb184, 1, none⟩) (Kd.R_far (p := ⟨gb184, 0, none⟩) (Kd.R_types HO_4.out BK184.out (by decide)) (fun _ hk => hk.2) (.string t181)) (fun _ hk => hk.2) (.string t182)) (fun _ hk => trivial)))⟩; have n1_ : Aside0 (Kd.R Kd.string 9 w42 w.heap.size (fun _ => True) (.slice (some ad178) t175.length co9) t175) := ⟨(by rw [hw]; exact (by (with_reducible repeat (first | apply Kd.R_alloc | apply Kd.R_drewN | apply Kd.R_drew)); exact Kd.R_mono (Kd.R_far (p := ⟨gb184, 1, none⟩) (Kd.R_far (p := ⟨gb184, 0, none⟩) (Kd.R_types HO_5.out BK184.out (by decide)) (fun _ hk => hk.2) (.string t181)) (fun _ hk => hk.2) (.string t182)) (fun _ hk => trivial)))⟩; have n2_ : Aside0 (Kd.R k68 68 w42 w.heap.size (fun k_ => k_ ≠ gb184) u6 x6_1) := ⟨(by rw [hw]; exact (by (with_reducible repeat (first | apply Kd.R_alloc | apply Kd.R_drewN | apply Kd.R_drew)); exact Kd.R_mono (Kd.R_far (p := ⟨gb184, 1, none⟩) (Kd.R_far (p := ⟨gb184, 0, none⟩) (Kd.R_mono HO_6.out (fun k_ hk => (⟨hk, hk.2⟩ : _ ∧ k_ ≠ gb184))) (fun _ hk => hk.2) (.string t181)) (fun _ hk => hk.2) (.string t182)) (fun _ hk => hk.1.2)))⟩; have n3_ : Aside0 (w42.heap[gb184]? = some (.cells #[.string t181, .string t182] 68 (0, 0))) := ⟨(by rw [hw]; exact (by (with_reducible repeat (first | refine blk_drewN ?_ _ | refine blk_drew ?_ | refine blk_alloc ?_ _)); refine blk_put (cs := #[.string t181, .string (⟨#[]⟩ : ByteArray)]) ?_ 1 _ rfl; (with_reducible repeat (first | refine blk_drewN ?_ _ | refine blk_drew ?_ | refine blk_alloc ?_ _)); refine blk_put (cs := #[.string (⟨#[]⟩ : ByteArray), .string (⟨#[]⟩ : ByteArray)]) ?_ 0 _ rfl; (with_reducible repeat (first | refine blk_drewN ?_ _ | refine blk_drew ?_ | refine blk_alloc ?_ _)); exact BK184.out))⟩; have n4_ : Aside0 (Below w.heap.size w w42) := ⟨(by rw [hw]; exact (by repeat (first | (with_reducible first | exact HB.out | apply below_alloc | apply pw_below_drewN | apply below_drew1 | refine below_set ?_ GE184.out) | exact HB.out)))⟩; clear hw; clear HO_4; clear HO_5; clear HO_6; clear BK184; clear HB; have HO_4 := n0_; have HO_5 := n1_; have HO_6 := n2_; have BK184 := n3_; have HB := n4_; clear n0_ n1_ n2_ n3_ n4_; obtain ⟨Ao43, co43, eo43⟩ := Kd.R_slice HO_4.out; subst eo43; have q44 : ((ji36) : Int) ≤ ((t172.length : Int) : Int) := of_decide_eq_true (by first | (with_reducible assumption) | assumption); obtain ⟨i044, hi044, _, hsz44, _⟩ := info_parts info5; have hcut44 := cut_from (P := Tryd.prog) 26 5 .i64 Tryd.underlying26 hi044 1 hsz44 Ao43 t172.length co43 (ji36) (of_decide_eq_true (by first | (with_reducible assumption) | assumption)) q44; have hr44 := Kd.Q_drop (k := ((ji36) : Int).toNat) (Kd.Q_of_R HO_4.out) (by omega); obtain ⟨A44, hA44⟩ : ∃ A1, A1 = (if co43 = ((ji36) : Int).toNat then Ao43 else (Ao43 : Option Addr).map (·.add (((ji36) : Int).toNat * 1))) := ⟨_, rfl⟩; obtain ⟨c44, hc44⟩ : ∃ c1, c1 = co43 - ((ji36) : Int).toNat := ⟨_, rfl⟩; have hy44 : y188.length = t172.length - ((ji36) : Int).toNat := (by rw [Ny188.out, List.length_drop]); rw [← Ny188.out] at hr44; rw [← hy44, ← hA44, ← hc44] at hcut44; replace hr44 : Kd.Q (Kd.int .u8) 5 w42 w.heap.size (fun _ => True) (.slice A44 y188.length c44) y188 := (by rw [hA44, hc44, hy44]; exact hr44); have HE44 : Aside0 ((Value.slice A44 y188.length c44).ownBlock = (.slice Ao43 t172.length co43 : Value).ownBlock) := ⟨by rw [hA44]; split <;> (cases (Ao43 : Option Addr) <;> first | rfl | (simp only [Option.map_some, Value.ownBlock, add_blk]))⟩; clear hy44 hi044 hsz44 HO_4 hA44 hc44; have HO190 := Aside0.mk hr44; clear hr44; replace q44 := eq_true q44)))
                        go_ret2
                        exact ⟨_, _, by first | rfl | (simp [errW_none, errW_some] <;> rfl) | (simp only [← hji36]; first | rfl | (simp [errW_none, errW_some] <;> rfl)) | (simp [*, errW_none, errW_some] <;> rfl), by (with_reducible repeat (first | apply Kd.R_alloc | apply Kd.R_drewN | apply Kd.R_drew)); exact Kd.R_mono HO_6.out (fun _ hk => trivial), by (with_reducible repeat (first | apply Kd.Q_alloc | apply Kd.Q_drewN | apply Kd.Q_drew)); exact HO190.out, by repeat (first | (with_reducible first | exact HB.out | apply below_alloc | apply pw_below_drewN | apply below_drew1 | refine below_set ?_ GE184.out) | exact HB.out)⟩
                      · rw [if_neg c38] at H
                        exact absurd H (by simp)
                    · rw [if_neg c37] at H
                      exact absurd H (by simp)
                  · rw [if_neg c35] at H
                    have c35b0 : ((rdOf ByteArray.empty t175 x8_1).toList == ([] : List UInt8)) = false := beq_eq_false_iff_ne.mpr c35
                    have c35b1 : ((rdOf ByteArray.empty t175 x8_1).toList != ([] : List UInt8)) = true := bne_iff_ne.mpr c35
                    by_cases c45 : 0 ≤ x7_1
                    · rw [if_pos c45] at H
                      have c45b0 := eq_true c45
                      have c45b1 : decide (0 ≤ x7_1) = true := decide_eq_true c45
                      clear c45
                      by_cases c46 : x7_1 ≤ (t172.length : Int)
                      · rw [if_pos c46] at H
                        have c46b0 := eq_true c46
                        have c46b1 : decide (x7_1 ≤ (t172.length : Int)) = true := decide_eq_true c46
                        clear c46
                        obtain ⟨y191, hy191⟩ : ∃ y_ : List Int, y_ = (t172.drop (x7_1 : Int).toNat) := ⟨_, rfl⟩
                        replace H : (some (x6_1, y191)) = some (r1, r2) := by first | (rw [hy191]; with_reducible exact H) | (have H2_ := (Option.bind_some _ _).symm.trans H; rw [hy191]; with_reducible exact H2_) | (have H2_ := (Option.bind_some _ _).symm.trans H; with_reducible exact H2_) | with_reducible exact H | (rw [hy191]; exact H) | exact H
                        have Ny191 := Aside0.mk hy191
                        clear hy191
                        simp only [Option.some.injEq, Prod.mk.injEq] at H
                        obtain ⟨rfl, rfl⟩ := H
                        go_wp2_with (first | (go_at_call 48; (with_reducible refine (mailbagref18_field.calls kj7 (rdOf ByteArray.empty t175 x8_1) t181 t182 false _ A28.out).mono ?_); rintro e w47 ⟨rfl, hb⟩; have n0_ := Aside0.mk (Kd.R_below (by (with_reducible repeat (first | apply Kd.R_alloc | apply Kd.R_drewN | apply Kd.R_drew)); exact HO_4.out) hb); have n1_ := Aside0.mk (Kd.R_below (by (with_reducible repeat (first | apply Kd.R_alloc | apply Kd.R_drewN | apply Kd.R_drew)); exact HO_5.out) hb); have n2_ := Aside0.mk (Kd.R_below (by (with_reducible repeat (first | apply Kd.R_alloc | apply Kd.R_drewN | apply Kd.R_drew)); exact HO_6.out) hb); have n3_ := Aside0.mk (below_step (by repeat (first | (with_reducible first | exact HB.out | apply below_alloc | apply pw_below_drewN | apply below_drew1) | exact HB.out)) hb); clear HO_4; clear HO_5; clear HO_6; clear HB; have HO_4 := n0_; have HO_5 := n1_; have HO_6 := n2_; have HB := n3_; clear n0_ n1_ n2_ n3_; (try clear hb); (try clear hb2); (try clear hk); (try clear hi)) | ((with_reducible refine gate_dst (N := 10) rfl ?_); (try (refine gate_guard (by rfl) ?_; dsimp only)); refine box_event ?hg (N := 10) ?hd (cs := #[.string (⟨#[]⟩ : ByteArray), .string (⟨#[]⟩ : ByteArray)]) (t := 68) ?hr ?_; (case hd => rfl); (case hg => rfl); (case hr => first | (go_simp; done) | (go_simp; rfl)); intro gb184 hg w48 hbox hb; have n0_ := Aside0.mk (Kd.R_below (by (with_reducible repeat (first | apply Kd.R_alloc | apply Kd.R_drewN | apply Kd.R_drew)); exact HO_4.out) hb); have n1_ := Aside0.mk (Kd.R_below (by (with_reducible repeat (first | apply Kd.R_alloc | apply Kd.R_drewN | apply Kd.R_drew)); exact HO_5.out) hb); have n2_ := Aside0.mk (Kd.R_below (Kd.R_elderB (by (with_reducible repeat (first | apply Kd.R_alloc | apply Kd.R_drewN | apply Kd.R_drew)); exact HO_6.out) gb184 (Nat.le_of_eq hg.symm)) hb); have n3_ := Aside0.mk (below_step (by repeat (first | (with_reducible first | exact HB.out | apply below_alloc | apply pw_below_drewN | apply below_drew1) | exact HB.out)) hb); have n4_ := Aside0.mk (hbox); have n5_ := Aside0.mk ((by rw [hg]; exact (below_size (by repeat (first | (with_reducible first | exact HB.out | apply below_alloc | apply pw_below_drewN | apply below_drew1) | exact HB.out))) : w.heap.size ≤ gb184)); have n6_ := Aside0.mk ((by rw [hg]; exact (below_size (by repeat (first | (with_reducible first | exact HB.out | apply below_alloc | apply pw_below_drewN | apply below_drew1) | exact HB.out))) : w.heap.size ≤ gb184)); clear HO_4; clear HO_5; clear HO_6; clear HB; have HO_4 := n0_; have HO_5 := n1_; have HO_6 := n2_; have HB := n3_; have BK184 := n4_; have GW184 := n5_; have GE184 := n6_; clear n0_ n1_ n2_ n3_ n4_ n5_ n6_; clear hb hbox hg; have hcz49_0 : w48.cell? ⟨gb184, 0, none⟩ = some (.string (⟨#[]⟩ : ByteArray)) := (blk_cell BK184.out 0).trans rfl; have hcz49_1 : w48.cell? ⟨gb184, 1, none⟩ = some (.string (⟨#[]⟩ : ByteArray)) := (blk_cell BK184.out 1).trans rfl; have hfz49_0 := blk_frozen BK184.out 0; have hfz49_1 := blk_frozen BK184.out 1) | ((with_reducible refine gate_store (t := 68) (p := 10) rfl ?_); (try (rw [drewN_self w48]; generalize hq_ : World.drewN w48 _ = w48; have n0_ := Aside0.mk (Kd.R_at hq_ HO_4.out); have n1_ := Aside0.mk (Kd.R_at hq_ HO_5.out); have n2_ := Aside0.mk (Kd.R_at hq_ HO_6.out); have n3_ := Aside0.mk (blk_at hq_ BK184.out); have n4_ := Aside0.mk (below_at hq_ HB.out); clear hq_ HO_4 HO_5 HO_6 BK184 HB; have HO_4 := n0_; have HO_5 := n1_; have HO_6 := n2_; have BK184 := n3_; have HB := n4_; clear n0_ n1_ n2_ n3_ n4_)); refine store_event (t := 68) (p := 10) (v := ?vo_w50) (w1 := ((w48.setCell ⟨gb184, 0, none⟩ (.string t181)).setCell ⟨gb184, 1, none⟩ (.string t182))) ?hg ?ho ?hn ?hr ?_; (case ho => rfl); (case hg => rfl); (case hn => rfl); (case hr => first | (go_simp; done) | (go_simp; rfl)); intro w50 hw; have n0_ : Aside0 (Kd.R (Kd.int .u8) 5 w50 w.heap.size (fun _ => True) v173 t172) := ⟨(by rw [hw]; exact (by (with_reducible repeat (first | apply Kd.R_alloc | apply Kd.R_drewN | apply Kd.R_drew)); exact Kd.R_mono (Kd.R_far (p := ⟨gb184, 1, none⟩) (Kd.R_far (p := ⟨gb184, 0, none⟩) (Kd.R_types HO_4.out BK184.out (by decide)) (fun _ hk => hk.2) (.string t181)) (fun _ hk => hk.2) (.string t182)) (fun _ hk => trivial)))⟩; have n1_ : Aside0 (Kd.R Kd.string 9 w50 w.heap.size (fun _ => True) (.slice (some ad178) t175.length co9) t175) := ⟨(by rw [hw]; exact (by (with_reducible repeat (first | apply Kd.R_alloc | apply Kd.R_drewN | apply Kd.R_drew)); exact Kd.R_mono (Kd.R_far (p := ⟨gb184, 1, none⟩) (Kd.R_far (p := ⟨gb184, 0, none⟩) (Kd.R_types HO_5.out BK184.out (by decide)) (fun _ hk => hk.2) (.string t181)) (fun _ hk => hk.2) (.string t182)) (fun _ hk => trivial)))⟩; have n2_ : Aside0 (Kd.R k68 68 w50 w.heap.size (fun k_ => k_ ≠ gb184) u6 x6_1) := ⟨(by rw [hw]; exact (by (with_reducible repeat (first | apply Kd.R_alloc | apply Kd.R_drewN | apply Kd.R_drew)); exact Kd.R_mono (Kd.R_far (p := ⟨gb184, 1, none⟩) (Kd.R_far (p := ⟨gb184, 0, none⟩) (Kd.R_mono HO_6.out (fun k_ hk => (⟨hk, hk.2⟩ : _ ∧ k_ ≠ gb184))) (fun _ hk => hk.2) (.string t181)) (fun _ hk => hk.2) (.string t182)) (fun _ hk => hk.1.2)))⟩; have n3_ : Aside0 (w50.heap[gb184]? = some (.cells #[.string t181, .string t182] 68 (0, 0))) := ⟨(by rw [hw]; exact (by (with_reducible repeat (first | refine blk_drewN ?_ _ | refine blk_drew ?_ | refine blk_alloc ?_ _)); refine blk_put (cs := #[.string t181, .string (⟨#[]⟩ : ByteArray)]) ?_ 1 _ rfl; (with_reducible repeat (first | refine blk_drewN ?_ _ | refine blk_drew ?_ | refine blk_alloc ?_ _)); refine blk_put (cs := #[.string (⟨#[]⟩ : ByteArray), .string (⟨#[]⟩ : ByteArray)]) ?_ 0 _ rfl; (with_reducible repeat (first | refine blk_drewN ?_ _ | refine blk_drew ?_ | refine blk_alloc ?_ _)); exact BK184.out))⟩; have n4_ : Aside0 (Below w.heap.size w w50) := ⟨(by rw [hw]; exact (by repeat (first | (with_reducible first | exact HB.out | apply below_alloc | apply pw_below_drewN | apply below_drew1 | refine below_set ?_ GE184.out) | exact HB.out)))⟩; clear hw; clear HO_4; clear HO_5; clear HO_6; clear BK184; clear HB; have HO_4 := n0_; have HO_5 := n1_; have HO_6 := n2_; have BK184 := n3_; have HB := n4_; clear n0_ n1_ n2_ n3_ n4_; obtain ⟨Ao51, co51, eo51⟩ := Kd.R_slice HO_4.out; subst eo51; have q52 : (x7_1 : Int) ≤ ((t172.length : Int) : Int) := of_decide_eq_true (by first | (with_reducible assumption) | assumption); obtain ⟨i052, hi052, _, hsz52, _⟩ := info_parts info5; have hcut52 := cut_from (P := Tryd.prog) 26 5 .i64 Tryd.underlying26 hi052 1 hsz52 Ao51 t172.length co51 x7_1 (of_decide_eq_true (by first | (with_reducible assumption) | assumption)) q52; have hr52 := Kd.Q_drop (k := (x7_1 : Int).toNat) (Kd.Q_of_R HO_4.out) (by omega); obtain ⟨A52, hA52⟩ : ∃ A1, A1 = (if co51 = (x7_1 : Int).toNat then Ao51 else (Ao51 : Option Addr).map (·.add ((x7_1 : Int).toNat * 1))) := ⟨_, rfl⟩; obtain ⟨c52, hc52⟩ : ∃ c1, c1 = co51 - (x7_1 : Int).toNat := ⟨_, rfl⟩; have hy52 : y191.length = t172.length - (x7_1 : Int).toNat := (by rw [Ny191.out, List.length_drop]); rw [← Ny191.out] at hr52; rw [← hy52, ← hA52, ← hc52] at hcut52; replace hr52 : Kd.Q (Kd.int .u8) 5 w50 w.heap.size (fun _ => True) (.slice A52 y191.length c52) y191 := (by rw [hA52, hc52, hy52]; exact hr52); have HE52 : Aside0 ((Value.slice A52 y191.length c52).ownBlock = (.slice Ao51 t172.length co51 : Value).ownBlock) := ⟨by rw [hA52]; split <;> (cases (Ao51 : Option Addr) <;> first | rfl | (simp only [Option.map_some, Value.ownBlock, add_blk]))⟩; clear hy52 hi052 hsz52 HO_4 hA52 hc52; have HO193 := Aside0.mk hr52; clear hr52; replace q52 := eq_true q52))
                        repeat (go_quiet (first | (go_at_call 48; (with_reducible refine (mailbagref18_field.calls kj7 (rdOf ByteArray.empty t175 x8_1) t181 t182 false _ A28.out).mono ?_); rintro e w47 ⟨rfl, hb⟩; have n0_ := Aside0.mk (Kd.R_below (by (with_reducible repeat (first | apply Kd.R_alloc | apply Kd.R_drewN | apply Kd.R_drew)); exact HO_4.out) hb); have n1_ := Aside0.mk (Kd.R_below (by (with_reducible repeat (first | apply Kd.R_alloc | apply Kd.R_drewN | apply Kd.R_drew)); exact HO_5.out) hb); have n2_ := Aside0.mk (Kd.R_below (by (with_reducible repeat (first | apply Kd.R_alloc | apply Kd.R_drewN | apply Kd.R_drew)); exact HO_6.out) hb); have n3_ := Aside0.mk (below_step (by repeat (first | (with_reducible first | exact HB.out | apply below_alloc | apply pw_below_drewN | apply below_drew1) | exact HB.out)) hb); clear HO_4; clear HO_5; clear HO_6; clear HB; have HO_4 := n0_; have HO_5 := n1_; have HO_6 := n2_; have HB := n3_; clear n0_ n1_ n2_ n3_; (try clear hb); (try clear hb2); (try clear hk); (try clear hi)) | ((with_reducible refine gate_dst (N := 10) rfl ?_); (try (refine gate_guard (by rfl) ?_; dsimp only)); refine box_event ?hg (N := 10) ?hd (cs := #[.string (⟨#[]⟩ : ByteArray), .string (⟨#[]⟩ : ByteArray)]) (t := 68) ?hr ?_; (case hd => rfl); (case hg => rfl); (case hr => first | (go_simp; done) | (go_simp; rfl)); intro gb184 hg w48 hbox hb; have n0_ := Aside0.mk (Kd.R_below (by (with_reducible repeat (first | apply Kd.R_alloc | apply Kd.R_drewN | apply Kd.R_drew)); exact HO_4.out) hb); have n1_ := Aside0.mk (Kd.R_below (by (with_reducible repeat (first | apply Kd.R_alloc | apply Kd.R_drewN | apply Kd.R_drew)); exact HO_5.out) hb); have n2_ := Aside0.mk (Kd.R_below (Kd.R_elderB (by (with_reducible repeat (first | apply Kd.R_alloc | apply Kd.R_drewN | apply Kd.R_drew)); exact HO_6.out) gb184 (Nat.le_of_eq hg.symm)) hb); have n3_ := Aside0.mk (below_step (by repeat (first | (with_reducible first | exact HB.out | apply below_alloc | apply pw_below_drewN | apply below_drew1) | exact HB.out)) hb); have n4_ := Aside0.mk (hbox); have n5_ := Aside0.mk ((by rw [hg]; exact (below_size (by repeat (first | (with_reducible first | exact HB.out | apply below_alloc | apply pw_below_drewN | apply below_drew1) | exact HB.out))) : w.heap.size ≤ gb184)); have n6_ := Aside0.mk ((by rw [hg]; exact (below_size (by repeat (first | (with_reducible first | exact HB.out | apply below_alloc | apply pw_below_drewN | apply below_drew1) | exact HB.out))) : w.heap.size ≤ gb184)); clear HO_4; clear HO_5; clear HO_6; clear HB; have HO_4 := n0_; have HO_5 := n1_; have HO_6 := n2_; have HB := n3_; have BK184 := n4_; have GW184 := n5_; have GE184 := n6_; clear n0_ n1_ n2_ n3_ n4_ n5_ n6_; clear hb hbox hg; have hcz49_0 : w48.cell? ⟨gb184, 0, none⟩ = some (.string (⟨#[]⟩ : ByteArray)) := (blk_cell BK184.out 0).trans rfl; have hcz49_1 : w48.cell? ⟨gb184, 1, none⟩ = some (.string (⟨#[]⟩ : ByteArray)) := (blk_cell BK184.out 1).trans rfl; have hfz49_0 := blk_frozen BK184.out 0; have hfz49_1 := blk_frozen BK184.out 1) | ((with_reducible refine gate_store (t := 68) (p := 10) rfl ?_); (try (rw [drewN_self w48]; generalize hq_ : World.drewN w48 _ = w48; have n0_ := Aside0.mk (Kd.R_at hq_ HO_4.out); have n1_ := Aside0.mk (Kd.R_at hq_ HO_5.out); have n2_ := Aside0.mk (Kd.R_at hq_ HO_6.out); have n3_ := Aside0.mk (blk_at hq_ BK184.out); have n4_ := Aside0.mk (below_at hq_ HB.out); clear hq_ HO_4 HO_5 HO_6 BK184 HB; have HO_4 := n0_; have HO_5 := n1_; have HO_6 := n2_; have BK184 := n3_; have HB := n4_; clear n0_ n1_ n2_ n3_ n4_)); refine store_event (t := 68) (p := 10) (v := ?vo_w50) (w1 := ((w48.setCell ⟨gb184, 0, none⟩ (.string t181)).setCell ⟨gb184, 1, none⟩ (.string t182))) ?hg ?ho ?hn ?hr ?_; (case ho => rfl); (case hg => rfl); (case hn => rfl); (case hr => first | (go_simp; done) | (go_simp; rfl)); intro w50 hw; have n0_ : Aside0 (Kd.R (Kd.int .u8) 5 w50 w.heap.size (fun _ => True) v173 t172) := ⟨(by rw [hw]; exact (by (with_reducible repeat (first | apply Kd.R_alloc | apply Kd.R_drewN | apply Kd.R_drew)); exact Kd.R_mono (Kd.R_far (p := ⟨gb184, 1, none⟩) (Kd.R_far (p := ⟨gb184, 0, none⟩) (Kd.R_types HO_4.out BK184.out (by decide)) (fun _ hk => hk.2) (.string t181)) (fun _ hk => hk.2) (.string t182)) (fun _ hk => trivial)))⟩; have n1_ : Aside0 (Kd.R Kd.string 9 w50 w.heap.size (fun _ => True) (.slice (some ad178) t175.length co9) t175) := ⟨(by rw [hw]; exact (by (with_reducible repeat (first | apply Kd.R_alloc | apply Kd.R_drewN | apply Kd.R_drew)); exact Kd.R_mono (Kd.R_far (p := ⟨gb184, 1, none⟩) (Kd.R_far (p := ⟨gb184, 0, none⟩) (Kd.R_types HO_5.out BK184.out (by decide)) (fun _ hk => hk.2) (.string t181)) (fun _ hk => hk.2) (.string t182)) (fun _ hk => trivial)))⟩; have n2_ : Aside0 (Kd.R k68 68 w50 w.heap.size (fun k_ => k_ ≠ gb184) u6 x6_1) := ⟨(by rw [hw]; exact (by (with_reducible repeat (first | apply Kd.R_alloc | apply Kd.R_drewN | apply Kd.R_drew)); exact Kd.R_mono (Kd.R_far (p := ⟨gb184, 1, none⟩) (Kd.R_far (p := ⟨gb184, 0, none⟩) (Kd.R_mono HO_6.out (fun k_ hk => (⟨hk, hk.2⟩ : _ ∧ k_ ≠ gb184))) (fun _ hk => hk.2) (.string t181)) (fun _ hk => hk.2) (.string t182)) (fun _ hk => hk.1.2)))⟩; have n3_ : Aside0 (w50.heap[gb184]? = some (.cells #[.string t181, .string t182] 68 (0, 0))) := ⟨(by rw [hw]; exact (by (with_reducible repeat (first | refine blk_drewN ?_ _ | refine blk_drew ?_ | refine blk_alloc ?_ _)); refine blk_put (cs := #[.string t181, .string (⟨#[]⟩ : ByteArray)]) ?_ 1 _ rfl; (with_reducible repeat (first | refine blk_drewN ?_ _ | refine blk_drew ?_ | refine blk_alloc ?_ _)); refine blk_put (cs := #[.string (⟨#[]⟩ : ByteArray), .string (⟨#[]⟩ : ByteArray)]) ?_ 0 _ rfl; (with_reducible repeat (first | refine blk_drewN ?_ _ | refine blk_drew ?_ | refine blk_alloc ?_ _)); exact BK184.out))⟩; have n4_ : Aside0 (Below w.heap.size w w50) := ⟨(by rw [hw]; exact (by repeat (first | (with_reducible first | exact HB.out | apply below_alloc | apply pw_below_drewN | apply below_drew1 | refine below_set ?_ GE184.out) | exact HB.out)))⟩; clear hw; clear HO_4; clear HO_5; clear HO_6; clear BK184; clear HB; have HO_4 := n0_; have HO_5 := n1_; have HO_6 := n2_; have BK184 := n3_; have HB := n4_; clear n0_ n1_ n2_ n3_ n4_; obtain ⟨Ao51, co51, eo51⟩ := Kd.R_slice HO_4.out; subst eo51; have q52 : (x7_1 : Int) ≤ ((t172.length : Int) : Int) := of_decide_eq_true (by first | (with_reducible assumption) | assumption); obtain ⟨i052, hi052, _, hsz52, _⟩ := info_parts info5; have hcut52 := cut_from (P := Tryd.prog) 26 5 .i64 Tryd.underlying26 hi052 1 hsz52 Ao51 t172.length co51 x7_1 (of_decide_eq_true (by first | (with_reducible assumption) | assumption)) q52; have hr52 := Kd.Q_drop (k := (x7_1 : Int).toNat) (Kd.Q_of_R HO_4.out) (by omega); obtain ⟨A52, hA52⟩ : ∃ A1, A1 = (if co51 = (x7_1 : Int).toNat then Ao51 else (Ao51 : Option Addr).map (·.add ((x7_1 : Int).toNat * 1))) := ⟨_, rfl⟩; obtain ⟨c52, hc52⟩ : ∃ c1, c1 = co51 - (x7_1 : Int).toNat := ⟨_, rfl⟩; have hy52 : y191.length = t172.length - (x7_1 : Int).toNat := (by rw [Ny191.out, List.length_drop]); rw [← Ny191.out] at hr52; rw [← hy52, ← hA52, ← hc52] at hcut52; replace hr52 : Kd.Q (Kd.int .u8) 5 w50 w.heap.size (fun _ => True) (.slice A52 y191.length c52) y191 := (by rw [hA52, hc52, hy52]; exact hr52); have HE52 : Aside0 ((Value.slice A52 y191.length c52).ownBlock = (.slice Ao51 t172.length co51 : Value).ownBlock) := ⟨by rw [hA52]; split <;> (cases (Ao51 : Option Addr) <;> first | rfl | (simp only [Option.map_some, Value.ownBlock, add_blk]))⟩; clear hy52 hi052 hsz52 HO_4 hA52 hc52; have HO193 := Aside0.mk hr52; clear hr52; replace q52 := eq_true q52)); try go_wp2_with (first | (go_at_call 48; (with_reducible refine (mailbagref18_field.calls kj7 (rdOf ByteArray.empty t175 x8_1) t181 t182 false _ A28.out).mono ?_); rintro e w47 ⟨rfl, hb⟩; have n0_ := Aside0.mk (Kd.R_below (by (with_reducible repeat (first | apply Kd.R_alloc | apply Kd.R_drewN | apply Kd.R_drew)); exact HO_4.out) hb); have n1_ := Aside0.mk (Kd.R_below (by (with_reducible repeat (first | apply Kd.R_alloc | apply Kd.R_drewN | apply Kd.R_drew)); exact HO_5.out) hb); have n2_ := Aside0.mk (Kd.R_below (by (with_reducible repeat (first | apply Kd.R_alloc | apply Kd.R_drewN | apply Kd.R_drew)); exact HO_6.out) hb); have n3_ := Aside0.mk (below_step (by repeat (first | (with_reducible first | exact HB.out | apply below_alloc | apply pw_below_drewN | apply below_drew1) | exact HB.out)) hb); clear HO_4; clear HO_5; clear HO_6; clear HB; have HO_4 := n0_; have HO_5 := n1_; have HO_6 := n2_; have HB := n3_; clear n0_ n1_ n2_ n3_; (try clear hb); (try clear hb2); (try clear hk); (try clear hi)) | ((with_reducible refine gate_dst (N := 10) rfl ?_); (try (refine gate_guard (by rfl) ?_; dsimp only)); refine box_event ?hg (N := 10) ?hd (cs := #[.string (⟨#[]⟩ : ByteArray), .string (⟨#[]⟩ : ByteArray)]) (t := 68) ?hr ?_; (case hd => rfl); (case hg => rfl); (case hr => first | (go_simp; done) | (go_simp; rfl)); intro gb184 hg w48 hbox hb; have n0_ := Aside0.mk (Kd.R_below (by (with_reducible repeat (first | apply Kd.R_alloc | apply Kd.R_drewN | apply Kd.R_drew)); exact HO_4.out) hb); have n1_ := Aside0.mk (Kd.R_below (by (with_reducible repeat (first | apply Kd.R_alloc | apply Kd.R_drewN | apply Kd.R_drew)); exact HO_5.out) hb); have n2_ := Aside0.mk (Kd.R_below (Kd.R_elderB (by (with_reducible repeat (first | apply Kd.R_alloc | apply Kd.R_drewN | apply Kd.R_drew)); exact HO_6.out) gb184 (Nat.le_of_eq hg.symm)) hb); have n3_ := Aside0.mk (below_step (by repeat (first | (with_reducible first | exact HB.out | apply below_alloc | apply pw_below_drewN | apply below_drew1) | exact HB.out)) hb); have n4_ := Aside0.mk (hbox); have n5_ := Aside0.mk ((by rw [hg]; exact (below_size (by repeat (first | (with_reducible first | exact HB.out | apply below_alloc | apply pw_below_drewN | apply below_drew1) | exact HB.out))) : w.heap.size ≤ gb184)); have n6_ := Aside0.mk ((by rw [hg]; exact (below_size (by repeat (first | (with_reducible first | exact HB.out | apply below_alloc | apply pw_below_drewN | apply below_drew1) | exact HB.out))) : w.heap.size ≤ gb184)); clear HO_4; clear HO_5; clear HO_6; clear HB; have HO_4 := n0_; have HO_5 := n1_; have HO_6 := n2_; have HB := n3_; have BK184 := n4_; have GW184 := n5_; have GE184 := n6_; clear n0_ n1_ n2_ n3_ n4_ n5_ n6_; clear hb hbox hg; have hcz49_0 : w48.cell? ⟨gb184, 0, none⟩ = some (.string (⟨#[]⟩ : ByteArray)) := (blk_cell BK184.out 0).trans rfl; have hcz49_1 : w48.cell? ⟨gb184, 1, none⟩ = some (.string (⟨#[]⟩ : ByteArray)) := (blk_cell BK184.out 1).trans rfl; have hfz49_0 := blk_frozen BK184.out 0; have hfz49_1 := blk_frozen BK184.out 1) | ((with_reducible refine gate_store (t := 68) (p := 10) rfl ?_); (try (rw [drewN_self w48]; generalize hq_ : World.drewN w48 _ = w48; have n0_ := Aside0.mk (Kd.R_at hq_ HO_4.out); have n1_ := Aside0.mk (Kd.R_at hq_ HO_5.out); have n2_ := Aside0.mk (Kd.R_at hq_ HO_6.out); have n3_ := Aside0.mk (blk_at hq_ BK184.out); have n4_ := Aside0.mk (below_at hq_ HB.out); clear hq_ HO_4 HO_5 HO_6 BK184 HB; have HO_4 := n0_; have HO_5 := n1_; have HO_6 := n2_; have BK184 := n3_; have HB := n4_; clear n0_ n1_ n2_ n3_ n4_)); refine store_event (t := 68) (p := 10) (v := ?vo_w50) (w1 := ((w48.setCell ⟨gb184, 0, none⟩ (.string t181)).setCell ⟨gb184, 1, none⟩ (.string t182))) ?hg ?ho ?hn ?hr ?_; (case ho => rfl); (case hg => rfl); (case hn => rfl); (case hr => first | (go_simp; done) | (go_simp; rfl)); intro w50 hw; have n0_ : Aside0 (Kd.R (Kd.int .u8) 5 w50 w.heap.size (fun _ => True) v173 t172) := ⟨(by rw [hw]; exact (by (with_reducible repeat (first | apply Kd.R_alloc | apply Kd.R_drewN | apply Kd.R_drew)); exact Kd.R_mono (Kd.R_far (p := ⟨gb184, 1, none⟩) (Kd.R_far (p := ⟨gb184, 0, none⟩) (Kd.R_types HO_4.out BK184.out (by decide)) (fun _ hk => hk.2) (.string t181)) (fun _ hk => hk.2) (.string t182)) (fun _ hk => trivial)))⟩; have n1_ : Aside0 (Kd.R Kd.string 9 w50 w.heap.size (fun _ => True) (.slice (some ad178) t175.length co9) t175) := ⟨(by rw [hw]; exact (by (with_reducible repeat (first | apply Kd.R_alloc | apply Kd.R_drewN | apply Kd.R_drew)); exact Kd.R_mono (Kd.R_far (p := ⟨gb184, 1, none⟩) (Kd.R_far (p := ⟨gb184, 0, none⟩) (Kd.R_types HO_5.out BK184.out (by decide)) (fun _ hk => hk.2) (.string t181)) (fun _ hk => hk.2) (.string t182)) (fun _ hk => trivial)))⟩; have n2_ : Aside0 (Kd.R k68 68 w50 w.heap.size (fun k_ => k_ ≠ gb184) u6 x6_1) := ⟨(by rw [hw]; exact (by (with_reducible repeat (first | apply Kd.R_alloc | apply Kd.R_drewN | apply Kd.R_drew)); exact Kd.R_mono (Kd.R_far (p := ⟨gb184, 1, none⟩) (Kd.R_far (p := ⟨gb184, 0, none⟩) (Kd.R_mono HO_6.out (fun k_ hk => (⟨hk, hk.2⟩ : _ ∧ k_ ≠ gb184))) (fun _ hk => hk.2) (.string t181)) (fun _ hk => hk.2) (.string t182)) (fun _ hk => hk.1.2)))⟩; have n3_ : Aside0 (w50.heap[gb184]? = some (.cells #[.string t181, .string t182] 68 (0, 0))) := ⟨(by rw [hw]; exact (by (with_reducible repeat (first | refine blk_drewN ?_ _ | refine blk_drew ?_ | refine blk_alloc ?_ _)); refine blk_put (cs := #[.string t181, .string (⟨#[]⟩ : ByteArray)]) ?_ 1 _ rfl; (with_reducible repeat (first | refine blk_drewN ?_ _ | refine blk_drew ?_ | refine blk_alloc ?_ _)); refine blk_put (cs := #[.string (⟨#[]⟩ : ByteArray), .string (⟨#[]⟩ : ByteArray)]) ?_ 0 _ rfl; (with_reducible repeat (first | refine blk_drewN ?_ _ | refine blk_drew ?_ | refine blk_alloc ?_ _)); exact BK184.out))⟩; have n4_ : Aside0 (Below w.heap.size w w50) := ⟨(by rw [hw]; exact (by repeat (first | (with_reducible first | exact HB.out | apply below_alloc | apply pw_below_drewN | apply below_drew1 | refine below_set ?_ GE184.out) | exact HB.out)))⟩; clear hw; clear HO_4; clear HO_5; clear HO_6; clear BK184; clear HB; have HO_4 := n0_; have HO_5 := n1_; have HO_6 := n2_; have BK184 := n3_; have HB := n4_; clear n0_ n1_ n2_ n3_ n4_; obtain ⟨Ao51, co51, eo51⟩ := Kd.R_slice HO_4.out; subst eo51; have q52 : (x7_1 : Int) ≤ ((t172.length : Int) : Int) := of_decide_eq_true (by first | (with_reducible assumption) | assumption); obtain ⟨i052, hi052, _, hsz52, _⟩ := info_parts info5; have hcut52 := cut_from (P := Tryd.prog) 26 5 .i64 Tryd.underlying26 hi052 1 hsz52 Ao51 t172.length co51 x7_1 (of_decide_eq_true (by first | (with_reducible assumption) | assumption)) q52; have hr52 := Kd.Q_drop (k := (x7_1 : Int).toNat) (Kd.Q_of_R HO_4.out) (by omega); obtain ⟨A52, hA52⟩ : ∃ A1, A1 = (if co51 = (x7_1 : Int).toNat then Ao51 else (Ao51 : Option Addr).map (·.add ((x7_1 : Int).toNat * 1))) := ⟨_, rfl⟩; obtain ⟨c52, hc52⟩ : ∃ c1, c1 = co51 - (x7_1 : Int).toNat := ⟨_, rfl⟩; have hy52 : y191.length = t172.length - (x7_1 : Int).toNat := (by rw [Ny191.out, List.length_drop]); rw [← Ny191.out] at hr52; rw [← hy52, ← hA52, ← hc52] at hcut52; replace hr52 : Kd.Q (Kd.int .u8) 5 w50 w.heap.size (fun _ => True) (.slice A52 y191.length c52) y191 := (by rw [hA52, hc52, hy52]; exact hr52); have HE52 : Aside0 ((Value.slice A52 y191.length c52).ownBlock = (.slice Ao51 t172.length co51 : Value).ownBlock) := ⟨by rw [hA52]; split <;> (cases (Ao51 : Option Addr) <;> first | rfl | (simp only [Option.map_some, Value.ownBlock, add_blk]))⟩; clear hy52 hi052 hsz52 HO_4 hA52 hc52; have HO193 := Aside0.mk hr52; clear hr52; replace q52 := eq_true q52)))
                        go_ret2
                        exact ⟨_, _, by first | rfl | (simp [errW_none, errW_some] <;> rfl) | (simp [*, errW_none, errW_some] <;> rfl), by (with_reducible repeat (first | apply Kd.R_alloc | apply Kd.R_drewN | apply Kd.R_drew)); exact Kd.R_mono HO_6.out (fun _ hk => trivial), by (with_reducible repeat (first | apply Kd.Q_alloc | apply Kd.Q_drewN | apply Kd.Q_drew)); exact HO193.out, by repeat (first | (with_reducible first | exact HB.out | apply below_alloc | apply pw_below_drewN | apply below_drew1 | refine below_set ?_ GE184.out) | exact HB.out)⟩
                      · rw [if_neg c46] at H
                        exact absurd H (by simp)
                    · rw [if_neg c45] at H
                      exact absurd H (by simp)
        · rw [if_neg c7] at H
          exact absurd H (by simp)
      · rw [if_neg c6] at H
        have c6b0 : decide (x8_1 < (t175.length : Int)) = false := decide_eq_false c6
        clear c6
        simp only [Option.some.injEq, Prod.mk.injEq] at H
        obtain ⟨rfl, rfl⟩ := H
        obtain ⟨Ao53, co53, eo53⟩ := Kd.R_slice HO_5.out
        subst eo53
        go_wp2
        repeat (go_quiet (fail); try go_wp2)
        go_ret2
        exact ⟨_, _, by first | rfl | (simp [errW_none, errW_some] <;> rfl) | (simp [*, errW_none, errW_some] <;> rfl), by (with_reducible repeat (first | apply Kd.R_alloc | apply Kd.R_drewN | apply Kd.R_drew)); exact HO_6.out, Kd.Q_of_R (by first | exact Kd.R_nil _ _ _ _ _ | exact Kd.N_nil _ _ _ _ _ | exact Kd.V_nil _ _ _ _ _ | exact Kd.Q_nil _ _ _ _ _ | exact Kd.S_nil _ _ _ _ _), by repeat (first | (with_reducible first | exact HB.out | apply below_alloc | apply pw_below_drewN | apply below_drew1) | exact HB.out)⟩


/-! ### mailbagref18_Get: function 16 -/
def mailbagref18_Get.l0 : Nat → List (S68) → ByteArray → ByteArray → Int → Int → Option (ByteArray × Int)
  | 0, _, _, _, _, _ => none
  | k + 1, x0, x1, x6, x7, x8 => if x8 < (x0.length : Int) then (if 0 ≤ x8 then ((mailbagref14_Lower.f ((rd_T68 x0 x8).f0)).bind fun t195 => ((mailbagref14_Lower.f x1).bind fun t196 => (if t195.toList = t196.toList then (if x7 = 0 then (mailbagref18_Get.l0 k x0 x1 ((rd_T68 x0 x8).f1) (wrap64 (x7 + 1)) (wrap64 (x8 + 1))) else (mailbagref18_Get.l0 k x0 x1 x6 (wrap64 (x7 + 1)) (wrap64 (x8 + 1)))) else (mailbagref18_Get.l0 k x0 x1 x6 x7 (wrap64 (x8 + 1)))))) else (none)) else (some (x6, x7))
def mailbagref18_Get.f (k : Nat) (l0 : List (S68)) (a1 : ByteArray) : Option (ByteArray × Int) := mailbagref18_Get.l0 k l0 a1 (⟨#[]⟩ : ByteArray) 0 0
theorem mailbagref18_Get.mono_l : ∀ k, (∀ y0 y1 y2 y3 y4, LeO (mailbagref18_Get.l0 k y0 y1 y2 y3 y4) (mailbagref18_Get.l0 (k + 1) y0 y1 y2 y3 y4))
  | 0 => fun _ _ _ _ _ r h => by simp [mailbagref18_Get.l0] at h
  | k + 1 => by
    have ih0 := mailbagref18_Get.mono_l k
    · intro y0 y1 y2 y3 y4
      unfold mailbagref18_Get.l0
      repeat' first
      | (with_reducible exact ih0 _ _ _ _ _)
      | (with_reducible exact LeO.refl _)
      | (with_reducible exact LeO.none _)
      | (with_reducible refine LeO.ite ?_ ?_)
      | (with_reducible refine LeO.bind ?_ (fun _ => ?_))
      | exact ih0 _ _ _ _ _
      | exact LeO.none _
      | refine LeO.ite ?_ ?_
      | refine LeO.bind ?_ (fun _ => ?_)
theorem mailbagref18_Get.mono : ∀ a0 a1 k, LeO (mailbagref18_Get.f k a0 a1) (mailbagref18_Get.f (k + 1) a0 a1) := by
  intro a0 a1 k
  have ih0 := mailbagref18_Get.mono_l k
  unfold mailbagref18_Get.f
  repeat' first
      | (with_reducible exact ih0 _ _ _ _ _)
      | (with_reducible exact LeO.refl _)
      | (with_reducible exact LeO.none _)
      | (with_reducible refine LeO.ite ?_ ?_)
      | (with_reducible refine LeO.bind ?_ (fun _ => ?_))
      | exact ih0 _ _ _ _ _
      | exact LeO.none _
      | refine LeO.ite ?_ ?_
      | refine LeO.bind ?_ (fun _ => ?_)
set_option maxHeartbeats 8000000 in
set_option maxRecDepth 100000 in
theorem mailbagref18_Get.calls (k : Nat) (A0 : Option Addr) (c0 : Nat) (l0 : List (S68)) (a1 : ByteArray) (r1 : ByteArray) (r2 : Int) (w : World) (hr0 : Kd.C k68 w A0 l0.length l0) (hc0 : l0.length ≤ c0) (h : mailbagref18_Get.f k l0 a1 = some (r1, r2)) :
    Calls Tryd.prog 16 #[.slice A0 l0.length c0, .string a1] w fun e w' => e = .returned (.tuple #[.string r1, .int .i64 r2]) ∧ Below w.heap.size w w' := by
  have HR0 := Aside0.mk hr0
  have HC0 := Aside0.mk hc0
  clear hr0 hc0
  have HB := Aside0.mk (Below.refl w.heap.size w)
  have H : (mailbagref18_Get.l0 k l0 a1 (⟨#[]⟩ : ByteArray) 0 0) = some (r1, r2) := h
  clear h
  have H' := Aside0.mk H
  clear H
  go_enter Tryd.func16, Tryd.ntmps16
  go_wp2
  go_loopg [6, 7, 8] k (fun kq v6 v7 v8 w' => ∃ (x6_1 : ByteArray) (x7_1 : Int) (x8_1 : Int), v6 = .string x6_1 ∧ v7 = .int .i64 x7_1 ∧ v8 = .int .i64 x8_1 ∧ Aside0 (mailbagref18_Get.l0 kq l0 a1 x6_1 x7_1 x8_1 = some (r1, r2)) ∧ Aside0 (kq ≤ k) ∧ Aside0 (Below w.heap.size w w'))
  case atStart => exact ⟨((⟨#[]⟩ : ByteArray)), (0), (0), (by first | rfl | (simp; done) | (simp [*]; done)), (by first | rfl | (simp; done) | (simp [*]; done)), (by first | rfl | (simp; done) | (simp [*]; done)), H', ⟨Nat.le_refl _⟩, ⟨by repeat (first | (with_reducible first | exact HB.out | apply below_alloc | apply pw_below_drewN | apply below_drew1) | exact HB.out)⟩⟩
  case round =>
    clear H'
    try clear c1
    try clear p2
    obtain ⟨x6_1, x7_1, x8_1, rfl, rfl, rfl, HA, HK1, HB⟩ := hrel
    cases gk with
    | zero => exact absurd HA.out (by simp [mailbagref18_Get.l0])
    | succ k1 =>
      have H := HA.out
      clear HA
      simp only [mailbagref18_Get.l0] at H
      by_cases c3 : x8_1 < (l0.length : Int)
      · rw [if_pos c3] at H
        have c3b0 : decide (x8_1 < (l0.length : Int)) = true := decide_eq_true c3
        clear c3
        by_cases c4 : 0 ≤ x8_1
        · rw [if_pos c4] at H
          have c4b0 : decide (0 ≤ x8_1) = true := decide_eq_true c4
          clear c4
          replace H := Option.bind_eq_some_iff.mp H
          obtain ⟨t195, A50, H⟩ := H
          replace H : ((mailbagref14_Lower.f a1).bind fun t196 => (if t195.toList = t196.toList then (if x7_1 = 0 then (mailbagref18_Get.l0 k1 l0 a1 ((rd_T68 l0 x8_1).f1) (wrap64 (x7_1 + 1)) (wrap64 (x8_1 + 1))) else (mailbagref18_Get.l0 k1 l0 a1 x6_1 (wrap64 (x7_1 + 1)) (wrap64 (x8_1 + 1)))) else (mailbagref18_Get.l0 k1 l0 a1 x6_1 x7_1 (wrap64 (x8_1 + 1))))) = some (r1, r2) := H
          have A5 := Aside0.mk A50
          clear A50
          replace H := Option.bind_eq_some_iff.mp H
          obtain ⟨t196, A60, H⟩ := H
          replace H : (if t195.toList = t196.toList then (if x7_1 = 0 then (mailbagref18_Get.l0 k1 l0 a1 ((rd_T68 l0 x8_1).f1) (wrap64 (x7_1 + 1)) (wrap64 (x8_1 + 1))) else (mailbagref18_Get.l0 k1 l0 a1 x6_1 (wrap64 (x7_1 + 1)) (wrap64 (x8_1 + 1)))) else (mailbagref18_Get.l0 k1 l0 a1 x6_1 x7_1 (wrap64 (x8_1 + 1)))) = some (r1, r2) := H
          have A6 := Aside0.mk A60
          clear A60
          by_cases c7 : t195.toList = t196.toList
          · rw [if_pos c7] at H
            have c7b0 : (t195.toList == t196.toList) = true := beq_iff_eq.mpr c7
            have c7b1 : (t195.toList != t196.toList) = false := bne_eq_false_iff_eq.mpr c7
            clear c7
            by_cases c8 : x7_1 = 0
            · rw [if_pos c8] at H
              have c8b0 : (x7_1 == 0) = true := beq_iff_eq.mpr c8
              have c8b1 : (x7_1 != 0) = false := bne_eq_false_iff_eq.mpr c8
              clear c8
              have H' := Aside0.mk H
              clear H
              have p194 : 0 ≤ (x8_1 : Int) := of_decide_eq_true (by first | (with_reducible assumption) | assumption)
              have q194 : x8_1 < (l0.length : Int) := of_decide_eq_true (by first | (with_reducible assumption) | assumption)
              obtain ⟨ad194, e194, hx194_0, hx194_1⟩ := at_T68 HR0.out x8_1 p194 q194
              cases e194
              replace hx194_0 := (HB.out.cell (World.block_lt_of_cell? w _ hx194_0)).trans hx194_0
              replace hx194_1 := (HB.out.cell (World.block_lt_of_cell? w _ hx194_1)).trans hx194_1
              replace p194 := eq_true p194
              replace q194 := eq_true q194
              go_wp2_with (first | ((with_reducible refine gate_callee (f := 49) rfl ?_); refine goesL_ (some 20) rfl rfl Tryd.func49 (by kernel_rfl) rfl #[.string ((rd_T68 l0 x8_1).f0)] rfl (by (try simp only [List.map_toArray, List.map_cons, List.map_nil]); first | done | rfl | (simp only [List.length_drop, List.length_take]; rfl)) ?_; (with_reducible refine (mailbagref14_Lower.calls ((rd_T68 l0 x8_1).f0) t195 _ A5.out).mono ?_); rintro e w9 ⟨rfl, hb⟩; refine ⟨_, rfl, ?_⟩; have n0_ := Aside0.mk (below_step (by repeat (first | (with_reducible first | exact HB.out | apply below_alloc | apply pw_below_drewN | apply below_drew1) | exact HB.out)) hb); clear HB; have HB := n0_; clear n0_; (try clear hb); (try clear hb2); (try clear hk); (try clear hi)) | ((with_reducible refine gate_callee (f := 49) rfl ?_); refine goesL_ (some 22) rfl rfl Tryd.func49 (by kernel_rfl) rfl #[.string a1] rfl (by (try simp only [List.map_toArray, List.map_cons, List.map_nil]); first | done | rfl | (simp only [List.length_drop, List.length_take]; rfl)) ?_; (with_reducible refine (mailbagref14_Lower.calls a1 t196 _ A6.out).mono ?_); rintro e w10 ⟨rfl, hb⟩; refine ⟨_, rfl, ?_⟩; have n0_ := Aside0.mk (below_step (by repeat (first | (with_reducible first | exact HB.out | apply below_alloc | apply pw_below_drewN | apply below_drew1) | exact HB.out)) hb); clear HB; have HB := n0_; clear n0_; (try clear hb); (try clear hb2); (try clear hk); (try clear hi); have p197 : 0 ≤ (x8_1 : Int) := of_decide_eq_true (by first | (with_reducible assumption) | assumption); have q197 : x8_1 < (l0.length : Int) := of_decide_eq_true (by first | (with_reducible assumption) | assumption); obtain ⟨ad197, e197, hx197_0, hx197_1⟩ := at_T68 HR0.out x8_1 p197 q197; obtain rfl : ad194 = ad197 := (by injection e197); replace hx197_0 := (HB.out.cell (World.block_lt_of_cell? w _ hx197_0)).trans hx197_0; replace hx197_1 := (HB.out.cell (World.block_lt_of_cell? w _ hx197_1)).trans hx197_1; replace p197 := eq_true p197; replace q197 := eq_true q197))
              go_roundg k1
              case measure => have := HK1.out; omega
              case rel => exact ⟨((rd_T68 l0 x8_1).f1), (wrap64 (x7_1 + 1)), (wrap64 (x8_1 + 1)), (by first | rfl | (simp; done) | (simp [*]; done)), (by first | rfl | (simp; done) | (simp [*]; done)), (by first | rfl | (simp; done) | (simp [*]; done)), H', ⟨by have := HK1.out; omega⟩, ⟨by repeat (first | (with_reducible first | exact HB.out | apply below_alloc | apply pw_below_drewN | apply below_drew1) | exact HB.out)⟩⟩
            · rw [if_neg c8] at H
              have c8b0 : (x7_1 == 0) = false := beq_eq_false_iff_ne.mpr c8
              have c8b1 : (x7_1 != 0) = true := bne_iff_ne.mpr c8
              have H' := Aside0.mk H
              clear H
              have p194 : 0 ≤ (x8_1 : Int) := of_decide_eq_true (by first | (with_reducible assumption) | assumption)
              have q194 : x8_1 < (l0.length : Int) := of_decide_eq_true (by first | (with_reducible assumption) | assumption)
              obtain ⟨ad194, e194, hx194_0, hx194_1⟩ := at_T68 HR0.out x8_1 p194 q194
              cases e194
              replace hx194_0 := (HB.out.cell (World.block_lt_of_cell? w _ hx194_0)).trans hx194_0
              replace hx194_1 := (HB.out.cell (World.block_lt_of_cell? w _ hx194_1)).trans hx194_1
              replace p194 := eq_true p194
              replace q194 := eq_true q194
              go_wp2_with (first | ((with_reducible refine gate_callee (f := 49) rfl ?_); refine goesL_ (some 20) rfl rfl Tryd.func49 (by kernel_rfl) rfl #[.string ((rd_T68 l0 x8_1).f0)] rfl (by (try simp only [List.map_toArray, List.map_cons, List.map_nil]); first | done | rfl | (simp only [List.length_drop, List.length_take]; rfl)) ?_; (with_reducible refine (mailbagref14_Lower.calls ((rd_T68 l0 x8_1).f0) t195 _ A5.out).mono ?_); rintro e w11 ⟨rfl, hb⟩; refine ⟨_, rfl, ?_⟩; have n0_ := Aside0.mk (below_step (by repeat (first | (with_reducible first | exact HB.out | apply below_alloc | apply pw_below_drewN | apply below_drew1) | exact HB.out)) hb); clear HB; have HB := n0_; clear n0_; (try clear hb); (try clear hb2); (try clear hk); (try clear hi)) | ((with_reducible refine gate_callee (f := 49) rfl ?_); refine goesL_ (some 22) rfl rfl Tryd.func49 (by kernel_rfl) rfl #[.string a1] rfl (by (try simp only [List.map_toArray, List.map_cons, List.map_nil]); first | done | rfl | (simp only [List.length_drop, List.length_take]; rfl)) ?_; (with_reducible refine (mailbagref14_Lower.calls a1 t196 _ A6.out).mono ?_); rintro e w12 ⟨rfl, hb⟩; refine ⟨_, rfl, ?_⟩; have n0_ := Aside0.mk (below_step (by repeat (first | (with_reducible first | exact HB.out | apply below_alloc | apply pw_below_drewN | apply below_drew1) | exact HB.out)) hb); clear HB; have HB := n0_; clear n0_; (try clear hb); (try clear hb2); (try clear hk); (try clear hi)))
              go_roundg k1
              case measure => have := HK1.out; omega
              case rel => exact ⟨(x6_1), (wrap64 (x7_1 + 1)), (wrap64 (x8_1 + 1)), (by first | rfl | (simp; done) | (simp [*]; done)), (by first | rfl | (simp; done) | (simp [*]; done)), (by first | rfl | (simp; done) | (simp [*]; done)), H', ⟨by have := HK1.out; omega⟩, ⟨by repeat (first | (with_reducible first | exact HB.out | apply below_alloc | apply pw_below_drewN | apply below_drew1) | exact HB.out)⟩⟩
          · rw [if_neg c7] at H
            have c7b0 : (t195.toList == t196.toList) = false := beq_eq_false_iff_ne.mpr c7
            have c7b1 : (t195.toList != t196.toList) = true := bne_iff_ne.mpr c7
            have H' := Aside0.mk H
            clear H
            have p194 : 0 ≤ (x8_1 : Int) := of_decide_eq_true (by first | (with_reducible assumption) | assumption)
            have q194 : x8_1 < (l0.length : Int) := of_decide_eq_true (by first | (with_reducible assumption) | assumption)
            obtain ⟨ad194, e194, hx194_0, hx194_1⟩ := at_T68 HR0.out x8_1 p194 q194
            cases e194
            replace hx194_0 := (HB.out.cell (World.block_lt_of_cell? w _ hx194_0)).trans hx194_0
            replace hx194_1 := (HB.out.cell (World.block_lt_of_cell? w _ hx194_1)).trans hx194_1
            replace p194 := eq_true p194
            replace q194 := eq_true q194
            go_wp2_with (first | ((with_reducible refine gate_callee (f := 49) rfl ?_); refine goesL_ (some 20) rfl rfl Tryd.func49 (by kernel_rfl) rfl #[.string ((rd_T68 l0 x8_1).f0)] rfl (by (try simp only [List.map_toArray, List.map_cons, List.map_nil]); first | done | rfl | (simp only [List.length_drop, List.length_take]; rfl)) ?_; (with_reducible refine (mailbagref14_Lower.calls ((rd_T68 l0 x8_1).f0) t195 _ A5.out).mono ?_); rintro e w13 ⟨rfl, hb⟩; refine ⟨_, rfl, ?_⟩; have n0_ := Aside0.mk (below_step (by repeat (first | (with_reducible first | exact HB.out | apply below_alloc | apply pw_below_drewN | apply below_drew1) | exact HB.out)) hb); clear HB; have HB := n0_; clear n0_; (try clear hb); (try clear hb2); (try clear hk); (try clear hi)) | ((with_reducible refine gate_callee (f := 49) rfl ?_); refine goesL_ (some 22) rfl rfl Tryd.func49 (by kernel_rfl) rfl #[.string a1] rfl (by (try simp only [List.map_toArray, List.map_cons, List.map_nil]); first | done | rfl | (simp only [List.length_drop, List.length_take]; rfl)) ?_; (with_reducible refine (mailbagref14_Lower.calls a1 t196 _ A6.out).mono ?_); rintro e w14 ⟨rfl, hb⟩; refine ⟨_, rfl, ?_⟩; have n0_ := Aside0.mk (below_step (by repeat (first | (with_reducible first | exact HB.out | apply below_alloc | apply pw_below_drewN | apply below_drew1) | exact HB.out)) hb); clear HB; have HB := n0_; clear n0_; (try clear hb); (try clear hb2); (try clear hk); (try clear hi)))
            go_roundg k1
            case measure => have := HK1.out; omega
            case rel => exact ⟨(x6_1), (x7_1), (wrap64 (x8_1 + 1)), (by first | rfl | (simp; done) | (simp [*]; done)), (by first | rfl | (simp; done) | (simp [*]; done)), (by first | rfl | (simp; done) | (simp [*]; done)), H', ⟨by have := HK1.out; omega⟩, ⟨by repeat (first | (with_reducible first | exact HB.out | apply below_alloc | apply pw_below_drewN | apply below_drew1) | exact HB.out)⟩⟩
        · rw [if_neg c4] at H
          exact absurd H (by simp)
      · rw [if_neg c3] at H
        have c3b0 : decide (x8_1 < (l0.length : Int)) = false := decide_eq_false c3
        clear c3
        simp only [Option.some.injEq, Prod.mk.injEq] at H
        obtain ⟨rfl, rfl⟩ := H
        go_wp2
        go_ret2
        exact ⟨by first | rfl | (simp [errW_none, errW_some] <;> rfl) | (simp [*, errW_none, errW_some] <;> rfl), by repeat (first | (with_reducible first | exact HB.out | apply below_alloc | apply pw_below_drewN | apply below_drew1) | exact HB.out)⟩

/-! ### mailbaglaw18_same: function 17 -/
def mailbaglaw18_same.l0 : Nat → List (S34) → List (S68) → Int → Option (Bool)
  | 0, _, _, _ => none
  | k + 1, x0, x1, x5 => if x5 < (x0.length : Int) then (if 0 ≤ x5 then (if x5 < (x1.length : Int) then (if (!((((rd_T34 x0 x5).f0).toList) == (((rd_T68 x1 x5).f0).toList)) || (!((((rd_T34 x0 x5).f1).toList) == (((rd_T68 x1 x5).f1).toList)))) = true then (some false) else (mailbaglaw18_same.l0 k x0 x1 (wrap64 (x5 + 1)))) else (none)) else (none)) else (some true)
def mailbaglaw18_same.f (k : Nat) (l0 : List (S34)) (l1 : List (S68)) : Option (Bool) := if (l0.length : Int) = (l1.length : Int) then (mailbaglaw18_same.l0 k l0 l1 0) else (some false)
theorem mailbaglaw18_same.mono_l : ∀ k, (∀ y0 y1 y2, LeO (mailbaglaw18_same.l0 k y0 y1 y2) (mailbaglaw18_same.l0 (k + 1) y0 y1 y2))
  | 0 => fun _ _ _ r h => by simp [mailbaglaw18_same.l0] at h
  | k + 1 => by
    have ih0 := mailbaglaw18_same.mono_l k
    · intro y0 y1 y2
      unfold mailbaglaw18_same.l0
      repeat' first
      | (with_reducible exact ih0 _ _ _)
      | (with_reducible exact LeO.refl _)
      | (with_reducible exact LeO.none _)
      | (with_reducible refine LeO.ite ?_ ?_)
      | (with_reducible refine LeO.bind ?_ (fun _ => ?_))
      | exact ih0 _ _ _
      | exact LeO.none _
      | refine LeO.ite ?_ ?_
      | refine LeO.bind ?_ (fun _ => ?_)
theorem mailbaglaw18_same.mono : ∀ a0 a1 k, LeO (mailbaglaw18_same.f k a0 a1) (mailbaglaw18_same.f (k + 1) a0 a1) := by
  intro a0 a1 k
  have ih0 := mailbaglaw18_same.mono_l k
  unfold mailbaglaw18_same.f
  repeat' first
      | (with_reducible exact ih0 _ _ _)
      | (with_reducible exact LeO.refl _)
      | (with_reducible exact LeO.none _)
      | (with_reducible refine LeO.ite ?_ ?_)
      | (with_reducible refine LeO.bind ?_ (fun _ => ?_))
      | exact ih0 _ _ _
      | exact LeO.none _
      | refine LeO.ite ?_ ?_
      | refine LeO.bind ?_ (fun _ => ?_)
set_option maxHeartbeats 8000000 in
set_option maxRecDepth 100000 in
theorem mailbaglaw18_same.calls (k : Nat) (A0 : Option Addr) (c0 : Nat) (l0 : List (S34)) (A1 : Option Addr) (c1 : Nat) (l1 : List (S68)) (r : Bool) (w : World) (hr0 : Kd.C k34 w A0 l0.length l0) (hc0 : l0.length ≤ c0) (hr1 : Kd.C k68 w A1 l1.length l1) (hc1 : l1.length ≤ c1) (h : mailbaglaw18_same.f k l0 l1 = some r) :
    Calls Tryd.prog 17 #[.slice A0 l0.length c0, .slice A1 l1.length c1] w fun e w' => e = .returned (.bool r) ∧ Drawn0 w w' := by
  have hu34 := Tryd.underlying34
  have hu68 := Tryd.underlying68
  have HR0 := Aside0.mk hr0
  have HC0 := Aside0.mk hc0
  clear hr0 hc0
  have HR1 := Aside0.mk hr1
  have HC1 := Aside0.mk hc1
  clear hr1 hc1
  have H : (if (l0.length : Int) = (l1.length : Int) then (mailbaglaw18_same.l0 k l0 l1 0) else (some false)) = some r := h
  clear h
  by_cases c3 : (l0.length : Int) = (l1.length : Int)
  · rw [if_pos c3] at H
    have c3b0 : ((l0.length : Int) == (l1.length : Int)) = true := beq_iff_eq.mpr c3
    have c3b1 : ((l0.length : Int) != (l1.length : Int)) = false := bne_eq_false_iff_eq.mpr c3
    have c3b2 : (l0.length == l1.length) = true := by first | simpa using c3 | (simp at c3 ⊢; omega)
    clear c3
    have H' := Aside0.mk H
    clear H
    go_enter Tryd.func17, Tryd.ntmps17
    go_wp2
    repeat (go_quiet (fail); try go_wp2)
    go_loopg [5] k (fun kq v5 w' => ∃ (x5_1 : Int), v5 = .int .i64 x5_1 ∧ Aside0 (mailbaglaw18_same.l0 kq l0 l1 x5_1 = some r) ∧ Aside0 (kq ≤ k) ∧ Drawn0 w w')
    case atStart => exact ⟨(0), (by first | rfl | (simp; done) | (simp [*]; done)), H', ⟨Nat.le_refl _⟩, by repeat (first | exact Drawn0.refl _ | apply Drawn0.step)⟩
    case round =>
      clear H'
      try clear c1
      try clear p2
      try clear c3
      try clear c3b0
      try clear c3b1
      try clear c3b2
      obtain ⟨x5_1, rfl, HA, HK1, ⟨m1, rfl⟩⟩ := hrel
      cases gk with
      | zero => exact absurd HA.out (by simp [mailbaglaw18_same.l0])
      | succ k1 =>
        have H := HA.out
        clear HA
        simp only [mailbaglaw18_same.l0] at H
        by_cases c4 : x5_1 < (l0.length : Int)
        · rw [if_pos c4] at H
          have c4b0 : decide (x5_1 < (l0.length : Int)) = true := decide_eq_true c4
          clear c4
          by_cases c5 : 0 ≤ x5_1
          · rw [if_pos c5] at H
            have c5b0 : decide (0 ≤ x5_1) = true := decide_eq_true c5
            clear c5
            by_cases c6 : x5_1 < (l1.length : Int)
            · rw [if_pos c6] at H
              have c6b0 : decide (x5_1 < (l1.length : Int)) = true := decide_eq_true c6
              clear c6
              by_cases c7 : (!((((rd_T34 l0 x5_1).f0).toList) == (((rd_T68 l1 x5_1).f0).toList)) || (!((((rd_T34 l0 x5_1).f1).toList) == (((rd_T68 l1 x5_1).f1).toList)))) = true
              · rw [if_pos c7] at H
                have c7b0 : (!((((rd_T34 l0 x5_1).f0).toList) == (((rd_T68 l1 x5_1).f0).toList)) || (!((((rd_T34 l0 x5_1).f1).toList) == (((rd_T68 l1 x5_1).f1).toList)))) = true := c7
                clear c7
                obtain rfl := Option.some.inj H
                have p198 : 0 ≤ (x5_1 : Int) := of_decide_eq_true (by first | (with_reducible assumption) | assumption)
                have q198 : x5_1 < (l0.length : Int) := of_decide_eq_true (by first | (with_reducible assumption) | assumption)
                obtain ⟨ad198, e198, hx198_0, hx198_1⟩ := at_T34 HR0.out x5_1 p198 q198
                cases e198
                replace p198 := eq_true p198
                replace q198 := eq_true q198
                have p199 : 0 ≤ (x5_1 : Int) := of_decide_eq_true (by first | (with_reducible assumption) | assumption)
                have q199 : x5_1 < (l1.length : Int) := of_decide_eq_true (by first | (with_reducible assumption) | assumption)
                obtain ⟨ad199, e199, hx199_0, hx199_1⟩ := at_T68 HR1.out x5_1 p199 q199
                cases e199
                replace p199 := eq_true p199
                replace q199 := eq_true q199
                go_wp2
                repeat (go_quiet (fail); try go_wp2)
                go_ret
                exact ⟨by first | rfl | (simp; done) | (simp [*]; done), by repeat (first | exact Drawn0.refl _ | apply Drawn0.step)⟩
              · rw [if_neg c7] at H
                have c7b0 : (!((((rd_T34 l0 x5_1).f0).toList) == (((rd_T68 l1 x5_1).f0).toList)) || (!((((rd_T34 l0 x5_1).f1).toList) == (((rd_T68 l1 x5_1).f1).toList)))) = false := by simpa using c7
                clear c7
                have H' := Aside0.mk H
                clear H
                have p198 : 0 ≤ (x5_1 : Int) := of_decide_eq_true (by first | (with_reducible assumption) | assumption)
                have q198 : x5_1 < (l0.length : Int) := of_decide_eq_true (by first | (with_reducible assumption) | assumption)
                obtain ⟨ad198, e198, hx198_0, hx198_1⟩ := at_T34 HR0.out x5_1 p198 q198
                cases e198
                replace p198 := eq_true p198
                replace q198 := eq_true q198
                have p199 : 0 ≤ (x5_1 : Int) := of_decide_eq_true (by first | (with_reducible assumption) | assumption)
                have q199 : x5_1 < (l1.length : Int) := of_decide_eq_true (by first | (with_reducible assumption) | assumption)
                obtain ⟨ad199, e199, hx199_0, hx199_1⟩ := at_T68 HR1.out x5_1 p199 q199
                cases e199
                replace p199 := eq_true p199
                replace q199 := eq_true q199
                go_wp2
                repeat (go_quiet (fail); try go_wp2)
                go_roundg k1
                case measure => have := HK1.out; omega
                case rel => exact ⟨(wrap64 (x5_1 + 1)), (by first | rfl | (simp; done) | (simp [*]; done)), H', ⟨by have := HK1.out; omega⟩, by repeat (first | exact Drawn0.refl _ | apply Drawn0.step)⟩
            · rw [if_neg c6] at H
              exact absurd H (by simp)
          · rw [if_neg c5] at H
            exact absurd H (by simp)
        · rw [if_neg c4] at H
          have c4b0 : decide (x5_1 < (l0.length : Int)) = false := decide_eq_false c4
          clear c4
          obtain rfl := Option.some.inj H
          go_wp2
          repeat (go_quiet (fail); try go_wp2)
          go_ret
          exact ⟨by first | rfl | (simp; done) | (simp [*]; done), by repeat (first | exact Drawn0.refl _ | apply Drawn0.step)⟩
  · rw [if_neg c3] at H
    have c3b0 : ((l0.length : Int) == (l1.length : Int)) = false := beq_eq_false_iff_ne.mpr c3
    have c3b1 : ((l0.length : Int) != (l1.length : Int)) = true := bne_iff_ne.mpr c3
    have c3b2 : (l0.length == l1.length) = false := by first | simpa using c3 | (simp at c3 ⊢; omega)
    obtain rfl := Option.some.inj H
    go_enter Tryd.func17, Tryd.ntmps17
    go_wp2
    repeat (go_quiet (fail); try go_wp2)
    go_ret
    exact ⟨by first | rfl | (simp; done) | (simp [*]; done), by repeat (first | exact Drawn0.refl _ | apply Drawn0.step)⟩

/-! ### head_Hops: function 18 -/
def head_Hops.f (k : Nat) (l0 : List (S34)) : Option (Int) := (head_Get.f k l0 (⟨#[82, 101, 99, 101, 105, 118, 101, 100]⟩ : ByteArray)).bind fun bt200 => (some bt200.2)
theorem head_Hops.mono : ∀ a0 k, LeO (head_Hops.f k a0) (head_Hops.f (k + 1) a0) := by
  intro a0 k
  unfold head_Hops.f
  repeat' first
      | (with_reducible exact head_Get.mono _ _ _)
      | (with_reducible exact LeO.refl _)
      | (with_reducible exact LeO.none _)
      | (with_reducible refine LeO.ite ?_ ?_)
      | (with_reducible refine LeO.bind ?_ (fun _ => ?_))
      | exact head_Get.mono _ _ _
      | exact LeO.none _
      | refine LeO.ite ?_ ?_
      | refine LeO.bind ?_ (fun _ => ?_)
set_option maxHeartbeats 8000000 in
set_option maxRecDepth 100000 in
theorem head_Hops.calls (k : Nat) (A0 : Option Addr) (c0 : Nat) (l0 : List (S34)) (r : Int) (w : World) (hr0 : Kd.C k34 w A0 l0.length l0) (hc0 : l0.length ≤ c0) (h : head_Hops.f k l0 = some r) :
    Calls Tryd.prog 18 #[.slice A0 l0.length c0] w fun e w' => e = .returned (.int .i64 r) ∧ Below w.heap.size w w' := by
  have HR0 := Aside0.mk hr0
  have HC0 := Aside0.mk hc0
  clear hr0 hc0
  have HB := Aside0.mk (Below.refl w.heap.size w)
  have H : ((head_Get.f k l0 (⟨#[82, 101, 99, 101, 105, 118, 101, 100]⟩ : ByteArray)).bind fun bt200 => (some bt200.2)) = some r := h
  clear h
  replace H := Option.bind_eq_some_iff.mp H
  obtain ⟨⟨t200, t201⟩, A20, H⟩ := H
  replace H : (some t201) = some r := H
  have A2 := Aside0.mk A20
  clear A20
  obtain rfl := Option.some.inj H
  go_enter Tryd.func18, Tryd.ntmps18
  go_wp2_with (first | ((with_reducible refine gate_callee (f := 14) rfl ?_); refine goesL_ (some 7) rfl rfl Tryd.func14 (by kernel_rfl) rfl #[.slice A0 l0.length c0, .string (⟨#[82, 101, 99, 101, 105, 118, 101, 100]⟩ : ByteArray)] rfl (by (try simp only [List.map_toArray, List.map_cons, List.map_nil]); first | done | rfl | (simp only [List.length_drop, List.length_take]; rfl)) ?_; (with_reducible refine (head_Get.calls k _ _ l0 (⟨#[82, 101, 99, 101, 105, 118, 101, 100]⟩ : ByteArray) t200 t201 _ ?side1 ?side2 A2.out).mono ?_); (case side1 => repeat (first | exact HR0.out | (with_reducible refine Kd.C_alloc ?_ _) | (with_reducible refine Kd.C_drewN ?_ _) | (with_reducible refine Kd.C_drew ?_))); (case side2 => exact HC0.out); rintro e w3 ⟨rfl, hb⟩; refine ⟨_, rfl, ?_⟩; have n0_ := Aside0.mk (below_step (by repeat (first | (with_reducible first | exact HB.out | apply below_alloc | apply pw_below_drewN | apply below_drew1) | exact HB.out)) hb); clear HB; have HB := n0_; clear n0_; (try clear hb); (try clear hb2); (try clear hk); (try clear hi)))
  go_ret
  exact ⟨by first | rfl | (simp [errW_none, errW_some] <;> rfl) | (simp [*, errW_none, errW_some] <;> rfl), by repeat (first | (with_reducible first | exact HB.out | apply below_alloc | apply pw_below_drewN | apply below_drew1) | exact HB.out)⟩

/-! ### mailbagref18_Hops: function 19 -/
def mailbagref18_Hops.f (k : Nat) (l0 : List (S68)) : Option (Int) := (mailbagref18_Get.f k l0 (⟨#[114, 101, 99, 101, 105, 118, 101, 100]⟩ : ByteArray)).bind fun bt202 => (some bt202.2)
theorem mailbagref18_Hops.mono : ∀ a0 k, LeO (mailbagref18_Hops.f k a0) (mailbagref18_Hops.f (k + 1) a0) := by
  intro a0 k
  unfold mailbagref18_Hops.f
  repeat' first
      | (with_reducible exact mailbagref18_Get.mono _ _ _)
      | (with_reducible exact LeO.refl _)
      | (with_reducible exact LeO.none _)
      | (with_reducible refine LeO.ite ?_ ?_)
      | (with_reducible refine LeO.bind ?_ (fun _ => ?_))
      | exact mailbagref18_Get.mono _ _ _
      | exact LeO.none _
      | refine LeO.ite ?_ ?_
      | refine LeO.bind ?_ (fun _ => ?_)
set_option maxHeartbeats 8000000 in
set_option maxRecDepth 100000 in
theorem mailbagref18_Hops.calls (k : Nat) (A0 : Option Addr) (c0 : Nat) (l0 : List (S68)) (r : Int) (w : World) (hr0 : Kd.C k68 w A0 l0.length l0) (hc0 : l0.length ≤ c0) (h : mailbagref18_Hops.f k l0 = some r) :
    Calls Tryd.prog 19 #[.slice A0 l0.length c0] w fun e w' => e = .returned (.int .i64 r) ∧ Below w.heap.size w w' := by
  have HR0 := Aside0.mk hr0
  have HC0 := Aside0.mk hc0
  clear hr0 hc0
  have HB := Aside0.mk (Below.refl w.heap.size w)
  have H : ((mailbagref18_Get.f k l0 (⟨#[114, 101, 99, 101, 105, 118, 101, 100]⟩ : ByteArray)).bind fun bt202 => (some bt202.2)) = some r := h
  clear h
  replace H := Option.bind_eq_some_iff.mp H
  obtain ⟨⟨t202, t203⟩, A20, H⟩ := H
  replace H : (some t203) = some r := H
  have A2 := Aside0.mk A20
  clear A20
  obtain rfl := Option.some.inj H
  go_enter Tryd.func19, Tryd.ntmps19
  go_wp2_with (first | ((with_reducible refine gate_callee (f := 16) rfl ?_); refine goesL_ (some 7) rfl rfl Tryd.func16 (by kernel_rfl) rfl #[.slice A0 l0.length c0, .string (⟨#[114, 101, 99, 101, 105, 118, 101, 100]⟩ : ByteArray)] rfl (by (try simp only [List.map_toArray, List.map_cons, List.map_nil]); first | done | rfl | (simp only [List.length_drop, List.length_take]; rfl)) ?_; (with_reducible refine (mailbagref18_Get.calls k _ _ l0 (⟨#[114, 101, 99, 101, 105, 118, 101, 100]⟩ : ByteArray) t202 t203 _ ?side1 ?side2 A2.out).mono ?_); (case side1 => repeat (first | exact HR0.out | (with_reducible refine Kd.C_alloc ?_ _) | (with_reducible refine Kd.C_drewN ?_ _) | (with_reducible refine Kd.C_drew ?_))); (case side2 => exact HC0.out); rintro e w3 ⟨rfl, hb⟩; refine ⟨_, rfl, ?_⟩; have n0_ := Aside0.mk (below_step (by repeat (first | (with_reducible first | exact HB.out | apply below_alloc | apply pw_below_drewN | apply below_drew1) | exact HB.out)) hb); clear HB; have HB := n0_; clear n0_; (try clear hb); (try clear hb2); (try clear hk); (try clear hi)))
  go_ret
  exact ⟨by first | rfl | (simp [errW_none, errW_some] <;> rfl) | (simp [*, errW_none, errW_some] <;> rfl), by repeat (first | (with_reducible first | exact HB.out | apply below_alloc | apply pw_below_drewN | apply below_drew1) | exact HB.out)⟩

end Go.Proofs.YtfpcngoonfbphaaDoor.XH

/- Plain: what the printed Split, Get, Hops, same answer. -/
set_option linter.unusedVariables false
set_option linter.unusedSimpArgs false
namespace Go.Proofs.YtfpcngoonfbphaaDoor.XH
open Go.RowKit Go.Proofs.YtfpcngoonfbphaaDoorW.PrintWords Go.Proofs.YtfpcngoonfbphaaDoor Go.Proofs.YtfpcngoonfbphaaDoor.Pl

def toR (p : Fld) : S68 := ⟨mk p.1, mk p.2⟩
theorem rdS (l : List Fld) (i : Nat) (h : i < l.length) : rd_T34 (l.map toS) (i : Int) = toS l[i] := by
  unfold rd_T34
  rw [Int.toNat_natCast, List.getD_eq_getElem?_getD, List.getElem?_map, List.getElem?_eq_getElem h]
  rfl
theorem rdR (l : List Fld) (i : Nat) (h : i < l.length) : rd_T68 (l.map toR) (i : Int) = toR l[i] := by
  unfold rd_T68
  rw [Int.toNat_natCast, List.getD_eq_getElem?_getD, List.getElem?_map, List.getElem?_eq_getElem h]
  rfl
theorem rdO (l : List Bs) (i : Nat) (h : i < l.length) : rdOf ByteArray.empty (l.map mk) (i : Int) = mk l[i] := by
  unfold rdOf
  rw [Int.toNat_natCast, List.getD_eq_getElem?_getD, List.getElem?_map, List.getElem?_eq_getElem h]
  rfl
theorem lowS (l : Bs) (h : l.length ≤ 10000000) : addr_Lower.f (mk l) = some (mk (low l)) := by unfold addr_Lower.f; rw [size_mk, if_pos h]
theorem lowR (l : Bs) (h : l.length ≤ 10000000) : mailbagref14_Lower.f (mk l) = some (mk (low l)) := by unfold mailbagref14_Lower.f; rw [size_mk, if_pos h]

/-! ### Get -/
theorem hget_l0 (l : List Fld) (nm : Bs) (hl : l.length ≤ 1000000000) (hn : ∀ p ∈ l, p.1.length ≤ 10000000) (hnm : nm.length ≤ 10000000) : ∀ (d i : Nat), i + d = l.length →
    Ev (fun k => head_Get.l0 k (mk nm) (mk (getV (l.take i) nm)) (getN (l.take i) nm : Int) (l.map toS) (l.length : Int) (i : Int)) (mk (getV l nm), (getN l nm : Int)) := by
  intro d
  induction d with
  | zero =>
    intro i hi
    rw [List.take_of_length_le (by omega)]
    refine Ev.step (f := fun _ => some (mk (getV l nm), (getN l nm : Int))) (fun k => ?_) (Ev.now _)
    simp only [head_Get.l0]
    rw [if_neg (by omega)]
  | succ d ih =>
    intro i hi
    have hlt : i < l.length := by omega
    have hle := getN_take_le l nm i
    have h1 := lowS l[i].1 (hn _ (List.getElem_mem hlt))
    have h2 := lowS nm hnm
    have ih1 := ih (i + 1) (by omega)
    refine Ev.step (f := fun k => head_Get.l0 k (mk nm) (mk (getV (l.take (i + 1)) nm)) (getN (l.take (i + 1)) nm : Int) (l.map toS) (l.length : Int) ((i + 1 : Nat) : Int)) (fun k => ?_) ih1
    simp only [head_Get.l0]
    rw [if_pos (by omega), if_pos (by omega), if_pos (by rw [List.length_map]; omega), rdS l i hlt]
    show (addr_Lower.f (mk l[i].1)).bind _ = _
    rw [h1, Option.bind_some, h2, Option.bind_some, emp_mk, emp_mk, w64s _ (by omega), w64s _ (by omega)]
    by_cases hh : hit nm l[i] = true
    · have he : low l[i].1 = low nm := by simpa [hit] using hh
      rw [if_pos he, getN_hit hlt hh]
      by_cases h0 : getN (l.take i) nm = 0
      · rw [if_pos (by omega), getV_first hlt hh h0]
        rfl
      · rw [if_neg (by omega), getV_later hlt h0]
    · have he : ¬ low l[i].1 = low nm := by simpa [hit] using hh
      have hh' : hit nm l[i] = false := Bool.eq_false_iff.2 hh
      rw [if_neg he, getN_miss hlt hh', getV_miss hlt hh']
theorem hget (l : List Fld) (nm : Bs) (hl : l.length ≤ 1000000000) (hn : ∀ p ∈ l, p.1.length ≤ 10000000) (hnm : nm.length ≤ 10000000) : Ev (fun k => head_Get.f k (l.map toS) (mk nm)) (mk (getV l nm), (getN l nm : Int)) := by
  have h := hget_l0 l nm hl hn hnm l.length 0 (by omega)
  unfold head_Get.f
  rw [List.length_map]
  exact h
theorem rget_l0 (l : List Fld) (nm : Bs) (hl : l.length ≤ 1000000000) (hn : ∀ p ∈ l, p.1.length ≤ 10000000) (hnm : nm.length ≤ 10000000) : ∀ (d i : Nat), i + d = l.length →
    Ev (fun k => mailbagref18_Get.l0 k (l.map toR) (mk nm) (mk (getV (l.take i) nm)) (getN (l.take i) nm : Int) (i : Int)) (mk (getV l nm), (getN l nm : Int)) := by
  intro d
  induction d with
  | zero =>
    intro i hi
    rw [List.take_of_length_le (by omega)]
    refine Ev.step (f := fun _ => some (mk (getV l nm), (getN l nm : Int))) (fun k => ?_) (Ev.now _)
    simp only [mailbagref18_Get.l0]
    rw [if_neg (by rw [List.length_map]; omega)]
  | succ d ih =>
    intro i hi
    have hlt : i < l.length := by omega
    have hle := getN_take_le l nm i
    have h1 := lowR l[i].1 (hn _ (List.getElem_mem hlt))
    have h2 := lowR nm hnm
    have ih1 := ih (i + 1) (by omega)
    refine Ev.step (f := fun k => mailbagref18_Get.l0 k (l.map toR) (mk nm) (mk (getV (l.take (i + 1)) nm)) (getN (l.take (i + 1)) nm : Int) ((i + 1 : Nat) : Int)) (fun k => ?_) ih1
    simp only [mailbagref18_Get.l0]
    rw [if_pos (by rw [List.length_map]; omega), if_pos (by omega), rdR l i hlt]
    show (mailbagref14_Lower.f (mk l[i].1)).bind _ = _
    rw [h1, Option.bind_some, h2, Option.bind_some, emp_mk, emp_mk, w64s _ (by omega), w64s _ (by omega)]
    by_cases hh : hit nm l[i] = true
    · have he : low l[i].1 = low nm := by simpa [hit] using hh
      rw [if_pos he, getN_hit hlt hh]
      by_cases h0 : getN (l.take i) nm = 0
      · rw [if_pos (by omega), getV_first hlt hh h0]
        rfl
      · rw [if_neg (by omega), getV_later hlt h0]
    · have he : ¬ low l[i].1 = low nm := by simpa [hit] using hh
      have hh' : hit nm l[i] = false := Bool.eq_false_iff.2 hh
      rw [if_neg he, getN_miss hlt hh', getV_miss hlt hh']
theorem rget (l : List Fld) (nm : Bs) (hl : l.length ≤ 1000000000) (hn : ∀ p ∈ l, p.1.length ≤ 10000000) (hnm : nm.length ≤ 10000000) : Ev (fun k => mailbagref18_Get.f k (l.map toR) (mk nm)) (mk (getV l nm), (getN l nm : Int)) := by
  have h := rget_l0 l nm hl hn hnm l.length 0 (by omega)
  unfold mailbagref18_Get.f
  exact h
def recv : Bs := [114, 101, 99, 101, 105, 118, 101, 100]
theorem getN_low (l : List Fld) (a b : Bs) (h : low a = low b) : getN l a = getN l b := by
  unfold getN hit
  rw [h]
theorem hhops (l : List Fld) (hl : l.length ≤ 1000000000) (hn : ∀ p ∈ l, p.1.length ≤ 10000000) : Ev (fun k => head_Hops.f k (l.map toS)) (getN l recv : Int) := by
  unfold head_Hops.f
  have h := hget l [82, 101, 99, 101, 105, 118, 101, 100] hl hn (by simp)
  rw [getN_low l _ recv (by decide)] at h
  exact Ev.bind h (f := fun _ bt => some bt.2) (Ev.now _)
theorem rhops (l : List Fld) (hl : l.length ≤ 1000000000) (hn : ∀ p ∈ l, p.1.length ≤ 10000000) : Ev (fun k => mailbagref18_Hops.f k (l.map toR)) (getN l recv : Int) := by
  unfold mailbagref18_Hops.f
  exact Ev.bind (rget l recv hl hn (by simp [recv])) (f := fun _ bt => some bt.2) (Ev.now _)

/-! ### same -/
theorem same_l0 (l : List Fld) (hl : l.length ≤ 1000000000) : ∀ (d i : Nat), i + d = l.length → Ev (fun k => mailbaglaw18_same.l0 k (l.map toS) (l.map toR) (i : Int)) true := by
  intro d
  induction d with
  | zero =>
    intro i hi
    refine Ev.step (f := fun _ => some true) (fun k => ?_) (Ev.now _)
    simp only [mailbaglaw18_same.l0]
    rw [if_neg (by rw [List.length_map]; omega)]
  | succ d ih =>
    intro i hi
    have hlt : i < l.length := by omega
    refine Ev.step (f := fun k => mailbaglaw18_same.l0 k (l.map toS) (l.map toR) ((i + 1 : Nat) : Int)) (fun k => ?_) (ih (i + 1) (by omega))
    simp only [mailbaglaw18_same.l0]
    rw [if_pos (by rw [List.length_map]; omega), if_pos (by omega), if_pos (by rw [List.length_map]; omega), rdS l i hlt, rdR l i hlt, w64s _ (by omega), if_neg (by simp [toS, toR])]
theorem same_f (l : List Fld) (hl : l.length ≤ 1000000000) : Ev (fun k => mailbaglaw18_same.f k (l.map toS) (l.map toR)) true := by
  unfold mailbaglaw18_same.f
  refine Ev.congr (f := fun k => mailbaglaw18_same.l0 k (l.map toS) (l.map toR) ((0 : Nat) : Int)) (fun k => if_pos (by simp)) (same_l0 l hl l.length 0 (by omega))

end Go.Proofs.YtfpcngoonfbphaaDoor.XH

/- Plain: what the printed Split answers. -/
set_option linter.unusedVariables false
set_option linter.unusedSimpArgs false
namespace Go.Proofs.YtfpcngoonfbphaaDoor.XH
open Go.RowKit Go.Proofs.YtfpcngoonfbphaaDoorW.PrintWords Go.Proofs.YtfpcngoonfbphaaDoor Go.Proofs.YtfpcngoonfbphaaDoor.Pl

/-! ### Split -/
theorem w64p2 (n : Nat) (h : n ≤ 100000000) : wrap64 ((n : Int) + 2) = ((n + 2 : Nat) : Int) := by rw [w64 (by omega) (by omega)]; omega
theorem set_last (o : List Fld) (p : Fld) (l : Bs) : ((o ++ [p]).map toR).set o.length (⟨mk p.1, mk (p.2 ++ 13 :: 10 :: l)⟩ : S68) = (addLast (o ++ [p]) l).map toR := by
  rw [addLast_snoc, List.map_append, List.map_append, List.set_append_right _ _ (by simp)]
  simp [toR]
theorem mk_app (a b : Bs) : mk a ++ mk b = mk (a ++ b) := app_mk a b
theorem rsplit_l0 : ∀ (rs done : List Bs) (o : List Fld), (joinL (done ++ rs)).length ≤ 100000000 → (∀ p ∈ o, p.2.length ≤ (joinL done).length) → o.length ≤ done.length →
    Ev (fun k => mailbagref18_Split.l0 k (i8 (joinL (done ++ rs))) ((done ++ rs).map mk) (o.map toR) ((joinL done).length : Int) (done.length : Int)) ((splitL o rs).1.map toR, i8 (splitL o rs).2) := by
  intro rs
  induction rs with
  | nil =>
    intro done o hl hp ho
    refine Ev.step (f := fun _ => some (o.map toR, ([] : List Int))) (fun k => ?_) (Ev.now _)
    simp only [mailbagref18_Split.l0]
    rw [if_neg (by simp)]
  | cons l rs ih =>
    intro done o hl hp ho
    have hj : joinL (done ++ l :: rs) = joinL done ++ (l ++ 13 :: 10 :: joinL rs) := by rw [joinL_append, joinL_cons]
    have hjl : (joinL (done ++ l :: rs)).length = (joinL done).length + l.length + 2 + (joinL rs).length := by rw [hj]; simp; omega
    have hdl := joinL_len_le done
    have hlt : done.length < (done ++ l :: rs).length := by simp
    have hg : (done ++ l :: rs)[done.length] = l := by simp
    have hrd := rdO (done ++ l :: rs) done.length hlt
    rw [hg] at hrd
    have hd1 : (joinL (done ++ [l])).length = (joinL done).length + l.length + 2 := by rw [joinL_append, joinL_cons, joinL_nil]; simp; omega
    have ihx : ∀ o', (∀ p ∈ o', p.2.length ≤ (joinL done).length + l.length + 2) → o'.length ≤ done.length + 1 → Ev (fun k => mailbagref18_Split.l0 k (i8 (joinL (done ++ l :: rs))) ((done ++ l :: rs).map mk) (o'.map toR) (((joinL done).length + l.length + 2 : Nat) : Int) ((done.length + 1 : Nat) : Int)) ((splitL o' rs).1.map toR, i8 (splitL o' rs).2) := by
      intro o' h1 h2
      have h := ih (done ++ [l]) o' (by simpa using hl) (by rw [hd1]; exact h1) (by simpa using h2)
      rw [hd1] at h
      simpa using h
    -- the head of the loop
    refine Ev.step (f := fun k => mailbagref18_Split.j1 k (i8 (joinL (done ++ l :: rs))) ((done ++ l :: rs).map mk) (o.map toR) ((joinL done).length : Int) (done.length : Int) (mk l) (!o.isEmpty && foldB l)) (fun k => ?_) ?_
    · simp only [mailbagref18_Split.l0]
      rw [if_pos (by rw [List.length_map]; omega), if_pos (by omega), hrd, emp_mk, size_mk]
      have hol : decide (((o.map toR).length : Int) > 0) = !o.isEmpty := by
        cases o with
        | nil => rfl
        | cons a b => simp
      cases l with
      | nil => rw [if_pos rfl, show foldB [] = false from rfl, Bool.and_false]
      | cons c t =>
        have hb := bt_mk (c :: t) 0 (by simp)
        rw [List.getElem_cons_zero] at hb
        rw [if_neg (by simp), if_pos (by simp), show (0 : Int) = ((0 : Nat) : Int) from rfl, hb, show ((0 : Nat) : Int) = 0 from rfl, hol]
        by_cases h32 : c = 32
        · subst h32
          rw [if_pos (show (((32 : UInt8).toNat : Nat) : Int) = 32 from rfl), show foldB (32 :: t) = true from rfl, Bool.and_true]
        · have h32' : ¬ (c.toNat : Int) = 32 := fun e => h32 (UInt8.toNat_inj.1 (show c.toNat = 32 by omega))
          rw [if_neg h32']
          by_cases h9 : c = 9
          · subst h9
            rw [if_pos (show (((9 : UInt8).toNat : Nat) : Int) = 9 from rfl), show foldB (9 :: t) = true from rfl, Bool.and_true]
          · have h9' : ¬ (c.toNat : Int) = 9 := fun e => h9 (UInt8.toNat_inj.1 (show c.toNat = 9 by omega))
            have e : foldB (c :: t) = false := by simp [foldB, h32, h9]
            rw [if_neg h9', e, Bool.and_false]
    · rw [splitL]
      have hw1 : wrap64 ((wrap64 (((joinL done).length : Int) + ((mk l).size : Int))) + 2) = (((joinL done).length + l.length + 2 : Nat) : Int) := by
        rw [size_mk, w64 (x := ((joinL done).length : Int) + (l.length : Int)) (by omega) (by omega), w64 (by omega) (by omega)]; omega
      have hw2 : wrap64 ((done.length : Int) + 1) = ((done.length + 1 : Nat) : Int) := w64s _ (by omega)
      by_cases hf : (!o.isEmpty && foldB l) = true
      · rw [hf, if_pos rfl]
        have hoe : o ≠ [] := by rintro rfl; simp at hf
        obtain ⟨o', p, rfl⟩ := split_last o hoe
        have hpl := hp p (by simp)
        simp only [List.length_append, List.length_singleton] at ho
        refine Ev.step (f := fun k => mailbagref18_Split.l0 k (i8 (joinL (done ++ l :: rs))) ((done ++ l :: rs).map mk) ((addLast (o' ++ [p]) l).map toR) (((joinL done).length + l.length + 2 : Nat) : Int) ((done.length + 1 : Nat) : Int)) (fun k => ?_) (ihx _ ?_ ?_)
        · simp only [mailbagref18_Split.j1]
          have hlm : (((o' ++ [p]).map toR).length : Int) = ((o'.length + 1 : Nat) : Int) := by simp
          have hwm : wrap64 (((o'.length + 1 : Nat) : Int) - 1) = (o'.length : Int) := by rw [w64 (by omega) (by omega)]; omega
          have hrr : rd_T68 ((o' ++ [p]).map toR) (o'.length : Int) = toR p := by
            have h := rdR (o' ++ [p]) o'.length (by simp)
            rw [h]; simp
          rw [if_pos True.intro, hlm, hwm, if_pos (by omega), if_pos (by omega), hrr]
          show (if (mk p.2).size + 2 ≤ 9223372036854775807 then (if (mk p.2 ++ mk [13, 10]).size + (mk l).size ≤ 9223372036854775807 then mailbagref18_Split.l0 k _ _ (((o' ++ [p]).map toR).set _ (⟨mk p.1, mk p.2 ++ mk [13, 10] ++ mk l⟩ : S68)) _ _ else none) else none) = _
          rw [hw1, hw2, mk_app, mk_app, size_mk, size_mk, size_mk, if_pos (by omega), if_pos (by simp; omega), Int.toNat_natCast, show p.2 ++ [13, 10] ++ l = p.2 ++ 13 :: 10 :: l from by simp, set_last]
        · intro q hq
          rw [addLast_snoc] at hq
          rcases List.mem_append.1 hq with hq | hq
          · have := hp q (List.mem_append_left _ hq); omega
          · rw [List.mem_singleton.1 hq]; simp; omega
        · rw [addLast_snoc]; simp; omega
      · rw [Bool.eq_false_iff.2 hf, if_neg (by simp)]
        have hfl := rfield l (by omega)
        have hcl := cut_le l [58]
        refine Ev.step (f := fun k => (mailbagref18_field.f k (mk l)).bind fun bt181 => (if bt181.2.2 = true then (if (o.map toR).length < 4398046511104 then (mailbagref18_Split.l0 k (i8 (joinL (done ++ l :: rs))) ((done ++ l :: rs).map mk) ((o.map toR) ++ [(⟨bt181.1, bt181.2.1⟩ : S68)]) (((joinL done).length + l.length + 2 : Nat) : Int) ((done.length + 1 : Nat) : Int)) else (none)) else (some ((if l = [] then (o.map toR, i8 (joinL rs)) else (o.map toR, i8 (joinL (l :: rs)))))))) (fun k => ?_) ?_
        · simp only [mailbagref18_Split.j1]
          have q1 : (0 : Int) ≤ ((joinL done).length : Int) := Int.natCast_nonneg _
          have q2 : ((joinL done).length : Int) ≤ (((joinL done).length + l.length + 2 + (joinL rs).length : Nat) : Int) := Int.ofNat_le.2 (Nat.le_trans (Nat.le_trans (Nat.le_add_right _ l.length) (Nat.le_add_right _ 2)) (Nat.le_add_right _ _))
          have q3 : (0 : Int) ≤ (((joinL done).length + 2 : Nat) : Int) := Int.natCast_nonneg _
          have q4 : (((joinL done).length + 2 : Nat) : Int) ≤ (((joinL done).length + l.length + 2 + (joinL rs).length : Nat) : Int) := Int.ofNat_le.2 (Nat.le_trans (Nat.add_le_add_right (Nat.le_add_right _ l.length) 2) (Nat.le_add_right _ _))
          have e2 : wrap64 (((joinL done).length : Int) + 2) = (((joinL done).length + 2 : Nat) : Int) := by
            have h9 : (joinL done).length ≤ 100000000 := by rw [hjl] at hl; exact Nat.le_trans (Nat.le_trans (Nat.le_trans (Nat.le_add_right _ l.length) (Nat.le_add_right _ 2)) (Nat.le_add_right _ _)) hl
            exact w64p2 _ h9
          rw [if_neg (by simp), hw1, hw2, emp_mk]
          congr 1
          funext b
          by_cases hb : b.2.2 = true
          · rw [if_pos hb, if_pos hb]
          · rw [if_neg hb, if_neg hb, i8_len, hjl]
            by_cases h0 : l = []
            · subst h0
              rw [if_pos rfl, if_pos rfl, e2, if_pos q3, if_pos q4, Int.toNat_natCast]
              congr 2
              rw [hj]
              unfold i8
              rw [← List.map_drop]
              congr 1
              rw [show (joinL done ++ ([] ++ 13 :: 10 :: joinL rs)) = (joinL done ++ [13, 10]) ++ joinL rs from by simp, show (joinL done).length + 2 = (joinL done ++ [13, 10]).length from by simp, List.drop_left]
            · rw [if_neg h0, if_neg h0, if_pos q1, if_pos q2, Int.toNat_natCast]
              congr 2
              rw [hj]
              unfold i8
              rw [← List.map_drop, List.drop_left, joinL_cons]
        · refine Ev.bind hfl (f := fun k bt181 => (if bt181.2.2 = true then (if (o.map toR).length < 4398046511104 then (mailbagref18_Split.l0 k (i8 (joinL (done ++ l :: rs))) ((done ++ l :: rs).map mk) ((o.map toR) ++ [(⟨bt181.1, bt181.2.1⟩ : S68)]) (((joinL done).length + l.length + 2 : Nat) : Int) ((done.length + 1 : Nat) : Int)) else (none)) else (some ((if l = [] then (o.map toR, i8 (joinL rs)) else (o.map toR, i8 (joinL (l :: rs)))))))) ?_
          unfold fieldR
          by_cases hc : ((Lib.cut l [58]).2.2 && nameOk (Lib.cut l [58]).1) = true
          · rw [if_pos hc, if_pos hc]
            have h := ihx (o ++ [((Lib.cut l [58]).1, (Lib.cut l [58]).2.1)]) (by
              intro q hq
              rcases List.mem_append.1 hq with hq | hq
              · have := hp q hq; omega
              · rw [List.mem_singleton.1 hq]; simp only; omega) (by simp; omega)
            rw [show (o ++ [((Lib.cut l [58]).1, (Lib.cut l [58]).2.1)]).map toR = o.map toR ++ [toR ((Lib.cut l [58]).1, (Lib.cut l [58]).2.1)] from List.map_append] at h
            refine Ev.congr (fun k => ?_) h
            rw [if_pos rfl, if_pos (by rw [List.length_map]; omega)]
            rfl
          · rw [if_neg hc, if_neg hc]
            refine Ev.congr (f := fun _ => some (if l = [] then (o.map toR, i8 (joinL rs)) else (o.map toR, i8 (joinL (l :: rs))))) (fun k => if_neg (by simp)) ?_
            by_cases h0 : l = []
            · rw [if_pos h0, if_pos h0]; exact Ev.now _
            · rw [if_neg h0, if_neg h0]; exact Ev.now _
theorem rsplit (b : Bs) (ls : List Bs) (hb : b.length ≤ 10000000) (hw : wholeB b = joinL ls) (hn : ∀ l ∈ ls, noNL l = true) : Ev (fun k => mailbagref18_Split.f k (i8 b)) ((splitL [] ls).1.map toR, i8 (splitL [] ls).2) := by
  have hl := wholeB_len b
  rw [hw] at hl
  have h := rsplit_l0 ls [] [] (by simpa using (by omega : (joinL ls).length ≤ 100000000)) (by simp) (by simp)
  unfold mailbagref18_Split.f
  rw [rwhole b (by omega), hw]
  simp only [Option.bind_some]
  exact Ev.bind (rlines b ls (by omega) hw hn) (f := fun k t175 => mailbagref18_Split.l0 k (i8 (joinL ls)) t175 ([] : List S68) 0 0) h
/-- The program's Split, on lines. -/
theorem hsplit (b : Bs) (ls : List Bs) (hb : b.length ≤ 99000) (hw : wholeB b = joinL ls) (hn : ∀ l ∈ ls, noNL l = true) : head_Split.f (i8 b) = some ((splitL [] ls).1.map toS, i8 (splitL [] ls).2) := by
  unfold head_Split.f
  rw [if_pos ⟨isB_i8 b, by rw [i8_len]; exact hb⟩, bsOf_i8, hw, splitGo_joinL ls _ [] hn (by omega)]
theorem whole_lines (b : Bs) : ∃ ls, wholeB b = joinL ls ∧ ∀ l ∈ ls, noNL l = true := by
  refine lines_of _ (wholeB b) (Nat.le_refl _) ?_
  unfold wholeB
  split
  · assumption
  · exact .inr (List.suffix_append _ _)
/-- Names are no longer than the text; no more fields than lines. -/
theorem splitL_fit : ∀ (ls : List Bs) (o : List Fld) (n : Nat), (∀ p ∈ o, p.1.length ≤ n) → (∀ l ∈ ls, l.length ≤ n) → (∀ p ∈ (splitL o ls).1, p.1.length ≤ n) ∧ (splitL o ls).1.length ≤ o.length + ls.length := by
  intro ls
  induction ls with
  | nil => intro o n h _; exact ⟨h, by simp [splitL]⟩
  | cons l ls ih =>
    intro o n h hl
    have hl' := fun x hx => hl x (List.mem_cons_of_mem _ hx)
    rw [splitL]
    split
    · rename_i hf
      have hoe : o ≠ [] := by rintro rfl; simp at hf
      obtain ⟨o', p, rfl⟩ := split_last o hoe
      have h2 := ih (addLast (o' ++ [p]) l) n (by
        intro q hq
        rw [addLast_snoc] at hq
        rcases List.mem_append.1 hq with hq | hq
        · exact h q (List.mem_append_left _ hq)
        · rw [List.mem_singleton.1 hq]; exact h p (by simp)) hl'
      refine ⟨h2.1, ?_⟩
      have := h2.2
      rw [addLast_snoc] at this ⊢
      simp at this ⊢
      omega
    · split
      · have h2 := ih (o ++ [((Lib.cut l [58]).1, (Lib.cut l [58]).2.1)]) n (by
          intro q hq
          rcases List.mem_append.1 hq with hq | hq
          · exact h q hq
          · rw [List.mem_singleton.1 hq]; have := cut_le l [58]; have := hl l List.mem_cons_self; simp only; omega) hl'
        refine ⟨h2.1, ?_⟩
        have := h2.2
        simp at this ⊢
        omega
      · split
        · exact ⟨h, by simp⟩
        · exact ⟨h, by simp⟩
theorem joinL_mem_len (ls : List Bs) (l : Bs) (h : l ∈ ls) : l.length ≤ (joinL ls).length := by
  induction ls with
  | nil => cases h
  | cons a ls ih =>
    rw [joinL_cons]
    simp only [List.length_append, List.length_cons]
    rcases List.mem_cons.1 h with rfl | h
    · omega
    · have := ih h; omega
end Go.Proofs.YtfpcngoonfbphaaDoor.XH

/- Bytes that come in are bytes. -/
set_option linter.unusedVariables false
namespace Go.Proofs.YtfpcngoonfbphaaDoor
open Go.RowKit Go.Proofs.YtfpcngoonfbphaaDoorW.PrintWords Go.Proofs.YtfpcngoonfbphaaDoor.XH
theorem wf_isB {l : List Int} (h : ∀ x ∈ l, (Lit.int .u8 x).wf = true) : isB l = true := by
  unfold isB
  rw [List.all_eq_true]
  intro x hx
  have := h x hx
  have e1 : IntKind.u8.min = 0 := rfl
  have e2 : IntKind.u8.max = 255 := rfl
  simp [Lit.wf, IntKind.wrap, IntKind.bits] at this ⊢
  omega
end Go.Proofs.YtfpcngoonfbphaaDoor

/- Contracts proved by hand, in the printed contracts' form: head.Join, ref18.Fields. -/
set_option linter.unusedVariables false
set_option linter.unusedSimpArgs false
namespace Go.Proofs.YtfpcngoonfbphaaDoor.XH
open Go.RowKit Go.Proofs.YtfpcngoonfbphaaDoorW.PrintWords Go.Proofs.YtfpcngoonfbphaaDoor Go.Proofs.YtfpcngoonfbphaaDoor.Pl

def ofS (x : S34) : Fld := (x.f0.data.toList, x.f1.data.toList)
theorem toS_ofS (x : S34) : toS (ofS x) = x := by
  cases x
  unfold toS ofS
  rw [← eta_mk, ← eta_mk]
theorem ofS_toS (p : Fld) : ofS (toS p) = p := rfl
def fieldB (p : Fld) : Bs := if nameOk p.1 = true then p.1 ++ 58 :: (p.2 ++ [13, 10]) else []
def fieldsB (l : List Fld) : Bs := l.flatMap fieldB
theorem fieldsB_snoc (l : List Fld) (p : Fld) : fieldsB (l ++ [p]) = fieldsB l ++ fieldB p := by simp [fieldsB]
theorem fieldsB_take_le (l : List Fld) (k : Nat) : (fieldsB (l.take k)).length ≤ (fieldsB l).length := by
  have h : fieldsB l = fieldsB (l.take k) ++ fieldsB (l.drop k) := by
    unfold fieldsB
    rw [← List.flatMap_append, List.take_append_drop]
  rw [h, List.length_append]
  omega
theorem rd_get (l : List S34) (k : Nat) (h : k < l.length) : rd_T34 l (k : Int) = l[k] := by
  unfold rd_T34
  rw [Int.toNat_natCast, List.getD_eq_getElem?_getD, List.getElem?_eq_getElem h]
  rfl
def big (l : List S34) : Bool := l.all fun x => decide (x.f0.size ≤ 10000000 ∧ x.f1.size ≤ 100000000)
theorem big_at {l : List S34} (h : big l = true) (k : Nat) (hk : k < l.length) : l[k].f0.size ≤ 10000000 ∧ l[k].f1.size ≤ 100000000 := by
  have := List.all_eq_true.1 h l[k] (List.getElem_mem hk)
  simpa using this
theorem bytes_field (x : S34) : bytesOf (((x.f0 ++ (⟨#[58]⟩ : ByteArray)) ++ x.f1) ++ (⟨#[13, 10]⟩ : ByteArray)) = i8 (x.f0.data.toList ++ 58 :: (x.f1.data.toList ++ [13, 10])) := by
  rw [bytesOf_i8]
  congr 1
  simp
/-- What is joined last. -/
theorem join_parts (W : World) (A : Option Addr) (c n : Nat) (xs ys : List Int) (v : Value) (Av : Option Addr) (cv base : Nat) (hv : v = .slice Av xs.length cv) (hx : ReadsInt W .u8 Av xs.length xs) (hn : n = ys.length) (hy : ReadsInt W .u8 A n ys) :
    Parts ((W.alloc (.cells #[.int .u8 13, .int .u8 10] 5 (2, 3))).alloc (.cells #[v, .slice (some ⟨W.heap.size, 0, none⟩) 2 2, .slice A n c] 26)) (W.heap.size + 1) [(Av, cv, xs), (some ⟨W.heap.size, 0, none⟩, 2, crlf), (A, c, ys)] := by
  subst hv hn
  have e1 : (W.alloc (.cells #[.int .u8 13, .int .u8 10] 5 (2, 3))).heap.size = W.heap.size + 1 := by simp
  have hA := below_alloc (Below.refl W.heap.size W) (.cells #[.int .u8 13, .int .u8 10] 5 (2, 3))
  have hB := below_alloc hA (.cells #[.slice Av xs.length cv, .slice (some ⟨W.heap.size, 0, none⟩) 2 2, .slice A ys.length c] 26)
  have hnew := blk_new (W.alloc (.cells #[.int .u8 13, .int .u8 10] 5 (2, 3))) (.cells #[.slice Av xs.length cv, .slice (some ⟨W.heap.size, 0, none⟩) 2 2, .slice A ys.length c] 26)
  rw [e1] at hnew
  have hl := lit_reads W crlf (2, 3) (by decide)
  intro j p hj
  match j, hj with
  | 0, hj =>
    simp only [List.getElem?_cons_zero, Option.some.injEq] at hj
    subst hj
    exact ⟨(blk_cell hnew 0).trans rfl, hx.below hB⟩
  | 1, hj =>
    simp only [List.getElem?_cons_succ, List.getElem?_cons_zero, Option.some.injEq] at hj
    subst hj
    exact ⟨(blk_cell hnew 1).trans rfl, hl.below (below_alloc (Below.refl _ _) _)⟩
  | 2, hj =>
    simp only [List.getElem?_cons_succ, List.getElem?_cons_zero, Option.some.injEq] at hj
    subst hj
    exact ⟨(blk_cell hnew 2).trans rfl, hy.below hB⟩
  | j + 3, hj => simp at hj

set_option maxHeartbeats 4000000 in
set_option maxRecDepth 100000 in
theorem Join_calls (w : World) (A0 : Option Addr) (c0 : Nat) (l0 : List S34) (A1 : Option Addr) (c1 : Nat) (l1 : List Int) (hr0 : Kd.C k34 w A0 l0.length l0) (hc0 : l0.length ≤ c0) (hr1 : ReadsInt w .u8 A1 l1.length l1) (hn : l0.length ≤ 1000000) (hb : big l0 = true) (hf : (fieldsB (l0.map ofS)).length ≤ 100000000) (h1 : l1.length ≤ 100000000) :
    Calls Tryd.prog 23 #[.slice A0 l0.length c0, .slice A1 l1.length c1] w fun e w' => ∃ v, e = .returned v ∧ OwnB w' w.heap.size v (i8 (fieldsB (l0.map ofS)) ++ ([13, 10] ++ l1)) ∧ Below w.heap.size w w' := by
  have hu := Tryd.underlying34
  have HR := Lib.hid hr0
  have HR1 := Lib.hid hr1
  have HBG := Lib.hid hb
  have HF := Lib.hid hf
  clear hr0 hr1 hb hf
  go_enter Tryd.func23, Tryd.ntmps23
  go_wp2
  go_loopw [5, 10] (fun v i wr => ∃ k : Nat, k ≤ l0.length ∧ i = .int .i64 k ∧ Hid (OwnB wr w.heap.size v (i8 (fieldsB ((l0.map ofS).take k))) ∧ Below w.heap.size w wr)) (fun _ i _ => l0.length - (intOf i).toNat)
  case atStart => exact ⟨0, Nat.zero_le _, rfl, Lib.hid ⟨own_nil _ _ _ _, Below.refl _ _⟩⟩
  case round =>
    obtain ⟨k, hk, rfl, HB⟩ := hrel
    by_cases hlt : k < l0.length
    · obtain ⟨ad, e0, hx0, hx1⟩ := at_T34 (Kd.C_below HR.out HB.out.2) (k : Int) (by omega) (by omega)
      rw [rd_get l0 k hlt, Int.toNat_natCast] at hx0 hx1
      cases e0
      have hbg := big_at HBG.out k hlt
      have hst : Hid (fieldsB ((l0.map ofS).take (k + 1)) = fieldsB ((l0.map ofS).take k) ++ fieldB (ofS l0[k])) := Lib.hid (by
        have e : (l0.map ofS)[k]? = some (ofS l0[k]) := by rw [List.getElem?_map, List.getElem?_eq_getElem hlt]; rfl
        rw [take_step e, fieldsB_snoc])
      have hle := fieldsB_take_le (l0.map ofS) k
      have hle2 := HF.out
      have HN := Lib.hid (fun w => Name_calls l0[k].f0 w hbg.1)
      have HBa := Lib.hid (below_alloc (Below.refl wr.heap.size wr) (.cells #[.string l0[k].f0, .string l0[k].f1] 34))
      have hp0 : (0 : Int) ≤ (k : Int) := by omega
      have hp1 : (k : Int) < (l0.length : Int) := by omega
      cases hnm : nameOk l0[k].f0.data.toList with
      | false =>
        rw [hnm] at HN
        have hS : Hid (fieldB (ofS l0[k]) = []) := Lib.hid (by unfold fieldB ofS; rw [hnm]; rfl)
        clear hbg hle hle2 hnm
        go_wp2_with (go_at_call 20; refine (HN.out _).mono ?_; rintro e w2 ⟨rfl, rfl⟩)
        go_roundw
        case rel => exact ⟨k + 1, by omega, by go_num, Lib.hid ⟨by rw [hst.out, hS.out, List.append_nil]; exact pw_own_below HB.out.1 HBa.out, below_then HB.out.2 HB.out.2.size HBa.out⟩⟩
        case measure => simp [intOf]; omega
      | true =>
        rw [hnm] at HN
        have hS : Hid (fieldB (ofS l0[k]) = l0[k].f0.data.toList ++ 58 :: (l0[k].f1.data.toList ++ [13, 10])) := Lib.hid (by unfold fieldB ofS; rw [hnm]; rfl)
        have hz0 : l0[k].f0.data.toList.length = l0[k].f0.size := data_length _
        have hz1 : l0[k].f1.data.toList.length = l0[k].f1.size := data_length _
        have hb0 : ¬ (9223372036854775807 < l0[k].f0.size + 1) := by omega
        have hb1 : ¬ (9223372036854775807 < l0[k].f0.size + 1 + l0[k].f1.size) := by omega
        have hb2 : ¬ (9223372036854775807 < l0[k].f0.size + 1 + l0[k].f1.size + 2) := by omega
        have hap := appendS_run (wr.alloc (.cells #[.string l0[k].f0, .string l0[k].f1] 34)) w.heap.size u5 (i8 (fieldsB ((l0.map ofS).take k))) (((l0[k].f0 ++ (⟨#[58]⟩ : ByteArray)) ++ l0[k].f1) ++ (⟨#[13, 10]⟩ : ByteArray)) (pw_own_below HB.out.1 HBa.out) (Nat.le_trans HB.out.2.size HBa.out.size)
          (by rw [i8_len]; simp only [ByteArray.size_append]; rw [show (⟨#[58]⟩ : ByteArray).size = 1 from rfl, show (⟨#[13, 10]⟩ : ByteArray).size = 2 from rfl]; omega)
        obtain ⟨v9, w9, hr9, ho9, hg9, hb9⟩ := hap
        have HA9 := Lib.hid hr9
        have HQ9 := Lib.hid (And.intro ho9 (And.intro hg9 hb9))
        clear hbg hle hle2 hnm hr9 ho9 hg9 hb9 hz0 hz1
        go_wp2_with (first | (go_at_call 20; refine (HN.out _).mono ?_; rintro e w2 ⟨rfl, rfl⟩) | (at_builtin; refine wpList_append_known rfl (.tmp 17) (.tmp 24) 26 9 rfl u5 (.string (((l0[k].f0 ++ (⟨#[58]⟩ : ByteArray)) ++ l0[k].f1) ++ (⟨#[13, 10]⟩ : ByteArray))) rfl rfl HA9.out ?_))
        go_roundw
        case rel => exact ⟨k + 1, by omega, by go_num, Lib.hid ⟨by have h := HQ9.out.1; rw [bytes_field] at h; rw [hst.out, hS.out]; unfold i8 at h ⊢; rw [List.map_append]; exact h, (below_then HB.out.2 HB.out.2.size HBa.out).trans HQ9.out.2.2⟩⟩
        case measure => simp [intOf]; omega
    · have e : (l0.map ofS).take k = l0.map ofS := List.take_of_length_le (by simp; omega)
      obtain ⟨Av, cv, hve, hvr, hvc, _⟩ := own_reads_all HB.out.1
      rw [e] at hvr hve hvc
      subst hve
      have e1 : (wr.alloc (.cells #[.int .u8 13, .int .u8 10] 5 (2, 3))).heap.size = wr.heap.size + 1 := by simp
      have hB2 : Below wr.heap.size wr ((wr.alloc (.cells #[.int .u8 13, .int .u8 10] 5 (2, 3))).alloc (.cells #[.slice Av (i8 (fieldsB (l0.map ofS))).length cv, .slice (some ⟨wr.heap.size, 0, none⟩) 2 2, .slice A1 l1.length c1] 26)) := below_alloc (below_alloc (Below.refl _ _) _) _
      have hps := join_parts wr A1 c1 l1.length (i8 (fieldsB (l0.map ofS))) l1 _ Av cv 0 rfl hvr rfl (HR1.out.below HB.out.2)
      have HC := Lib.hid (Concat_calls _ _ _ hps (by simp) (by have := HF.out; simp [sumOf, crlf, i8_len]; omega))
      have HB2 := Lib.hid hB2
      have hk := kcrlf wr
      clear hps hB2 hvr hvc
      go_wp2_with (go_at_call 50; refine HC.out.mono ?_; rintro e w1 ⟨v, rfl, ho, hb⟩; have HS := Lib.hid (And.intro ho hb); clear ho hb)
      go_ret
      refine ⟨v, rfl, ?_, below_then (HB.out.2.trans (HB2.out.mono HB.out.2.size)) (Nat.le_trans HB.out.2.size HB2.out.size) HS.out.2⟩
      have h := HS.out.1
      simp only [joinOf, List.flatMap_cons, List.flatMap_nil, List.append_nil] at h
      exact own_lower h (Nat.le_trans HB.out.2.size HB2.out.size)

/-! ### ref18.Fields -/
def ofR (x : S68) : Fld := (x.f0.data.toList, x.f1.data.toList)
theorem rd_getR (l : List S68) (k : Nat) (h : k < l.length) : rd_T68 l (k : Int) = l[k] := by
  unfold rd_T68
  rw [Int.toNat_natCast, List.getD_eq_getElem?_getD, List.getElem?_eq_getElem h]
  rfl
def bigR (l : List S68) : Bool := l.all fun x => decide (x.f0.size ≤ 10000000 ∧ x.f1.size ≤ 100000000)
theorem bigR_at {l : List S68} (h : bigR l = true) (k : Nat) (hk : k < l.length) : l[k].f0.size ≤ 10000000 ∧ l[k].f1.size ≤ 100000000 := by
  have := List.all_eq_true.1 h l[k] (List.getElem_mem hk)
  simpa using this
theorem bytes_fieldR (x : S68) : bytesOf (((x.f0 ++ (⟨#[58]⟩ : ByteArray)) ++ x.f1) ++ (⟨#[13, 10]⟩ : ByteArray)) = i8 (x.f0.data.toList ++ 58 :: (x.f1.data.toList ++ [13, 10])) := by
  rw [bytesOf_i8]
  congr 1
  simp
theorem RName_calls (s : ByteArray) (hs : s.size ≤ 10000000) (w : World) : Calls Tryd.prog 21 #[.string s] w fun e w' => e = .returned (.bool (nameOk s.data.toList)) ∧ Drawn0 w w' := by
  obtain ⟨k, hk⟩ := (rname s.data.toList (by rw [data_length]; omega)).rounds
  rw [show mk s.data.toList = s from (eta_mk s).symm] at hk
  exact mailbagref18_Name.calls k s _ w hk

set_option maxHeartbeats 4000000 in
set_option maxRecDepth 100000 in
theorem Fields_calls (w : World) (A0 : Option Addr) (c0 : Nat) (l0 : List S68) (hr0 : Kd.C k68 w A0 l0.length l0) (hc0 : l0.length ≤ c0) (hn : l0.length ≤ 1000000) (hb : bigR l0 = true) (hf : (fieldsB (l0.map ofR)).length ≤ 100000000) :
    Calls Tryd.prog 51 #[.slice A0 l0.length c0] w fun e w' => ∃ v, e = .returned v ∧ OwnB w' w.heap.size v (i8 (fieldsB (l0.map ofR))) ∧ Below w.heap.size w w' := by
  have hu := Tryd.underlying68
  have HR := Lib.hid hr0
  have HBG := Lib.hid hb
  have HF := Lib.hid hf
  clear hr0 hb hf
  go_enter Tryd.func51, Tryd.ntmps51
  go_wp2
  go_loopw [3, 4] (fun v i wr => ∃ k : Nat, k ≤ l0.length ∧ i = .int .i64 k ∧ Hid (OwnB wr w.heap.size v (i8 (fieldsB ((l0.map ofR).take k))) ∧ Below w.heap.size w wr)) (fun _ i _ => l0.length - (intOf i).toNat)
  case atStart => exact ⟨0, Nat.zero_le _, rfl, Lib.hid ⟨own_nil _ _ _ _, Below.refl _ _⟩⟩
  case round =>
    obtain ⟨k, hk, rfl, HB⟩ := hrel
    by_cases hlt : k < l0.length
    · obtain ⟨ad, e0, hx0, hx1⟩ := at_T68 (Kd.C_below HR.out HB.out.2) (k : Int) (by omega) (by omega)
      rw [rd_getR l0 k hlt, Int.toNat_natCast] at hx0 hx1
      cases e0
      have hbg := bigR_at HBG.out k hlt
      have hst : Hid (fieldsB ((l0.map ofR).take (k + 1)) = fieldsB ((l0.map ofR).take k) ++ fieldB (ofR l0[k])) := Lib.hid (by
        have e : (l0.map ofR)[k]? = some (ofR l0[k]) := by rw [List.getElem?_map, List.getElem?_eq_getElem hlt]; rfl
        rw [take_step e, fieldsB_snoc])
      have hle := fieldsB_take_le (l0.map ofR) k
      have hle2 := HF.out
      have HN := Lib.hid (fun w => RName_calls l0[k].f0 hbg.1 w)
      have hp0 : (0 : Int) ≤ (k : Int) := by omega
      have hp1 : (k : Int) < (l0.length : Int) := by omega
      cases hnm : nameOk l0[k].f0.data.toList with
      | false =>
        rw [hnm] at HN
        have hS : Hid (fieldB (ofR l0[k]) = []) := Lib.hid (by unfold fieldB ofR; rw [hnm]; rfl)
        clear hbg hle hle2 hnm
        go_wp2_with (go_at_call 21; refine (HN.out _).mono ?_; rintro e w2 ⟨rfl, ⟨nd, rfl⟩⟩)
        go_roundw
        case rel => exact ⟨k + 1, by omega, by go_num, Lib.hid ⟨by rw [hst.out, hS.out, List.append_nil]; exact pw_own_drewN HB.out.1 _, pw_below_drewN HB.out.2 _⟩⟩
        case measure => simp [intOf]; omega
      | true =>
        rw [hnm] at HN
        have hS : Hid (fieldB (ofR l0[k]) = l0[k].f0.data.toList ++ 58 :: (l0[k].f1.data.toList ++ [13, 10])) := Lib.hid (by unfold fieldB ofR; rw [hnm]; rfl)
        have hz0 : l0[k].f0.data.toList.length = l0[k].f0.size := data_length _
        have hz1 : l0[k].f1.data.toList.length = l0[k].f1.size := data_length _
        have hb0 : ¬ (9223372036854775807 < l0[k].f0.size + 1) := by omega
        have hb1 : ¬ (9223372036854775807 < l0[k].f0.size + 1 + l0[k].f1.size) := by omega
        have hb2 : ¬ (9223372036854775807 < l0[k].f0.size + 1 + l0[k].f1.size + 2) := by omega
        have HAP : Hid (∀ W, Below w.heap.size w W → OwnB W w.heap.size u3 (i8 (fieldsB ((l0.map ofR).take k))) → ∃ v1 w1, (Builtin.append_ #[26, 9] 26 #[u3, .string (((l0[k].f0 ++ (⟨#[58]⟩ : ByteArray)) ++ l0[k].f1) ++ (⟨#[13, 10]⟩ : ByteArray))]).run Tryd.prog W = .ok v1 w1 ∧ OwnB w1 w.heap.size v1 (i8 (fieldsB ((l0.map ofR).take k)) ++ bytesOf (((l0[k].f0 ++ (⟨#[58]⟩ : ByteArray)) ++ l0[k].f1) ++ (⟨#[13, 10]⟩ : ByteArray))) ∧ Below w.heap.size W w1) := Lib.hid (by
          intro W hbW hoW
          obtain ⟨v1, w1, h1, h2, _, h4⟩ := appendS_run W w.heap.size u3 _ (((l0[k].f0 ++ (⟨#[58]⟩ : ByteArray)) ++ l0[k].f1) ++ (⟨#[13, 10]⟩ : ByteArray)) hoW hbW.size (by rw [i8_len]; simp only [ByteArray.size_append]; rw [show (⟨#[58]⟩ : ByteArray).size = 1 from rfl, show (⟨#[13, 10]⟩ : ByteArray).size = 2 from rfl]; omega)
          exact ⟨v1, w1, h1, h2, h4⟩)
        clear hbg hle hle2 hnm hz0 hz1
        go_wp2_with (go_at_call 21; refine (HN.out _).mono ?_; rintro e w2 ⟨rfl, ⟨nd, rfl⟩⟩)
        refine wp_region_still_tail 14 (by kernel_rfl) (by kernel_rfl) ?_
        change wpStill _ _ (wr.drewN (nd + 1)) (fun a' => wpList _ _ _ _ a' (wr.drewN (nd + 1))) _ _
        obtain ⟨v9, w9, hr9, ho9, hb9⟩ := HAP.out (wr.drewN (nd + 1)) (pw_below_drewN HB.out.2 _) (pw_own_drewN HB.out.1 _)
        have HA9 := Lib.hid hr9
        have HQ9 := Lib.hid (And.intro ho9 hb9)
        clear hr9 ho9 hb9
        simp only [List.take_succ_cons, List.take_zero, List.drop_succ_cons, List.drop_zero]
        repeat still_step
        refine wpStill_nil ?_
        refine wpList_append_known rfl (.tmp 17) (.tmp 30) 26 9 rfl u3 (.string (((l0[k].f0 ++ (⟨#[58]⟩ : ByteArray)) ++ l0[k].f1) ++ (⟨#[13, 10]⟩ : ByteArray))) rfl rfl HA9.out ?_
        go_wp2
        go_roundw
        case rel => exact ⟨k + 1, by omega, by go_num, Lib.hid ⟨by have h := HQ9.out.1; rw [bytes_fieldR] at h; rw [hst.out, hS.out]; unfold i8 at h ⊢; rw [List.map_append]; exact h, (pw_below_drewN HB.out.2 _).trans HQ9.out.2⟩⟩
        case measure => simp [intOf]; omega
    · have e : (l0.map ofR).take k = l0.map ofR := List.take_of_length_le (by simp; omega)
      go_wp2
      go_ret
      refine ⟨_, rfl, ?_, HB.out.2⟩
      have h := HB.out.1
      rwa [e] at h

/-! ### In the printed form -/
theorem OwnB_R {W : World} {base : Nat} {v : Value} {xs : List Int} (h : OwnB W base v xs) : Kd.R (Kd.int .u8) 5 W base (fun _ => True) v xs := by
  refine ⟨fun _ _ => trivial, nums .u8 xs, h, by rw [show (Kd.int .u8).sz = 1 from rfl, Nat.mul_one]; simp [nums], fun j p hj => ?_⟩
  obtain ⟨hjl, hp⟩ := List.getElem?_eq_some_iff.1 hj
  show ((nums .u8 xs).drop (j * 1)).take 1 = [.int .u8 p]
  rw [Nat.mul_one]
  apply List.ext_getElem?
  intro i
  rw [List.getElem?_take]
  match i with
  | 0 => simp [nums, hj]
  | i + 1 => simp
def head_Join.f (l0 : List S34) (l1 : List Int) : Option (List Int) :=
  if l0.length ≤ 1000000 ∧ big l0 = true ∧ (fieldsB (l0.map ofS)).length ≤ 100000000 ∧ l1.length ≤ 100000000 then some (i8 (fieldsB (l0.map ofS)) ++ ([13, 10] ++ l1)) else none
theorem head_Join.calls (A0 : Option Addr) (c0 : Nat) (l0 : List S34) (A1 : Option Addr) (c1 : Nat) (l1 : List Int) (r : List Int) (w : World) (hr0 : Kd.C k34 w A0 l0.length l0) (hc0 : l0.length ≤ c0) (hr1 : Kd.C (Kd.int .u8) w A1 l1.length l1) (hc1 : l1.length ≤ c1) (h : head_Join.f l0 l1 = some r) :
    Calls Tryd.prog 23 #[.slice A0 l0.length c0, .slice A1 l1.length c1] w fun e w' => ∃ v0_ : Value, e = .returned (v0_) ∧ Kd.R (Kd.int .u8) 5 w' w.heap.size (fun _ => True) v0_ r ∧ Below w.heap.size w w' := by
  unfold head_Join.f at h
  split at h
  · rename_i hb
    obtain rfl := Option.some.inj h
    refine (Join_calls w A0 c0 l0 A1 c1 l1 hr0 hc0 (Kd.reads_of_C hr1) hb.1 hb.2.1 hb.2.2.1 hb.2.2.2).mono ?_
    rintro e w' ⟨v, rfl, ho, hbl⟩
    exact ⟨v, rfl, OwnB_R ho, hbl⟩
  · cases h
def mailbagref18_Fields.f (l0 : List S68) : Option (List Int) :=
  if l0.length ≤ 1000000 ∧ bigR l0 = true ∧ (fieldsB (l0.map ofR)).length ≤ 100000000 then some (i8 (fieldsB (l0.map ofR))) else none
theorem mailbagref18_Fields.calls (A0 : Option Addr) (c0 : Nat) (l0 : List S68) (r : List Int) (w : World) (hr0 : Kd.C k68 w A0 l0.length l0) (hc0 : l0.length ≤ c0) (h : mailbagref18_Fields.f l0 = some r) :
    Calls Tryd.prog 51 #[.slice A0 l0.length c0] w fun e w' => ∃ v0_ : Value, e = .returned (v0_) ∧ Kd.R (Kd.int .u8) 5 w' w.heap.size (fun _ => True) v0_ r ∧ Below w.heap.size w w' := by
  unfold mailbagref18_Fields.f at h
  split at h
  · rename_i hb
    obtain rfl := Option.some.inj h
    refine (Fields_calls w A0 c0 l0 hr0 hc0 hb.1 hb.2.1 hb.2.2).mono ?_
    rintro e w' ⟨v, rfl, ho, hbl⟩
    exact ⟨v, rfl, OwnB_R ho, hbl⟩
  · cases h
end Go.Proofs.YtfpcngoonfbphaaDoor.XH
