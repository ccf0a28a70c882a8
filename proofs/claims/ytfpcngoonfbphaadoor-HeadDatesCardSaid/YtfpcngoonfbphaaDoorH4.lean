/- Split. -/
import Derived.Test.YtfpcngoonfbphaaDoorH3
import Derived.Test.YtfpcngoonfbphaaDoorSh
import Derived.Test.YtfpcngoonfbphaaDoorShelf
set_option linter.unusedVariables false
set_option linter.unusedSimpArgs false
namespace Go.Proofs.YtfpcngoonfbphaaDoor
open Go.RowKit Go.Proofs.YtfpcngoonfbphaaDoorW.PrintWords Go.Proofs.YtfpcngoonfbphaaDoor.Pl

/-- A slice's bytes, as numbers. -/
def i8 (l : Bs) : List Int := l.map fun b => (b.toNat : Int)
theorem i8_len (l : Bs) : (i8 l).length = l.length := by simp [i8]
theorem bytesOf_mk (l : Bs) : bytesOf ⟨l.toArray⟩ = i8 l := by simp [bytesOf, i8]
theorem strOf_i8 (l : Bs) : strOfNums (i8 l) = ⟨l.toArray⟩ := by
  unfold strOfNums i8
  congr 2
  rw [List.map_map]
  conv => rhs; rw [← List.map_id l]
  apply List.map_congr_left
  intro b _
  simp
/-- A string conversion's row, to be read. -/
theorem conv_sb (W : World) (s : ByteArray) (hs : s.size ≤ 9223372036854775807) : SB (Lib.bytesWorld W 5 s) W.heap.size (.slice (some ⟨W.heap.size, 0, none⟩) s.size (grownCap W s.size 0 5)) (bytesOf s) := by
  refine ⟨some ⟨W.heap.size, 0, none⟩, grownCap W s.size 0 5, by rw [bytesOf_length], ?_, by rw [bytesOf_length]; exact grownCap_ge W s.size 0 _, fun a e => by injection e with e; subst e; exact Nat.le_refl _⟩
  rw [bytesOf_length]
  exact bytes_reads W 5 s hs
theorem conv_below (W : World) (s : ByteArray) : Below W.heap.size W (Lib.bytesWorld W 5 s) := bytes_below (Below.refl _ _) (Nat.le_refl _) _ _

/-! ### Rows of fields -/
def fldCells (l : List Fld) : List Value := l.flatMap fun p => [.string ⟨p.1.toArray⟩, .string ⟨p.2.toArray⟩]
theorem fldCells_len (l : List Fld) : (fldCells l).length = l.length * 2 := by
  induction l with
  | nil => rfl
  | cons a l ih => simp [fldCells] at ih ⊢; omega
theorem fldCells_snoc (l : List Fld) (p : Fld) : fldCells (l ++ [p]) = fldCells l ++ [.string ⟨p.1.toArray⟩, .string ⟨p.2.toArray⟩] := by simp [fldCells]
def OwnF (W : World) (base : Nat) (v : Value) (l : List Fld) : Prop := W.ownsRow base 34 2 v l.length (fldCells l)
theorem infoF : (Tryd.prog.info? 34).map (fun i => (i.zero, i.size, i.bytes)) = some (some (.agg #[.string ⟨#[]⟩, .string ⟨#[]⟩]), 2, 32) := by kernel_rfl
theorem split_last {α : Type} (l : List α) (h : l ≠ []) : ∃ l' x, l = l' ++ [x] := ⟨l.dropLast, l.getLast h, (List.dropLast_concat_getLast h).symm⟩
theorem addLast_snoc (l : List Fld) (p : Fld) (s : Bs) : addLast (l ++ [p]) s = l ++ [(p.1, p.2 ++ (13 :: 10 :: s))] := by simp [addLast]
/-- The last field's cells, and what a store into its value does. -/
theorem own_last {W : World} {base : Nat} {v : Value} {l : List Fld} {p : Fld} (h : OwnF W base v (l ++ [p])) :
    ∃ g c, v = .slice (some ⟨g, 0, none⟩) (l.length + 1) c ∧ W.cell? ⟨g, l.length * 2 + 1, none⟩ = some (.string ⟨p.2.toArray⟩) ∧ W.frozen? ⟨g, l.length * 2 + 1, none⟩ = false ∧ base ≤ g ∧
      ∀ u : Bs, OwnF (W.setCell ⟨g, l.length * 2 + 1, none⟩ (.string ⟨u.toArray⟩)) base v (l ++ [(p.1, u)]) := by
  obtain ⟨g, c, e, hg, _⟩ := World.ownsRow.form h (by simp)
  have hl : (l ++ [p]).length = l.length + 1 := by simp
  rw [hl] at e
  subst e
  have hc := World.ownsRow.cells h (g := g) rfl (l.length * 2 + 1) (.string ⟨p.2.toArray⟩) (by rw [fldCells_snoc, List.getElem?_append_right (by rw [fldCells_len]; omega), fldCells_len]; simp)
  rw [add_plain] at hc
  refine ⟨g, c, rfl, hc, ?_, hg, fun u => ?_⟩
  · rcases h.2 with ⟨e', _⟩ | ⟨k, cp, cur, e', _, hh, _⟩
    · cases e'
    · injection e' with e1
      injection e1 with e1
      injection e1 with e1
      subst e1
      exact blk_frozen hh _
  · have h' : W.ownsRow base 34 2 (.slice (some ⟨g, 0, none⟩) (l.length + 1) c) (l.length + 1) (fldCells (l ++ [p])) := by unfold OwnF at h; rw [hl] at h; exact h
    have hs := (World.ownsRow.stored h' (l.length * 2 + 1) (.string ⟨u.toArray⟩)).1
    unfold OwnF
    rw [fldCells_snoc] at hs ⊢
    rw [show (l ++ [(p.1, u)]).length = l.length + 1 from by simp]
    rw [List.set_append_right _ _ (by rw [fldCells_len]; omega), fldCells_len] at hs
    simpa using hs

/-- A slice lies in another block than a row of one's own. -/
def Apart (vo vb : Value) : Prop := ∀ a n c, vb = .slice (some a) n c → some a.block ≠ vo.ownBlock
theorem apart_own {W : World} {base : Nat} {v : Value} {l : List Fld} (h : OwnF W base v l) (n c : Nat) : Apart v (.slice (some ⟨W.heap.size, 0, none⟩) n c) := by
  intro a n' c' e hk
  injection e with e1
  injection e1 with e1
  subst e1
  have := own_lt h _ hk.symm
  exact Nat.lt_irrefl _ this
def SplitPost (w : World) (r : List Fld × Bs) (e : Ending) (w' : World) : Prop :=
  ∃ vo vb, e = .returned (.tuple #[vo, vb]) ∧ OwnF w' w.heap.size vo r.1 ∧ SB w' w.heap.size vb (i8 r.2) ∧ Below w.heap.size w w' ∧ Apart vo vb

theorem Cut_calls (w : World) (hsh : w.ShapedOpen Tryd.prog) (r sep : Bs) (hs : r.length < 4294967281) :
    Calls Tryd.prog 45 #[.string ⟨r.toArray⟩, .string ⟨sep.toArray⟩] w fun e w' => e = .returned (.tuple #[.string ⟨(Lib.cut r sep).1.toArray⟩, .string ⟨(Lib.cut r sep).2.1.toArray⟩, .bool (Lib.cut r sep).2.2]) ∧ ∃ n, w' = w.drewN n :=
  Tryd.strings_Cut_shaped ⟨r.toArray⟩ ⟨sep.toArray⟩ w hsh (by rw [size_mk]; exact hs)
theorem appendF_run (W : World) (base : Nat) (v : Value) (l : List Fld) (p : Fld) (HO : OwnF W base v l) (hb : base ≤ W.heap.size) (hn : l.length ≤ 100000000) :
    ∃ v1 w1, (Builtin.append_ #[28, 28] 28 #[v, .slice (some ⟨W.heap.size, 0, none⟩) 1 1]).run Tryd.prog (W.alloc (.cells #[.string ⟨p.1.toArray⟩, .string ⟨p.2.toArray⟩] 34)) = .ok v1 w1 ∧ OwnF w1 base v1 (l ++ [p]) ∧ W.grownBy w1 v.ownBlock ∧ Below base W w1 := by
  obtain ⟨i0, hi, hzz⟩ := Option.map_eq_some_iff.1 infoF
  simp only [Prod.mk.injEq] at hzz
  obtain ⟨hz0, hz1, hz2⟩ := hzz
  have hA : Below W.heap.size W (W.alloc (.cells #[.string ⟨p.1.toArray⟩, .string ⟨p.2.toArray⟩] 34)) := below_alloc (Below.refl _ _) _
  have HO1 := pw_own_below HO hA
  have hnews : ∀ j u, ([.string ⟨p.1.toArray⟩, .string ⟨p.2.toArray⟩] : List Value)[j]? = some u → (W.alloc (.cells #[.string ⟨p.1.toArray⟩, .string ⟨p.2.toArray⟩] 34)).cell? ((⟨W.heap.size, 0, none⟩ : Addr).add j) = some u :=
    World.news_of_block (cs := #[.string ⟨p.1.toArray⟩, .string ⟨p.2.toArray⟩]) (t := 34) (fr := (0, 0)) (heap_alloc_new W _)
  obtain ⟨v1, w1, hrun, h2, h3, _, h5⟩ := run_append_own_at (P := Tryd.prog) (W.alloc (.cells #[.string ⟨p.1.toArray⟩, .string ⟨p.2.toArray⟩] 34)) base 28 28 34 i0 (.agg #[.string ⟨#[]⟩, .string ⟨#[]⟩]) 2 32 Tryd.underlying28 hi hz0 hz1 hz2 rfl (by omega) v l.length (fldCells l) HO1 ⟨W.heap.size, 0, none⟩ 1 1 [.string ⟨p.1.toArray⟩, .string ⟨p.2.toArray⟩] rfl hnews
    (by intro u hu; simp at hu; rcases hu with rfl | rfl <;> rfl) (by simp only [maxLen]; omega) (by omega) (Nat.le_trans hb hA.size)
  refine ⟨v1, w1, hrun, ?_, (World.grownBy_alloc W _ _).trans h3, ((Below.refl base W).alloc hb _).grown h3 (Nat.le_trans hb hA.size) (own_base HO)⟩
  unfold OwnF
  rw [fldCells_snoc]
  simpa using h2
theorem byte_of {c d : UInt8} {t : Bs} {h0 : 0 < (⟨(c :: t).toArray⟩ : ByteArray).size} (h : (((⟨(c :: t).toArray⟩ : ByteArray)[0]'h0).toNat : Int) = (d.toNat : Int)) (_hd : d.toNat < 256) : c = d := by
  have h' : (c.toNat : Int) = (d.toNat : Int) := h
  exact UInt8.toNat_inj.1 (by omega)
theorem app_mk (a b : Bs) : (⟨a.toArray⟩ : ByteArray) ++ ⟨b.toArray⟩ = ⟨(a ++ b).toArray⟩ := by
  apply ByteArray.ext
  simp
theorem fold_own {W : World} {base g : Nat} {v : Value} {l : List Fld} {p : Fld} {c0 : UInt8} {t : Bs} (h : ∀ u : Bs, OwnF (W.setCell ⟨g, l.length * 2 + 1, none⟩ (.string ⟨u.toArray⟩)) base v (l ++ [(p.1, u)])) (k1 k2 : Nat) :
    OwnF ((W.drewN (k1 + k2)).setCell ⟨g, l.length * 2 + 1, none⟩ (.string ((⟨p.2.toArray⟩ : ByteArray) ++ ((⟨#[13, 10]⟩ : ByteArray) ++ ⟨(c0 :: t).toArray⟩)))) base v (l ++ [(p.1, p.2 ++ (13 :: 10 :: (c0 :: t)))]) := by
  have e : ((⟨p.2.toArray⟩ : ByteArray) ++ ((⟨#[13, 10]⟩ : ByteArray) ++ ⟨(c0 :: t).toArray⟩)) = ⟨(p.2 ++ (13 :: 10 :: (c0 :: t))).toArray⟩ := by
    rw [show (⟨#[13, 10]⟩ : ByteArray) = ⟨([13, 10] : Bs).toArray⟩ from rfl, app_mk, app_mk]
    rfl
  rw [e]
  exact h _
theorem emp_cons (c : UInt8) (t : Bs) : ((⟨(c :: t).toArray⟩ : ByteArray)).toList.isEmpty = false := by rw [toList_mk]; rfl

set_option maxHeartbeats 2000000 in
set_option maxRecDepth 1000000 in
theorem Split_calls (w : World) (hsh : w.ShapedOpen Tryd.prog) (A : Option Addr) (n c : Nat) (xs : List Int) (ws : Bs) (hws : whole xs = i8 ws) (hwl : ws.length ≤ 100000) (hr : ReadsInt w .u8 A n xs) (hnc : n ≤ c) (hn : n ≤ 1000000) :
    Calls Tryd.prog 13 #[.slice A n c] w (SplitPost w (splitGo (ws.length + 1) [] ws)) := by
  have HW := Whole_calls w A n c xs hr hnc hn
  rw [hws] at HW
  have HW := Lib.hid HW
  have HSH := Lib.hid hsh
  clear hr hnc hn hws hsh
  go_enter Tryd.func13, Tryd.ntmps13
  go_wp2_with fail
  refine HW.out.mono ?_
  rintro e w1 ⟨v, rfl, ⟨A1, c1, rfl, hr1, hc1, ha1⟩, hb1⟩
  have hcv := string_of_reads (P := Tryd.prog) (c := c1) Tryd.underlying26 Tryd.underlying5 Tryd.underlying9 hr1
  rw [strOf_i8] at hcv
  have HB1 := Lib.hid hb1
  clear hb1 hr1 hc1 ha1 HW
  go_wp2
  go_loopw [4, 5] (fun vo rest wr => ∃ (out : List Fld) (r : Bs) (F : Nat), rest = .string ⟨r.toArray⟩ ∧ Hid (OwnF wr w.heap.size vo out ∧ Below w.heap.size w wr ∧ splitGo F out r = splitGo (ws.length + 1) [] ws ∧ r.length < F ∧ r.length ≤ ws.length ∧ Fit ws.length out r ∧ out.length + r.length ≤ ws.length + 1))
    (fun _ rest _ => match rest with | .string s => s.size | _ => 0)
  case atStart => exact ⟨[], ws, ws.length + 1, rfl, Lib.hid ⟨own_nil _ _ _ _, HB1.out, rfl, by omega, Nat.le_refl _, (fun p hp => by cases hp), by simp⟩⟩
  case round =>
    obtain ⟨out, r, F, rfl, HR⟩ := hrel
    by_cases h0 : r = []
    · subst h0
      have hfin : Hid (splitGo (ws.length + 1) [] ws = (out, [])) := Lib.hid (by
        rw [← HR.out.2.2.1]
        obtain ⟨F, rfl⟩ : ∃ F', F = F' + 1 := ⟨F - 1, by have := HR.out.2.2.2.1; omega⟩
        rfl)
      go_wp2
      refine bodyPost_ret (v := .tuple #[u4, .slice none 0 0]) (by simp [results, Tryd.results13, go_sem]) rfl ?_
      rw [hfin.out]
      exact ⟨_, _, rfl, HR.out.1, SB.nil _ _, HR.out.2.1, fun a n c e => by cases e⟩
    · obtain ⟨F, rfl⟩ : ∃ F', F = F' + 1 := ⟨F - 1, by have := HR.out.2.2.2.1; omega⟩
      have hstep := HR.out.2.2.1
      rw [splitGo, if_neg h0] at hstep
      have hlt := more_lt r h0
      have hfold := HR.out.2.2.2.2.2.1.fold h0
      have hadd := HR.out.2.2.2.2.2.1.add h0 HR.out.2.2.2.2.1
      have hcle := cut_le r [13, 10]
      have hne : List.isEmpty r = false := by
        cases r with
        | nil => exact absurd rfl h0
        | cons a b => rfl
      obtain ⟨Ao, co, rfl⟩ := own_slice HR.out.1
      have hC1 := Cut_calls wr (shaped_below HSH.out HR.out.2.1 (Nat.le_refl _)) r [13, 10] (by have := HR.out.2.2.2.2.1; omega)
      have hC2 : ∀ k, Calls Tryd.prog 45 #[.string ⟨(Lib.cut r [13, 10]).1.toArray⟩, .string ⟨#[58]⟩] (wr.drewN k) _ := fun k => Cut_calls (wr.drewN k) (shaped_below HSH.out (pw_below_drewN HR.out.2.1 k) (Nat.le_refl _)) (Lib.cut r [13, 10]).1 [58] (by have := HR.out.2.2.2.2.1; omega)
      generalize hcc : Lib.cut r [13, 10] = cc at *
      obtain ⟨s1, m1, b1⟩ := cc
      simp only at hstep hlt hfold hadd hcle hC1 hC2
      generalize hdd : Lib.cut s1 [58] = dd at *
      obtain ⟨nm, vl, is⟩ := dd
      simp only at hstep hadd hC2
      have HC1 := Lib.hid hC1
      have HC2 := Lib.hid hC2
      have HST := Lib.hid hstep
      have HLT := Lib.hid (And.intro hlt (And.intro hfold (And.intro hadd (And.intro hcle (show nm.length ≤ 10000000 from by have := HR.out.2.2.2.2.1; have := cut_le s1 [58]; rw [hdd] at this; simp only at this hcle; omega)))))
      clear hC1 hC2 hstep hlt hfold hadd hcle hcc hdd h0
      have tok1 : True := trivial
      cases s1 with
      | nil =>
        have hnf : (!out.isEmpty && foldB ([] : Bs)) = false := by simp [foldB]
        have hst2 := HST.out
        rw [hnf, if_neg (by decide)] at hst2
        have kb := fun W => print_bytes (P := Tryd.prog) 9 26 5 Tryd.underlying9 Tryd.underlying26 Tryd.underlying5 ⟨m1.toArray⟩ W
        by_cases hnm : (is && nameOk nm) = true
        · rw [if_pos hnm] at hst2
          have HS2 := Lib.hid hst2
          clear hst2 hnf HST kb
          have his : is = true := by cases is; · simp at hnm
                                     · rfl
          subst his
          have hnm2 : nameOk nm = true := by simpa using hnm
          have HN : ∀ k, Calls Tryd.prog 20 #[.string ⟨nm.toArray⟩] (wr.drewN k) fun e w' => e = .returned (.bool true) ∧ wr.drewN k = w' := fun k => by have h := Name_calls ⟨nm.toArray⟩ (wr.drewN k) (by rw [size_mk]; exact HLT.out.2.2.2.2); rwa [show nameOk (⟨nm.toArray⟩ : ByteArray).data.toList = true from hnm2] at h
          have HN := Lib.hid HN
          have HAF := Lib.hid (fun k => appendF_run (wr.drewN k) w.heap.size _ out (nm, vl) (pw_own_drewN HR.out.1 k) HR.out.2.1.size (by have := HR.out.2.2.2.2.2.2; omega))
          clear hnm hnm2
          go_wp2_with (first | (go_at_call 45; have _t := tok1; refine HC1.out.mono ?_; rintro e w2 ⟨rfl, k1, rfl⟩; clear tok1 _t) | (go_at_call 45; refine (HC2.out _).mono ?_; rintro e w2 ⟨rfl, k2, rfl⟩) | (go_at_call 20; refine (HN.out _).mono ?_; rintro e w2 ⟨rfl, rfl⟩) | (at_builtin; obtain ⟨v9, w9, hr9, ho9, hg9, hb9⟩ := HAF.out (k1 + k2); refine wpList_append_known rfl (.tmp 68) (.tmp 72) 28 28 rfl (.slice Ao out.length co) (.slice (some ⟨wr.heap.size, 0, none⟩) 1 1) rfl rfl hr9 ?_; have HQ9 := Lib.hid (And.intro ho9 hb9); clear hr9 ho9 hg9 hb9))
          all_goals
            go_roundw
            case rel => exact ⟨_, m1, F, rfl, Lib.hid ⟨HQ9.out.1, (pw_below_drewN HR.out.2.1 _).trans HQ9.out.2, HS2.out, by have := HR.out.2.2.2.1; have := HLT.out.1; omega, by have := HR.out.2.2.2.2.1; have := HLT.out.1; omega, HLT.out.2.2.1, by have := HR.out.2.2.2.2.2.2; have := HLT.out.1; simp; omega⟩⟩
            case measure => have := HLT.out.1; simp [ByteArray.size]; omega
        · rw [if_neg hnm] at hst2
          have hfin : splitGo (ws.length + 1) [] ws = (out, m1) := by rw [← hst2]; simp
          have HS2 := Lib.hid hfin
          clear hst2 hnf HST hfin
          cases is with
          | true =>
            have hnm2 : nameOk nm = false := by simpa using hnm
            have HN : ∀ k, Calls Tryd.prog 20 #[.string ⟨nm.toArray⟩] (wr.drewN k) fun e w' => e = .returned (.bool false) ∧ wr.drewN k = w' := fun k => by have h := Name_calls ⟨nm.toArray⟩ (wr.drewN k) (by rw [size_mk]; exact HLT.out.2.2.2.2); rwa [show nameOk (⟨nm.toArray⟩ : ByteArray).data.toList = false from hnm2] at h
            have HN := Lib.hid HN
            clear hnm hnm2
            go_wp2_with (first | (go_at_call 45; have _t := tok1; refine HC1.out.mono ?_; rintro e w2 ⟨rfl, k1, rfl⟩; clear tok1 _t) | (go_at_call 45; refine (HC2.out _).mono ?_; rintro e w2 ⟨rfl, k2, rfl⟩) | (go_at_call 20; refine (HN.out _).mono ?_; rintro e w2 ⟨rfl, rfl⟩))
            all_goals
              go_ret2
              rw [HS2.out]
              exact ⟨_, _, rfl, pw_own_below (pw_own_drewN HR.out.1 _) (conv_below _ _), by have h := conv_sb (wr.drewN (k1 + k2)) ⟨m1.toArray⟩ (by rw [size_mk]; have := HR.out.2.2.2.2.1; have := HLT.out.1; omega); rw [bytesOf_mk] at h; exact h.lower HR.out.2.1.size, below_then (pw_below_drewN HR.out.2.1 _) HR.out.2.1.size (conv_below _ _), apart_own (W := wr.drewN (k1 + k2)) (pw_own_drewN HR.out.1 _) _ _⟩
          | false =>
            clear hnm
            go_wp2_with (first | (go_at_call 45; have _t := tok1; refine HC1.out.mono ?_; rintro e w2 ⟨rfl, k1, rfl⟩; clear tok1 _t) | (go_at_call 45; refine (HC2.out _).mono ?_; rintro e w2 ⟨rfl, k2, rfl⟩))
            all_goals
              go_ret2
              rw [HS2.out]
              exact ⟨_, _, rfl, pw_own_below (pw_own_drewN HR.out.1 _) (conv_below _ _), by have h := conv_sb (wr.drewN (k1 + k2)) ⟨m1.toArray⟩ (by rw [size_mk]; have := HR.out.2.2.2.2.1; have := HLT.out.1; omega); rw [bytesOf_mk] at h; exact h.lower HR.out.2.1.size, below_then (pw_below_drewN HR.out.2.1 _) HR.out.2.1.size (conv_below _ _), apart_own (W := wr.drewN (k1 + k2)) (pw_own_drewN HR.out.1 _) _ _⟩
      | cons c0 t =>
        by_cases ho : 0 < out.length
        · by_cases e32 : c0 = 32
          · skip
            have hnf : (!out.isEmpty && foldB (c0 :: t)) = true := by
              have hoe : out ≠ [] := by rintro rfl; simp at ho
              simp [foldB, e32, hoe]
            have hst2 := HST.out
            rw [if_pos hnf] at hst2
            have HS2 := Lib.hid hst2
            have d32 : ((((⟨(c0 :: t).toArray⟩ : ByteArray)[0]'(by rw [size_mk]; simp)).toNat : Int) == 32) = true := beq_iff_eq.2 (by show (c0.toNat : Int) = 32; rw [e32]; rfl)
            clear hst2 hnf HST e32
            obtain ⟨l, p, rfl⟩ := split_last out (by rintro rfl; simp at ho)
            obtain ⟨g, cg, e0, hcl, hfz, hbg, hset⟩ := own_last HR.out.1
            have hset' := fun k1 k2 => fold_own (c0 := c0) (t := t) hset k1 k2
            simp only [List.length_append, List.length_singleton] at hset' e0
            have HQ := Lib.hid (And.intro hbg hset')
            injection e0 with e1 e2 e3
            subst e1 e3
            clear hbg hset hset' e2 ho
            have hsz := Lib.hid (HR.out.2.2.2.2.2.1 p (by simp))
            have hb0 := HLT.out.2.2.2.1.1
            simp only [List.length_cons] at hb0
            have hb1 : ¬ (9223372036854775807 < 2 + (t.length + 1)) := by have := HR.out.2.2.2.2.1; omega
            have hb2 : ¬ (9223372036854775807 < p.2.length + (2 + (t.length + 1))) := by have := hsz.out.2; have := HR.out.2.2.2.2.1; omega
            clear hb0
            have hl0 := HR.out.2.2.2.2.2.2
            rw [List.length_append, List.length_singleton] at hl0
            have hl1 : l.length ≤ 100001 := by omega
            have HL0 := Lib.hid hl0
            clear hl0
            go_wp2_with (first | (go_at_call 45; have _t := tok1; refine HC1.out.mono ?_; rintro e w2 ⟨rfl, k1, rfl⟩; clear tok1 _t) | (go_at_call 45; refine (HC2.out _).mono ?_; rintro e w2 ⟨rfl, k2, rfl⟩))
            all_goals
              go_roundw
              case rel => exact ⟨addLast (l ++ [p]) (c0 :: t), m1, F, rfl, Lib.hid ⟨by rw [addLast_snoc]; exact HQ.out.2 k1 k2, ((pw_below_drewN HR.out.2.1 _).setCell HQ.out.1 _), HS2.out, by have := HR.out.2.2.2.1; have := HLT.out.1; omega, by have := HR.out.2.2.2.2.1; have := HLT.out.1; omega, HLT.out.2.1, by have := HL0.out; have := HLT.out.1; rw [addLast_snoc, List.length_append, List.length_singleton]; omega⟩⟩
              case measure => have := HLT.out.1; simp [ByteArray.size]; omega
          · by_cases e9 : c0 = 9
            · skip
              have hnf : (!out.isEmpty && foldB (c0 :: t)) = true := by
                have hoe : out ≠ [] := by rintro rfl; simp at ho
                simp [foldB, e9, hoe]
              have hst2 := HST.out
              rw [if_pos hnf] at hst2
              have HS2 := Lib.hid hst2
              have d9 : ((((⟨(c0 :: t).toArray⟩ : ByteArray)[0]'(by rw [size_mk]; simp)).toNat : Int) == 9) = true := beq_iff_eq.2 (by show (c0.toNat : Int) = 9; rw [e9]; rfl)
              have d32 : ((((⟨(c0 :: t).toArray⟩ : ByteArray)[0]'(by rw [size_mk]; simp)).toNat : Int) == 32) = false := beq_eq_false_iff_ne.2 (fun h => e32 (byte_of h (by decide)))
              clear hst2 hnf HST e9 e32
              obtain ⟨l, p, rfl⟩ := split_last out (by rintro rfl; simp at ho)
              obtain ⟨g, cg, e0, hcl, hfz, hbg, hset⟩ := own_last HR.out.1
              have hset' := fun k1 k2 => fold_own (c0 := c0) (t := t) hset k1 k2
              simp only [List.length_append, List.length_singleton] at hset' e0
              have HQ := Lib.hid (And.intro hbg hset')
              injection e0 with e1 e2 e3
              subst e1 e3
              clear hbg hset hset' e2 ho
              have hsz := Lib.hid (HR.out.2.2.2.2.2.1 p (by simp))
              have hb0 := HLT.out.2.2.2.1.1
              simp only [List.length_cons] at hb0
              have hb1 : ¬ (9223372036854775807 < 2 + (t.length + 1)) := by have := HR.out.2.2.2.2.1; omega
              have hb2 : ¬ (9223372036854775807 < p.2.length + (2 + (t.length + 1))) := by have := hsz.out.2; have := HR.out.2.2.2.2.1; omega
              clear hb0
              have hl0 := HR.out.2.2.2.2.2.2
              rw [List.length_append, List.length_singleton] at hl0
              have hl1 : l.length ≤ 100001 := by omega
              have HL0 := Lib.hid hl0
              clear hl0
              go_wp2_with (first | (go_at_call 45; have _t := tok1; refine HC1.out.mono ?_; rintro e w2 ⟨rfl, k1, rfl⟩; clear tok1 _t) | (go_at_call 45; refine (HC2.out _).mono ?_; rintro e w2 ⟨rfl, k2, rfl⟩))
              all_goals
                go_roundw
                case rel => exact ⟨addLast (l ++ [p]) (c0 :: t), m1, F, rfl, Lib.hid ⟨by rw [addLast_snoc]; exact HQ.out.2 k1 k2, ((pw_below_drewN HR.out.2.1 _).setCell HQ.out.1 _), HS2.out, by have := HR.out.2.2.2.1; have := HLT.out.1; omega, by have := HR.out.2.2.2.2.1; have := HLT.out.1; omega, HLT.out.2.1, by have := HL0.out; have := HLT.out.1; rw [addLast_snoc, List.length_append, List.length_singleton]; omega⟩⟩
                case measure => have := HLT.out.1; simp [ByteArray.size]; omega
            · have d32 : ((((⟨(c0 :: t).toArray⟩ : ByteArray)[0]'(by rw [size_mk]; simp)).toNat : Int) == 32) = false := beq_eq_false_iff_ne.2 (fun h => e32 (byte_of h (by decide)))
              have d9 : ((((⟨(c0 :: t).toArray⟩ : ByteArray)[0]'(by rw [size_mk]; simp)).toNat : Int) == 9) = false := beq_eq_false_iff_ne.2 (fun h => e9 (byte_of h (by decide)))
              have hnf : (!out.isEmpty && foldB (c0 :: t)) = false := by simp [foldB, e32, e9]
              have hst2 := HST.out
              rw [hnf, if_neg (by decide)] at hst2
              have kb := fun W => print_bytes (P := Tryd.prog) 9 26 5 Tryd.underlying9 Tryd.underlying26 Tryd.underlying5 ⟨r.toArray⟩ W
              by_cases hnm : (is && nameOk nm) = true
              · rw [if_pos hnm] at hst2
                have HS2 := Lib.hid hst2
                clear hst2 hnf HST kb
                have his : is = true := by cases is; · simp at hnm
                                           · rfl
                subst his
                have hnm2 : nameOk nm = true := by simpa using hnm
                have HN : ∀ k, Calls Tryd.prog 20 #[.string ⟨nm.toArray⟩] (wr.drewN k) fun e w' => e = .returned (.bool true) ∧ wr.drewN k = w' := fun k => by have h := Name_calls ⟨nm.toArray⟩ (wr.drewN k) (by rw [size_mk]; exact HLT.out.2.2.2.2); rwa [show nameOk (⟨nm.toArray⟩ : ByteArray).data.toList = true from hnm2] at h
                have HN := Lib.hid HN
                have HAF := Lib.hid (fun k => appendF_run (wr.drewN k) w.heap.size _ out (nm, vl) (pw_own_drewN HR.out.1 k) HR.out.2.1.size (by have := HR.out.2.2.2.2.2.2; omega))
                clear hnm hnm2
                go_wp2_with (first | (go_at_call 45; have _t := tok1; refine HC1.out.mono ?_; rintro e w2 ⟨rfl, k1, rfl⟩; clear tok1 _t) | (go_at_call 45; refine (HC2.out _).mono ?_; rintro e w2 ⟨rfl, k2, rfl⟩) | (go_at_call 20; refine (HN.out _).mono ?_; rintro e w2 ⟨rfl, rfl⟩) | (at_builtin; obtain ⟨v9, w9, hr9, ho9, hg9, hb9⟩ := HAF.out (k1 + k2); refine wpList_append_known rfl (.tmp 68) (.tmp 72) 28 28 rfl (.slice Ao out.length co) (.slice (some ⟨wr.heap.size, 0, none⟩) 1 1) rfl rfl hr9 ?_; have HQ9 := Lib.hid (And.intro ho9 hb9); clear hr9 ho9 hg9 hb9))
                all_goals
                  go_roundw
                  case rel => exact ⟨_, m1, F, rfl, Lib.hid ⟨HQ9.out.1, (pw_below_drewN HR.out.2.1 _).trans HQ9.out.2, HS2.out, by have := HR.out.2.2.2.1; have := HLT.out.1; omega, by have := HR.out.2.2.2.2.1; have := HLT.out.1; omega, HLT.out.2.2.1, by have := HR.out.2.2.2.2.2.2; have := HLT.out.1; simp; omega⟩⟩
                  case measure => have := HLT.out.1; simp [ByteArray.size]; omega
              · rw [if_neg hnm] at hst2
                have hfin : splitGo (ws.length + 1) [] ws = (out, r) := by rw [← hst2]; simp
                have HS2 := Lib.hid hfin
                clear hst2 hnf HST hfin
                cases is with
                | true =>
                  have hnm2 : nameOk nm = false := by simpa using hnm
                  have HN : ∀ k, Calls Tryd.prog 20 #[.string ⟨nm.toArray⟩] (wr.drewN k) fun e w' => e = .returned (.bool false) ∧ wr.drewN k = w' := fun k => by have h := Name_calls ⟨nm.toArray⟩ (wr.drewN k) (by rw [size_mk]; exact HLT.out.2.2.2.2); rwa [show nameOk (⟨nm.toArray⟩ : ByteArray).data.toList = false from hnm2] at h
                  have HN := Lib.hid HN
                  clear hnm hnm2
                  go_wp2_with (first | (go_at_call 45; have _t := tok1; refine HC1.out.mono ?_; rintro e w2 ⟨rfl, k1, rfl⟩; clear tok1 _t) | (go_at_call 45; refine (HC2.out _).mono ?_; rintro e w2 ⟨rfl, k2, rfl⟩) | (go_at_call 20; refine (HN.out _).mono ?_; rintro e w2 ⟨rfl, rfl⟩))
                  all_goals
                    go_ret2
                    rw [HS2.out]
                    exact ⟨_, _, rfl, pw_own_below (pw_own_drewN HR.out.1 _) (conv_below _ _), by have h := conv_sb (wr.drewN (k1 + k2)) ⟨r.toArray⟩ (by rw [size_mk]; have := HR.out.2.2.2.2.1; have := HLT.out.1; omega); rw [bytesOf_mk] at h; exact h.lower HR.out.2.1.size, below_then (pw_below_drewN HR.out.2.1 _) HR.out.2.1.size (conv_below _ _), apart_own (W := wr.drewN (k1 + k2)) (pw_own_drewN HR.out.1 _) _ _⟩
                | false =>
                  clear hnm
                  go_wp2_with (first | (go_at_call 45; have _t := tok1; refine HC1.out.mono ?_; rintro e w2 ⟨rfl, k1, rfl⟩; clear tok1 _t) | (go_at_call 45; refine (HC2.out _).mono ?_; rintro e w2 ⟨rfl, k2, rfl⟩))
                  all_goals
                    go_ret2
                    rw [HS2.out]
                    exact ⟨_, _, rfl, pw_own_below (pw_own_drewN HR.out.1 _) (conv_below _ _), by have h := conv_sb (wr.drewN (k1 + k2)) ⟨r.toArray⟩ (by rw [size_mk]; have := HR.out.2.2.2.2.1; have := HLT.out.1; omega); rw [bytesOf_mk] at h; exact h.lower HR.out.2.1.size, below_then (pw_below_drewN HR.out.2.1 _) HR.out.2.1.size (conv_below _ _), apart_own (W := wr.drewN (k1 + k2)) (pw_own_drewN HR.out.1 _) _ _⟩
        · have d0 : decide (0 < out.length) = false := decide_eq_false ho
          have hnf : (!out.isEmpty && foldB (c0 :: t)) = false := by
            have hoe : out = [] := List.eq_nil_of_length_eq_zero (by omega)
            simp [hoe]
          have hst2 := HST.out
          rw [hnf, if_neg (by decide)] at hst2
          have kb := fun W => print_bytes (P := Tryd.prog) 9 26 5 Tryd.underlying9 Tryd.underlying26 Tryd.underlying5 ⟨r.toArray⟩ W
          by_cases hnm : (is && nameOk nm) = true
          · rw [if_pos hnm] at hst2
            have HS2 := Lib.hid hst2
            clear hst2 hnf HST kb
            have his : is = true := by cases is; · simp at hnm
                                       · rfl
            subst his
            have hnm2 : nameOk nm = true := by simpa using hnm
            have HN : ∀ k, Calls Tryd.prog 20 #[.string ⟨nm.toArray⟩] (wr.drewN k) fun e w' => e = .returned (.bool true) ∧ wr.drewN k = w' := fun k => by have h := Name_calls ⟨nm.toArray⟩ (wr.drewN k) (by rw [size_mk]; exact HLT.out.2.2.2.2); rwa [show nameOk (⟨nm.toArray⟩ : ByteArray).data.toList = true from hnm2] at h
            have HN := Lib.hid HN
            have HAF := Lib.hid (fun k => appendF_run (wr.drewN k) w.heap.size _ out (nm, vl) (pw_own_drewN HR.out.1 k) HR.out.2.1.size (by have := HR.out.2.2.2.2.2.2; omega))
            clear hnm hnm2
            go_wp2_with (first | (go_at_call 45; have _t := tok1; refine HC1.out.mono ?_; rintro e w2 ⟨rfl, k1, rfl⟩; clear tok1 _t) | (go_at_call 45; refine (HC2.out _).mono ?_; rintro e w2 ⟨rfl, k2, rfl⟩) | (go_at_call 20; refine (HN.out _).mono ?_; rintro e w2 ⟨rfl, rfl⟩) | (at_builtin; obtain ⟨v9, w9, hr9, ho9, hg9, hb9⟩ := HAF.out (k1 + k2); refine wpList_append_known rfl (.tmp 68) (.tmp 72) 28 28 rfl (.slice Ao out.length co) (.slice (some ⟨wr.heap.size, 0, none⟩) 1 1) rfl rfl hr9 ?_; have HQ9 := Lib.hid (And.intro ho9 hb9); clear hr9 ho9 hg9 hb9))
            all_goals
              go_roundw
              case rel => exact ⟨_, m1, F, rfl, Lib.hid ⟨HQ9.out.1, (pw_below_drewN HR.out.2.1 _).trans HQ9.out.2, HS2.out, by have := HR.out.2.2.2.1; have := HLT.out.1; omega, by have := HR.out.2.2.2.2.1; have := HLT.out.1; omega, HLT.out.2.2.1, by have := HR.out.2.2.2.2.2.2; have := HLT.out.1; simp; omega⟩⟩
              case measure => have := HLT.out.1; simp [ByteArray.size]; omega
          · rw [if_neg hnm] at hst2
            have hfin : splitGo (ws.length + 1) [] ws = (out, r) := by rw [← hst2]; simp
            have HS2 := Lib.hid hfin
            clear hst2 hnf HST hfin
            cases is with
            | true =>
              have hnm2 : nameOk nm = false := by simpa using hnm
              have HN : ∀ k, Calls Tryd.prog 20 #[.string ⟨nm.toArray⟩] (wr.drewN k) fun e w' => e = .returned (.bool false) ∧ wr.drewN k = w' := fun k => by have h := Name_calls ⟨nm.toArray⟩ (wr.drewN k) (by rw [size_mk]; exact HLT.out.2.2.2.2); rwa [show nameOk (⟨nm.toArray⟩ : ByteArray).data.toList = false from hnm2] at h
              have HN := Lib.hid HN
              clear hnm hnm2
              go_wp2_with (first | (go_at_call 45; have _t := tok1; refine HC1.out.mono ?_; rintro e w2 ⟨rfl, k1, rfl⟩; clear tok1 _t) | (go_at_call 45; refine (HC2.out _).mono ?_; rintro e w2 ⟨rfl, k2, rfl⟩) | (go_at_call 20; refine (HN.out _).mono ?_; rintro e w2 ⟨rfl, rfl⟩))
              all_goals
                go_ret2
                rw [HS2.out]
                exact ⟨_, _, rfl, pw_own_below (pw_own_drewN HR.out.1 _) (conv_below _ _), by have h := conv_sb (wr.drewN (k1 + k2)) ⟨r.toArray⟩ (by rw [size_mk]; have := HR.out.2.2.2.2.1; have := HLT.out.1; omega); rw [bytesOf_mk] at h; exact h.lower HR.out.2.1.size, below_then (pw_below_drewN HR.out.2.1 _) HR.out.2.1.size (conv_below _ _), apart_own (W := wr.drewN (k1 + k2)) (pw_own_drewN HR.out.1 _) _ _⟩
            | false =>
              clear hnm
              go_wp2_with (first | (go_at_call 45; have _t := tok1; refine HC1.out.mono ?_; rintro e w2 ⟨rfl, k1, rfl⟩; clear tok1 _t) | (go_at_call 45; refine (HC2.out _).mono ?_; rintro e w2 ⟨rfl, k2, rfl⟩))
              all_goals
                go_ret2
                rw [HS2.out]
                exact ⟨_, _, rfl, pw_own_below (pw_own_drewN HR.out.1 _) (conv_below _ _), by have h := conv_sb (wr.drewN (k1 + k2)) ⟨r.toArray⟩ (by rw [size_mk]; have := HR.out.2.2.2.2.1; have := HLT.out.1; omega); rw [bytesOf_mk] at h; exact h.lower HR.out.2.1.size, below_then (pw_below_drewN HR.out.2.1 _) HR.out.2.1.size (conv_below _ _), apart_own (W := wr.drewN (k1 + k2)) (pw_own_drewN HR.out.1 _) _ _⟩
end Go.Proofs.YtfpcngoonfbphaaDoor
