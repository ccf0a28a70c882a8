/- LineBounds: the law's walk. -/
import Derived.Test.YtfpcngoonfbphaaBnd
set_option linter.unusedVariables false
set_option linter.unusedSimpArgs false
namespace Go.Proofs.Ytfpcngoonfbphaa
open Go.RowKit Go.Proofs.YtfpcngoonfbphaaW.PrintWords

theorem C1.start (w W : World) (hb : Below w.heap.size w W) (n : Int) (hn : 2 ≤ n) : C1 w (W.alloc (.cells #[.int .i64 n, .slice none 0 0, .int .i64 0, .bool false] 36)) W.heap.size (.slice none 0 0) (.slice none 0 0) n ([], 0, false) [] [] :=
  ⟨⟨blk_new _ _, hb.size, own_nil _ _ _ _⟩, (by simp; omega), own_nil _ _ _ _, .inl rfl, (fun p hp => by cases hp), hb.alloc hb.size _⟩

/-- A new row, or one that is apart, stays apart from the splitter's. -/
theorem ap_hat {W : World} {base : Nat} {v vb v1 : Value} {xs : List Int} (hv : OwnB W base v xs) (ha : vb.ownBlock = none ∨ vb.ownBlock ≠ v.ownBlock) (h : v1.ownBlock = vb.ownBlock ∨ ∃ b, v1.ownBlock = some b ∧ W.heap.size ≤ b) : v1.ownBlock = none ∨ v1.ownBlock ≠ v.ownBlock := by
  rcases h with e | ⟨b, e, hb⟩
  · rw [e]; exact ha
  · refine .inr fun hk => ?_
    rw [e] at hk
    have := own_lt hv b hk.symm
    omega
def Rel (vb v1 : Value) (bs zs : List Int) : Prop :=
  (∃ g cap t, vb = .slice (some ⟨g, 0, none⟩) bs.length cap ∧ v1 = .slice (some ⟨g, 0, none⟩) zs.length cap ∧ zs = bs ++ t) ∨ vb.ownBlock = none ∨ vb.ownBlock ≠ v1.ownBlock
section
variable {w W : World} {g : Nat} {v vb : Value} {most : Int} {s : SpS} {bs : List Int} {rows : List (Value × List Ln)}
/-- 'b = append(b, c)'. -/
theorem C1.push (h : C1 w W g v vb most s bs rows) (c : Int) (hn : bs.length ≤ 100000) :
    ∃ v1 w1, (Builtin.append_ #[27, 27] 27 #[vb, .slice (some ⟨W.heap.size, 0, none⟩) 1 1]).run Try.prog (W.alloc (.cells #[.int .u8 c] 5)) = .ok v1 w1 ∧ C1 w w1 g v v1 most s (bs ++ [c]) rows := by
  obtain ⟨v1, w1, hr, ho, hk, hg, ha, hB⟩ := append1_run W w.heap.size vb bs c h.b h.size hn
  refine ⟨v1, w1, hr, h.grown hg ho hB (ap_hat h.sp.2.2 h.ap ?_)⟩
  rcases ha with ⟨g', cap, e1, e2⟩ | ha
  · exact .inl (by rw [e1, e2]; rfl)
  · exact .inr ha
/-- 'append(b, c)': b lives on. -/
theorem C1.tmp1 (h : C1 w W g v vb most s bs rows) (c : Int) (hn : bs.length ≤ 100000) :
    ∃ v1 w1, (Builtin.append_ #[27, 27] 27 #[vb, .slice (some ⟨W.heap.size, 0, none⟩) 1 1]).run Try.prog (W.alloc (.cells #[.int .u8 c] 5)) = .ok v1 w1 ∧ C1 w w1 g v vb most s bs rows ∧ OwnB w1 w.heap.size v1 (bs ++ [c]) ∧ (v1.ownBlock = none ∨ v1.ownBlock ≠ v.ownBlock) ∧ Rel vb v1 bs (bs ++ [c]) := by
  obtain ⟨v1, w1, hr, ho, hk, hg, ha, hB⟩ := append1_run W w.heap.size vb bs c h.b h.size hn
  refine ⟨v1, w1, hr, h.grown hg hk hB h.ap, ho, ap_hat h.sp.2.2 h.ap ?_, ?_⟩
  · rcases ha with ⟨g', cap, e1, e2⟩ | ha
    · exact .inl (by rw [e1, e2]; rfl)
    · exact .inr ha
  · rcases ha with ⟨g', cap, e1, e2⟩ | ⟨b, e, hb⟩
    · exact .inl ⟨g', cap, [c], e1, e2, rfl⟩
    · rcases hk' : vb.ownBlock with _ | k
      · exact .inr (.inl hk')
      · refine .inr (.inr ?_)
        have := own_lt h.b k hk'
        rw [e, hk']
        simp; omega
/-- 'append(.., "..")' of such a row: b lives on. -/
theorem C1.tmp2 (h : C1 w W g v vb most s bs rows) {v1 : Value} {zs : List Int} (ho1 : OwnB W w.heap.size v1 zs) (hap : v1.ownBlock = none ∨ v1.ownBlock ≠ v.ownBlock) (hrel : Rel vb v1 bs zs) (y : ByteArray) (hn : zs.length ≤ 100000) (hz : 0 < zs.length) (hy : y.size ≤ 100000) :
    ∃ v2 w2, (Builtin.append_ #[27, 9] 27 #[v1, .string y]).run Try.prog W = .ok v2 w2 ∧ C1 w w2 g v vb most s bs rows ∧ OwnB w2 w.heap.size v2 (zs ++ bytesOf y) ∧ (v2.ownBlock = none ∨ v2.ownBlock ≠ v.ownBlock) := by
  obtain ⟨v2, w2, hr, ho, hk, hg, hB, ha⟩ := appendS_run W w.heap.size v1 zs y ho1 h.size hn hy
  have hb : OwnB w2 w.heap.size vb bs := by
    rcases hrel with ⟨g', cap, t, rfl, rfl, rfl⟩ | hne
    · exact own_prefix hk
    · exact own_other h.b hg hne
  refine ⟨v2, w2, hr, ⟨⟨blk_grown h.sp.1 hg (fun e => own_ne_block ho1 h.sp.1 (by decide) e.symm), h.sp.2.1, own_other h.sp.2.2 hg ?_⟩, h.len, hb, h.ap, fun p hp => own_other (h.rows p hp) hg (own_type_ne (h.rows p hp) ho1 (by decide)), h.below.trans hB⟩, ho, ap_hat h.sp.2.2 hap (ha hz)⟩
  rcases hk : v.ownBlock with _ | k
  · exact .inl rfl
  · refine .inr fun e => ?_
    rcases hap with a | a
    · rw [a] at e; cases e
    · exact a (by rw [hk]; exact e.symm)
end
def FedPost (w : World) (g : Nat) (vb : Value) (m : Int) (bs : List Int) (rows : List (Value × List Ln)) (r : List Ln × SpS) (e : Ending) (W' : World) : Prop :=
  ∃ vo v', e = .returned vo ∧ C1 w W' g v' vb m r.2 bs ((vo, r.1) :: rows)
theorem C1.feedb {w W : World} {g : Nat} {v vb : Value} {m : Int} {xs : List Int} {st : Int} {long : Bool} {bs : List Int} {rows : List (Value × List Ln)} (h : C1 w W g v vb m (xs, st, long) bs rows) (hm : 2 ≤ m ∧ m ≤ 65536)
    (u : Value) (zs : List Int) (hu : OwnB W w.heap.size u zs) (hap : u.ownBlock = none ∨ u.ownBlock ≠ v.ownBlock) (hz : zs.length ≤ 100000) :
    Calls Try.prog 6 #[.pointer (some ⟨g, 0, none⟩), u] W (FedPost w g vb m bs rows (sFeed m (xs, st, long) zs)) := by
  obtain ⟨A, c, rfl, hr, hc, hb⟩ := own_reads_all hu
  refine (feed_calls W h.sp hm h.len A zs.length c zs hr hc hz ?_ (fun a e => (hb a e).2)).mono ?_
  · intro a e
    refine ⟨?_, ?_⟩
    · intro hk
      exact own_ne_block hu h.sp.1 (by decide) (by rw [(hb a e).1, hk])
    · intro hk
      rcases hap with a1 | a1
      · rw [(hb a e).1] at a1; cases a1
      · exact a1 (by rw [(hb a e).1]; exact hk)
  · intro e W' hp
    exact h.fed hp
theorem C1.feedl {w W : World} {g : Nat} {v vb : Value} {m : Int} {xs : List Int} {st : Int} {long : Bool} {bs : List Int} {rows : List (Value × List Ln)} (h : C1 w W g v vb m (xs, st, long) bs rows) (hm : 2 ≤ m ∧ m ≤ 65536)
    (zs : List Int) (fr : Nat × Nat) (hz : zs.length ≤ 100000) :
    Calls Try.prog 6 #[.pointer (some ⟨g, 0, none⟩), .slice (some ⟨W.heap.size, 0, none⟩) zs.length zs.length] (W.alloc (.cells (nums .u8 zs).toArray 5 fr)) (FedPost w g vb m bs rows (sFeed m (xs, st, long) zs)) := by
  have h' := h.alloc (.cells (nums .u8 zs).toArray 5 fr)
  refine (feed_calls _ h'.sp hm h'.len _ zs.length zs.length zs (lit_reads W zs fr (by omega)) (Nat.le_refl _) hz (lit_away h.sp _) (lit_lt _ _)).mono ?_
  intro e W' hp
  exact h'.fed hp

theorem feed_x (m c : Int) (hc : c ≠ 13) (n : Nat) (hn : 0 < n) (h : (n : Int) = m - 2) : sFeed m ([], 0, false) (List.replicate n c) = ([], (List.replicate n c, 1, false)) := by
  have hf := feed_rep m c hc [] n [] 0 false (by decide) (by simp; omega)
  rw [if_neg (by omega)] at hf
  simpa [sFeed] using hf
theorem feed_z (m c : Int) (hc : c ≠ 13) (n : Nat) (h : (n : Int) = m - 2) : sFeed (m + 1) ([], 0, false) (List.replicate n c ++ [c] ++ [13, 10]) = ([(List.replicate (n + 1) c, false)], ([], 0, false)) := by
  have hf := feed_rep (m + 1) c hc [13, 10] (n + 1) [] 0 false (by decide) (by simp; omega)
  rw [if_neg (by omega)] at hf
  rw [← List.replicate_succ', hf, feed_crlf _ _ _ _ (by decide)]
  simp
theorem feed_w (m c : Int) (hc : c ≠ 13) (n k : Nat) (h : (n : Int) = m - 2) : sFeed m ([], 0, false) (List.replicate (n + k) c ++ [c] ++ [13, 10]) = ([(List.replicate n c, true)], ([], 0, false)) := by
  have hf := feed_rep m c hc (List.replicate (k + 1) c ++ [13, 10]) n [] 0 false (by decide) (by simp; omega)
  have hg := feed_full m c hc [13, 10] (k + 1) (List.replicate n c) (if n = 0 then 0 else 1) false (by split <;> decide) (by simpa using h)
  rw [if_neg (Nat.succ_ne_zero k), if_neg (Nat.succ_ne_zero k)] at hg
  rw [← List.replicate_succ', show n + k + 1 = n + (k + 1) from by omega, ← List.replicate_append_replicate, List.append_assoc, hf]
  rw [List.nil_append, hg, feed_crlf _ _ _ _ (by decide)]

set_option maxHeartbeats 1600000 in
set_option maxRecDepth 100000 in
theorem bounds_in (w : World) (most c more : Int) (h1 : 3 ≤ most) (h2 : most ≤ 3000) (h3 : 0 ≤ more) (h4 : more ≤ 3000) (h5 : c ≠ 13) (h6 : c ≠ 10) :
    Calls Try.prog 3 #[.int .i64 most, .int .u8 c, .int .i64 more] w fun e w' => e = .returned (.bool true) ∧ Below w.heap.size w w' := by
  have b1 : decide (most < 3) = false := decide_eq_false (by omega)
  have b2 : decide (3000 < most) = false := decide_eq_false (by omega)
  have b3 : decide (more < 0) = false := decide_eq_false (by omega)
  have b4 : decide (3000 < more) = false := decide_eq_false (by omega)
  have b5 : (c == 13) = false := beq_eq_false_iff_ne.2 h5
  have b6 : (c == 10) = false := beq_eq_false_iff_ne.2 h6
  have H5 := Lib.hid h5
  clear h5 h6
  obtain ⟨n, hn⟩ : ∃ n : Nat, (n : Int) = most - 2 := ⟨(most - 2).toNat, by omega⟩
  have hn1 : (n : Int) ≤ most - 2 := by omega
  have hn2 : most - 2 ≤ (n : Int) := by omega
  clear hn
  go_enter Try.func3, Try.ntmps3
  go_wp2_with fail
  refine (known_calls _).mono ?_
  rintro e w0 ⟨rfl, hb0⟩
  have Hb0 := Lib.hid hb0
  clear hb0
  go_wp2_with fail
  refine (new_calls most _ (by omega)).mono ?_
  rintro e w1 ⟨rfl, rfl⟩
  have HC0 := Lib.hid (C1.start w w0 Hb0.out most (by omega))
  generalize HG : w0.heap.size = g at *
  generalize HW : w0.alloc (.cells #[.int .i64 most, .slice none 0 0, .int .i64 0, .bool false] 36) = W1 at *
  clear HG HW
  go_wp2_with fail
  go_loopw [9, 10] (fun vb i wr => ∃ k : Nat, i = .int .i64 k ∧ k ≤ n ∧ Hid (C1 w wr g (.slice none 0 0) vb most ([], 0, false) (List.replicate k c) [])) (fun _ i _ => n - (intOf i).toNat)
  case atStart => exact ⟨0, rfl, Nat.zero_le _, HC0⟩
  case round =>
    obtain ⟨k, rfl, hk, HC⟩ := hrel
    by_cases hlt : k < n
    · have hd : decide ((k : Int) < most - 2) = true := decide_eq_true (by omega)
      obtain ⟨v1, w2, hr, hC2⟩ := HC.out.push c (by simp; omega)
      have HR := Lib.hid hr
      have HC2 := Lib.hid hC2
      clear hr hC2
      go_wp2_with (at_builtin; refine wpList_append_known rfl (.tmp 61) (.tmp 63) 27 27 rfl u9 (.slice (some ⟨wr.heap.size, 0, none⟩) 1 1) rfl rfl HR.out ?_)
      go_roundw
      case rel => exact ⟨k + 1, by go_num, by omega, Lib.hid (by rw [List.replicate_succ']; exact HC2.out)⟩
      case measure => simp [intOf]; omega
    · have hd : decide ((k : Int) < most - 2) = false := decide_eq_false (by omega)
      obtain rfl : n = k := by omega
      go_wp2_with fail
      have hF := HC.out.feedb (by omega) u9 _ HC.out.b HC.out.ap (by simp; omega)
      rw [feed_x most c H5.out n (by omega) (by omega)] at hF
      have HF := Lib.hid hF
      clear hF
      refine HF.out.mono ?_
      rintro e w2 ⟨vx, v2, rfl, hC2⟩
      have HC2 := Lib.hid hC2
      clear hC2
      go_wp2_with fail
      have hh := held_calls w2 HC2.out.sp (by simp; omega)
      rw [show heldOf (List.replicate n c) 1 = (n : Int) from by simp [heldOf]] at hh
      refine hh.mono ?_
      clear hh
      rintro e w' ⟨rfl, rfl⟩
      go_wp2_with fail
      refine (most_no w2 HC2.out.sp (show (1 : Int) ≠ 0 by decide) (most + 5) (by omega)).mono ?_
      rintro e w' ⟨rfl, rfl⟩
      have hF := HC2.out.feedl (by omega) [13, 10] (2, 3) (by decide)
      rw [feed_crlf _ _ _ _ (by decide)] at hF
      have HF2 := Lib.hid hF
      clear hF
      have kc := Lib.run_convert_bytes_const (P := Try.prog) w2 27 5 (nums .u8 [13, 10]).toArray 2 2 Try.underlying27 Try.underlying5
      simp only [nums, List.map_cons, List.map_nil] at kc
      go_wp2_with fail
      refine HF2.out.mono ?_
      clear kc
      rintro e w3 ⟨vy, v3, rfl, hC3⟩
      have HC3 := Lib.hid hC3
      clear hC3
      go_wp2_with fail
      refine (most_yes w3 HC3.out.sp (most + 1) (by omega)).mono ?_
      rintro e w4 ⟨rfl, hi4, hs4⟩
      have HC4 := Lib.hid (HC3.out.step (s' := ([], 0, false)) hs4 hi4 (by simp; omega))
      clear hi4 hs4
      obtain ⟨va, wa, hra, hCa, hoa, hapa, hrela⟩ := HC4.out.tmp1 c (by simp; omega)
      obtain ⟨vb, wb, hrb, hCb, hob, hapb⟩ := hCa.tmp2 hoa hapa hrela ⟨#[13, 10]⟩ (by simp; omega) (by simp) (by decide)
      have HRa := Lib.hid hra
      have HRb := Lib.hid hrb
      have hF := hCb.feedb (by omega) vb _ hob hapb (by rw [show bytesOf ⟨#[13, 10]⟩ = [13, 10] from rfl]; simp; omega)
      rw [show bytesOf ⟨#[13, 10]⟩ = [13, 10] from rfl, feed_z most c H5.out n (by omega)] at hF
      have HF3 := Lib.hid hF
      clear hF hra hrb hCa hoa hapa hrela hCb hob hapb
      go_wp2_with (at_builtin; first | (refine wpList_append_known rfl (.tmp 83) (.tmp 85) 27 27 rfl u9 (.slice (some ⟨w4.heap.size, 0, none⟩) 1 1) rfl rfl HRa.out ?_) | (refine wpList_append_known rfl (.tmp 86) (.const (.string ⟨#[13, 10]⟩)) 27 9 rfl va (.string ⟨#[13, 10]⟩) rfl rfl HRb.out ?_))
      refine HF3.out.mono ?_
      rintro e w5 ⟨vz, v5, rfl, hC5⟩
      have HC5 := Lib.hid hC5
      clear hC5 HRa HRb
      go_wp2_with fail
      refine (most_yes w5 HC5.out.sp most (by omega)).mono ?_
      rintro e w6 ⟨rfl, hi6, hs6⟩
      have HC6 := Lib.hid (HC5.out.step (s' := ([], 0, false)) hs6 hi6 (by simp; omega))
      clear hi6 hs6
      go_wp2_with fail
      obtain ⟨m, hm⟩ : ∃ m : Nat, (m : Int) = more := ⟨more.toNat, by omega⟩
      have hm1 : (m : Int) ≤ more := by omega
      have hm2 : more ≤ (m : Int) := by omega
      clear hm
      go_loopw [9, 18] (fun ub i wr => ∃ k : Nat, i = .int .i64 k ∧ k ≤ m ∧ Hid (C1 w wr g v5 ub most ([], 0, false) (List.replicate (n + k) c) [(vz, [(List.replicate (n + 1) c, false)]), (vy, [(List.replicate n c, false)]), (vx, [])])) (fun _ i _ => m - (intOf i).toNat)
      case atStart => exact ⟨0, rfl, Nat.zero_le _, HC6⟩
      case round =>
        obtain ⟨k, rfl, hk, HD⟩ := hrel
        by_cases hlt2 : k < m
        · have hd2 : decide ((k : Int) < more) = true := decide_eq_true (by omega)
          obtain ⟨v1, w7, hr, hD2⟩ := HD.out.push c (by simp; omega)
          have HR := Lib.hid hr
          have HD2 := Lib.hid hD2
          clear hr hD2
          go_wp2_with (at_builtin; refine wpList_append_known rfl (.tmp 97) (.tmp 99) 27 27 rfl u9 (.slice (some ⟨wr.heap.size, 0, none⟩) 1 1) rfl rfl HR.out ?_)
          go_roundw
          case rel => exact ⟨k + 1, by go_num, by omega, Lib.hid (by rw [show n + (k + 1) = (n + k) + 1 from by omega, List.replicate_succ']; exact HD2.out)⟩
          case measure => simp [intOf]; omega
        · have hd2 : decide ((k : Int) < more) = false := decide_eq_false (by omega)
          obtain ⟨va, wa, hra, hCa, hoa, hapa, hrela⟩ := HD.out.tmp1 c (by simp; omega)
          obtain ⟨vb, wb, hrb, hCb, hob, hapb⟩ := hCa.tmp2 hoa hapa hrela ⟨#[13, 10]⟩ (by simp; omega) (by simp) (by decide)
          have HRa := Lib.hid hra
          have HRb := Lib.hid hrb
          have hF := hCb.feedb (by omega) vb _ hob hapb (by rw [show bytesOf ⟨#[13, 10]⟩ = [13, 10] from rfl]; simp; omega)
          rw [show bytesOf ⟨#[13, 10]⟩ = [13, 10] from rfl, feed_w most c H5.out n k (by omega)] at hF
          have HF4 := Lib.hid hF
          clear hF hra hrb hCa hoa hapa hrela hCb hob hapb
          go_wp2_with (at_builtin; first | (refine wpList_append_known rfl (.tmp 102) (.tmp 104) 27 27 rfl u9 (.slice (some ⟨wr.heap.size, 0, none⟩) 1 1) rfl rfl HRa.out ?_) | (refine wpList_append_known rfl (.tmp 105) (.const (.string ⟨#[13, 10]⟩)) 27 9 rfl va (.string ⟨#[13, 10]⟩) rfl rfl HRb.out ?_))
          refine HF4.out.mono ?_
          rintro e w8 ⟨vw, v8, rfl, hC8⟩
          have HC8 := Lib.hid hC8
          clear hC8 HRa HRb
          obtain ⟨gx, cx, rfl⟩ := own_slice (show OwnL w8 w.heap.size vx [] from HC8.out.rows (vx, []) (by simp))
          obtain ⟨gy, cy, rfl, hy⟩ := (show OwnL w8 w.heap.size vy [(List.replicate n c, false)] from HC8.out.rows (vy, [(List.replicate n c, false)]) (by simp)).open_ (by simp)
          obtain ⟨gz, cz, rfl, hz⟩ := (show OwnL w8 w.heap.size vz [(List.replicate (n + 1) c, false)] from HC8.out.rows (vz, [(List.replicate (n + 1) c, false)]) (by simp)).open_ (by simp)
          obtain ⟨gw, cw, rfl, hw⟩ := (show OwnL w8 w.heap.size vw [(List.replicate n c, true)] from HC8.out.rows (vw, [(List.replicate n c, true)]) (by simp)).open_ (by simp)
          have y0 := hy 0 _ rfl
          have y1 := hy 1 _ rfl
          have z1 := hz 1 _ rfl
          have t0 := hw 0 _ rfl
          have t1 := hw 1 _ rfl
          clear hy hz hw
          have hTs : (strOfNums (List.replicate n c)).size = n := by simp [strOfNums, ByteArray.size]
          generalize strOfNums (List.replicate n c) = T at *
          have hT1 : ((T.size : Int) != most - 2) = false := by rw [hTs]; simp; omega
          have hT2 : ((n : Int) != most - 2) = false := by simp; omega
          clear hTs
          have hq : Hid (∀ nq, Calls Try.prog 7 #[.pointer (some ⟨g, 0, none⟩)] (w8.drewN nq) fun e w' => e = .returned (.int .i64 0) ∧ w' = w8.drewN nq) := Lib.hid (fun nq => (held_calls (w8.drewN nq) (HC8.out.drewN nq).sp (by simp)).mono (by rintro e w' ⟨rfl, rfl⟩; exact ⟨rfl, rfl⟩))
          go_wp2
          go_quiet ((go_at_call 7; exact Calls.quiet_of_same (hq.out _)))
          go_wp2
          go_ret
          exact ⟨rfl, pw_below_drewN HC8.out.below _⟩

set_option maxHeartbeats 1600000 in
set_option maxRecDepth 100000 in
theorem bounds_out (w : World) (most c more : Int) (h : ¬ (3 ≤ most ∧ most ≤ 3000 ∧ 0 ≤ more ∧ more ≤ 3000 ∧ c ≠ 13 ∧ c ≠ 10)) :
    Calls Try.prog 3 #[.int .i64 most, .int .u8 c, .int .i64 more] w fun e w' => e = .returned (.bool true) ∧ Below w.heap.size w w' := by
  by_cases h1 : most < 3
  · have b1 : decide (most < 3) = true := decide_eq_true h1
    clear h h1
    go_enter Try.func3, Try.ntmps3
    go_wp2_with (go_at_call 4; refine (known_calls _).mono ?_; rintro e w0 ⟨rfl, hb0⟩; have Hb0 := Lib.hid hb0; clear hb0)
    go_ret
    exact ⟨rfl, Hb0.out⟩
  have b1 : decide (most < 3) = false := decide_eq_false h1
  by_cases h2 : 3000 < most
  · have b2 : decide (3000 < most) = true := decide_eq_true h2
    clear h h1 h2
    go_enter Try.func3, Try.ntmps3
    go_wp2_with (go_at_call 4; refine (known_calls _).mono ?_; rintro e w0 ⟨rfl, hb0⟩; have Hb0 := Lib.hid hb0; clear hb0)
    go_ret
    exact ⟨rfl, Hb0.out⟩
  have b2 : decide (3000 < most) = false := decide_eq_false h2
  by_cases h3 : more < 0
  · have b3 : decide (more < 0) = true := decide_eq_true h3
    clear h h1 h2 h3
    go_enter Try.func3, Try.ntmps3
    go_wp2_with (go_at_call 4; refine (known_calls _).mono ?_; rintro e w0 ⟨rfl, hb0⟩; have Hb0 := Lib.hid hb0; clear hb0)
    go_ret
    exact ⟨rfl, Hb0.out⟩
  have b3 : decide (more < 0) = false := decide_eq_false h3
  by_cases h4 : 3000 < more
  · have b4 : decide (3000 < more) = true := decide_eq_true h4
    clear h h1 h2 h3 h4
    go_enter Try.func3, Try.ntmps3
    go_wp2_with (go_at_call 4; refine (known_calls _).mono ?_; rintro e w0 ⟨rfl, hb0⟩; have Hb0 := Lib.hid hb0; clear hb0)
    go_ret
    exact ⟨rfl, Hb0.out⟩
  have b4 : decide (3000 < more) = false := decide_eq_false h4
  by_cases h5 : c = 13
  · have b5 : (c == 13) = true := beq_iff_eq.2 h5
    clear h h1 h2 h3 h4 h5
    go_enter Try.func3, Try.ntmps3
    go_wp2_with (go_at_call 4; refine (known_calls _).mono ?_; rintro e w0 ⟨rfl, hb0⟩; have Hb0 := Lib.hid hb0; clear hb0)
    go_ret
    exact ⟨rfl, Hb0.out⟩
  have b5 : (c == 13) = false := beq_eq_false_iff_ne.2 h5
  have h6 : c = 10 := by
    by_cases h6 : c = 10
    · exact h6
    · exact absurd ⟨by omega, by omega, by omega, by omega, h5, h6⟩ h
  have b6 : (c == 10) = true := beq_iff_eq.2 h6
  clear h h1 h2 h3 h4 h5 h6
  go_enter Try.func3, Try.ntmps3
  go_wp2_with (go_at_call 4; refine (known_calls _).mono ?_; rintro e w0 ⟨rfl, hb0⟩; have Hb0 := Lib.hid hb0; clear hb0)
  go_ret
  exact ⟨rfl, Hb0.out⟩

theorem bounds_any (w : World) (most c more : Int) : Calls Try.prog 3 #[.int .i64 most, .int .u8 c, .int .i64 more] w fun e w' => e = .returned (.bool true) ∧ Below w.heap.size w w' := by
  by_cases h : 3 ≤ most ∧ most ≤ 3000 ∧ 0 ≤ more ∧ more ≤ 3000 ∧ c ≠ 13 ∧ c ≠ 10
  · exact bounds_in w most c more h.1 h.2.1 h.2.2.1 h.2.2.2.1 h.2.2.2.2.1 h.2.2.2.2.2
  · exact bounds_out w most c more h
end Go.Proofs.Ytfpcngoonfbphaa
