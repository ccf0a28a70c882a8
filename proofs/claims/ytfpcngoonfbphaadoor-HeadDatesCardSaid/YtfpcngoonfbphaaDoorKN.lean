/- law18.known. -/
import Derived.Test.YtfpcngoonfbphaaDoorH9
import Derived.Test.YtfpcngoonfbphaaDoorH7
set_option linter.unusedVariables false
set_option linter.unusedSimpArgs false
namespace Go.Proofs.YtfpcngoonfbphaaDoor
open Go.RowKit Go.Proofs.YtfpcngoonfbphaaDoorW.PrintWords Go.Proofs.YtfpcngoonfbphaaDoor.Pl

theorem fldCells_at (l : List Fld) : ∀ j (hj : j < l.length), (fldCells l)[j * 2]? = some (.string ⟨l[j].1.toArray⟩) ∧ (fldCells l)[j * 2 + 1]? = some (.string ⟨l[j].2.toArray⟩) := by
  induction l with
  | nil => intro j hj; cases hj
  | cons a l ih =>
    intro j hj
    have e : fldCells (a :: l) = .string ⟨a.1.toArray⟩ :: .string ⟨a.2.toArray⟩ :: fldCells l := rfl
    cases j with
    | zero => rw [e]; exact ⟨rfl, rfl⟩
    | succ j =>
      have h := ih j (by simpa using hj)
      rw [e, show (j + 1) * 2 = j * 2 + 1 + 1 from by omega]
      exact h
theorem FldRd.of_own {W : World} {base : Nat} {v : Value} {l : List Fld} (h : OwnF W base v l) : ∃ A c, v = .slice A l.length c ∧ FldRd W A l.length l ∧ l.length ≤ c := by
  rcases h.2 with ⟨e, h0⟩ | ⟨g, cap, cur, e, hb, hh, h1, h2⟩
  · refine ⟨none, 0, ?_, ⟨rfl, fun h => by omega⟩, by omega⟩
    rw [e, h0]
  · have hc : ∀ j u, (fldCells l)[j]? = some u → W.cell? ⟨g, j, none⟩ = some u := by
      intro j u hu
      have := World.ownsRow.cells h (g := g) (by rw [e]; rfl) j u hu
      rwa [add_plain] at this
    refine ⟨some ⟨g, 0, none⟩, cap, e, ⟨rfl, fun _ => ⟨g, 0, rfl, fun j hj => ⟨?_, ?_⟩⟩⟩, ?_⟩
    · rw [Nat.zero_add]
      exact hc _ _ (fldCells_at l j hj).1
    · rw [Nat.zero_add]
      exact hc _ _ (fldCells_at l j hj).2
    · omega
def kws : Bs := [65, 58, 32, 49, 13, 10, 32, 109, 111, 114, 101, 13, 10, 66, 58, 50, 13, 10, 13, 10, 98, 111, 100, 121, 13, 10]
theorem ksplit : splitGo (kws.length + 1) [] kws = ([([65], [32, 49, 13, 10, 32, 109, 111, 114, 101]), ([66], [50])], [98, 111, 100, 121, 13, 10]) := by decide +kernel
theorem kwhole : whole [65, 58, 32, 49, 13, 10, 32, 109, 111, 114, 101, 13, 10, 66, 58, 50, 13, 10, 13, 10, 98, 111, 100, 121] = i8 kws := by decide +kernel
theorem kconv (w : World) : (convert 26 26 (.slice (some ⟨w.heap.size, 0, none⟩) 24 24)).run Tryd.prog (w.alloc (.cells #[.int .u8 65, .int .u8 58, .int .u8 32, .int .u8 49, .int .u8 13, .int .u8 10, .int .u8 32, .int .u8 109, .int .u8 111, .int .u8 114, .int .u8 101, .int .u8 13, .int .u8 10, .int .u8 66, .int .u8 58, .int .u8 50, .int .u8 13, .int .u8 10, .int .u8 13, .int .u8 10, .int .u8 98, .int .u8 111, .int .u8 100, .int .u8 121] 5)) = .ok (.slice (some ⟨w.heap.size, 0, none⟩) 24 24) (w.alloc (.cells #[.int .u8 65, .int .u8 58, .int .u8 32, .int .u8 49, .int .u8 13, .int .u8 10, .int .u8 32, .int .u8 109, .int .u8 111, .int .u8 114, .int .u8 101, .int .u8 13, .int .u8 10, .int .u8 66, .int .u8 58, .int .u8 50, .int .u8 13, .int .u8 10, .int .u8 13, .int .u8 10, .int .u8 98, .int .u8 111, .int .u8 100, .int .u8 121] 5 (24, 25))) :=
  Lib.run_convert_bytes_const (P := Tryd.prog) w 26 5 #[.int .u8 65, .int .u8 58, .int .u8 32, .int .u8 49, .int .u8 13, .int .u8 10, .int .u8 32, .int .u8 109, .int .u8 111, .int .u8 114, .int .u8 101, .int .u8 13, .int .u8 10, .int .u8 66, .int .u8 58, .int .u8 50, .int .u8 13, .int .u8 10, .int .u8 13, .int .u8 10, .int .u8 98, .int .u8 111, .int .u8 100, .int .u8 121] 24 24 Tryd.underlying26 Tryd.underlying5
theorem kciv : Pl.Civ (clampT 951782400 / 86400) 2000 1 28 := by
  refine ⟨?_, ?_, ?_⟩ <;> decide +kernel
theorem kstamp : Pl.stamp (clampT 951782400 / 86400 % 7) 28 1 2000 (clampT 951782400 % 86400) = [84, 117, 101, 44, 32, 50, 57, 32, 70, 101, 98, 32, 50, 48, 48, 48, 32, 48, 48, 58, 48, 48, 58, 48, 48, 32, 43, 48, 48, 48, 48] := by decide +kernel
theorem kdate (w : World) : Calls Tryd.prog 10 #[.int .i64 951782400] w fun e w' => e = .returned (.string ⟨#[84, 117, 101, 44, 32, 50, 57, 32, 70, 101, 98, 32, 50, 48, 48, 48, 32, 48, 48, 58, 48, 48, 58, 48, 48, 32, 43, 48, 48, 48, 48]⟩) ∧ Below w.heap.size w w' := by
  refine (Date_calls 951782400 w).mono ?_
  rintro e w' ⟨y, m, d, hc, rfl, hb⟩
  obtain ⟨rfl, rfl, rfl⟩ := hc.uniq kciv
  rw [kstamp]
  exact ⟨rfl, hb⟩
theorem kname (w : World) : Calls Tryd.prog 20 #[.string ⟨#[88, 45, 121]⟩] w fun e w' => e = .returned (.bool true) ∧ w = w' := by
  have h := Name_calls ⟨#[88, 45, 121]⟩ w (by decide)
  rwa [show nameOk (⟨#[88, 45, 121]⟩ : ByteArray).data.toList = true from by decide +kernel] at h
theorem kname2 (w : World) : Calls Tryd.prog 20 #[.string ⟨#[97, 32, 98]⟩] w fun e w' => e = .returned (.bool false) ∧ w = w' := by
  have h := Name_calls ⟨#[97, 32, 98]⟩ w (by decide)
  rwa [show nameOk (⟨#[97, 32, 98]⟩ : ByteArray).data.toList = false from by decide +kernel] at h
set_option maxHeartbeats 4000000 in
set_option maxRecDepth 100000 in
theorem known_calls (w : World) (hsh : w.ShapedOpen Tryd.prog) : Calls Tryd.prog 9 #[] w fun e w' => e = .returned (.bool true) ∧ Below w.heap.size w w' := by
  have kc := kconv w
  have HBa := Lib.hid (below_alloc (Below.refl w.heap.size w) (.cells #[.int .u8 65, .int .u8 58, .int .u8 32, .int .u8 49, .int .u8 13, .int .u8 10, .int .u8 32, .int .u8 109, .int .u8 111, .int .u8 114, .int .u8 101, .int .u8 13, .int .u8 10, .int .u8 66, .int .u8 58, .int .u8 50, .int .u8 13, .int .u8 10, .int .u8 13, .int .u8 10, .int .u8 98, .int .u8 111, .int .u8 100, .int .u8 121] 5 (24, 25)))
  have HS := Lib.hid (Split_calls (w.alloc (.cells #[.int .u8 65, .int .u8 58, .int .u8 32, .int .u8 49, .int .u8 13, .int .u8 10, .int .u8 32, .int .u8 109, .int .u8 111, .int .u8 114, .int .u8 101, .int .u8 13, .int .u8 10, .int .u8 66, .int .u8 58, .int .u8 50, .int .u8 13, .int .u8 10, .int .u8 13, .int .u8 10, .int .u8 98, .int .u8 111, .int .u8 100, .int .u8 121] 5 (24, 25))) (shaped_below hsh HBa.out (Nat.le_refl _)) (some ⟨w.heap.size, 0, none⟩) 24 24 [65, 58, 32, 49, 13, 10, 32, 109, 111, 114, 101, 13, 10, 66, 58, 50, 13, 10, 13, 10, 98, 111, 100, 121] kws kwhole (by decide) (lit_reads w [65, 58, 32, 49, 13, 10, 32, 109, 111, 114, 101, 13, 10, 66, 58, 50, 13, 10, 13, 10, 98, 111, 100, 121] (24, 25) (by decide)) (Nat.le_refl _) (by decide))
  rw [ksplit] at HS
  clear hsh
  go_enter Tryd.func9, Tryd.ntmps9
  go_wp2_with fail
  refine HS.out.mono ?_
  rintro e w1 ⟨vo, vb, rfl, ho, hsb, hb1, _⟩
  obtain ⟨A1, c1, rfl, hf, hc1⟩ := FldRd.of_own ho
  obtain ⟨A2, c2, rfl, hr2, _, _⟩ := hsb
  have HG := Lib.hid (Get_calls w1 A1 2 c1 [([65], [32, 49, 13, 10, 32, 109, 111, 114, 101]), ([66], [50])] [98] hf hc1 (by decide) (by decide) (by decide))
  rw [show Pl.getV [([65], [32, 49, 13, 10, 32, 109, 111, 114, 101]), ([66], [50])] [98] = [50] from by decide +kernel, show Pl.getN [([65], [32, 49, 13, 10, 32, 109, 111, 114, 101]), ([66], [50])] [98] = 1 from by decide +kernel] at HG
  have HF := Lib.hid hf
  have HB1 := Lib.hid hb1
  have HR2 := Lib.hid hr2
  clear ho hf hb1 HS hr2
  go_wp2_with fail
  refine HG.out.mono ?_
  rintro e w2 ⟨rfl, hb2⟩
  have HB2 := Lib.hid hb2
  have hf2 := HF.out.below hb2
  obtain ⟨g, o, rfl, hc⟩ := hf2.2 (by decide)
  have hcell : w2.cell? ⟨g, o + 1, none⟩ = some (.string ⟨#[32, 49, 13, 10, 32, 109, 111, 114, 101]⟩) := (hc 0 (by decide)).2
  have hcv := string_of_reads (c := c2) (P := Tryd.prog) Tryd.underlying26 Tryd.underlying5 Tryd.underlying9 (HR2.out.below hb2)
  rw [show strOfNums (i8 [98, 111, 100, 121, 13, 10]) = ⟨#[98, 111, 100, 121, 13, 10]⟩ from by decide +kernel] at hcv
  clear hb2 hf2 hc
  go_wp2_with fail
  refine (kdate w2).mono ?_
  rintro e w3 ⟨rfl, hb3⟩
  have HB3 := Lib.hid hb3
  clear hb3
  go_wp2_with fail
  refine (kname _).mono ?_
  rintro e w4 ⟨rfl, rfl⟩
  go_wp2_with fail
  refine (kname2 _).mono ?_
  rintro e w4 ⟨rfl, rfl⟩
  go_wp2
  go_ret
  refine ⟨rfl, ?_⟩
  have x1 := below_then HBa.out HBa.out.size HB1.out
  have x2 := below_then x1 x1.size HB2.out
  exact below_then x2 x2.size HB3.out
end Go.Proofs.YtfpcngoonfbphaaDoor
