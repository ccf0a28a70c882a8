/- The world's shape carried along; '[]byte(s)' of a string as a row that is only read. -/
import Derived.Test.YtfpcngoonfbphaaDoorProg
import Derived.Test.YtfpcngoonfbphaaDoorWWords
import Derived.Test.YtfpcngoonfbphaaDoorWLast
import Derived.Test.YtfpcngoonfbphaaDoorWShare
import Derived.Test.YtfpcngoonfbphaaDoorWN
import Derived.Test.YtfpcngoonfbphaaDoorWNEv
import Derived.Test.YtfpcngoonfbphaaDoorWMore
import Derived.Lib.ConvBytes
import Derived.Below
set_option linter.unusedVariables false
namespace Go.Proofs.YtfpcngoonfbphaaDoor
open Go.RowKit Go.Proofs.YtfpcngoonfbphaaDoorW.PrintWords

theorem shaped_below {B : Nat} {w w' : World} (h : w.ShapedOpen Tryd.prog) (hb : Below B w w') (hB : w.heap.size ≤ B) : w'.ShapedOpen Tryd.prog :=
  World.ShapedOpen.keptBut (may := fun _ => False) h (Below.frame ⟨hb.os, hb.tape, hb.output, hb.size, fun k hk => hb.block k (Nat.lt_of_lt_of_le hk hB)⟩ _) (fun _ hf => hf.elim)
/-- A block's cells are the same: what is read in it is the same. -/
theorem reads_move {W W' : World} {k : IntKind} {g n : Nat} {xs : List Int} (h : ReadsInt W k (some ⟨g, 0, none⟩) n xs) (hm : W'.heap[g]? = W.heap[g]?) : ReadsInt W' k (some ⟨g, 0, none⟩) n xs := by
  refine ⟨h.1, h.2.1, fun h0 => ?_⟩
  obtain ⟨ad, e, hc⟩ := h.2.2 h0
  refine ⟨ad, e, fun j hj => ?_⟩
  injection e with e
  subst e
  rw [← hc j hj, add_plain]
  unfold World.cell?
  simp only [hm]
theorem conv_V (W : World) (e : TypeId) (s : ByteArray) (hs : s.size ≤ 9223372036854775807) : Kd.V (Kd.int .u8) e (Lib.bytesWorld W e s) W.heap.size (fun k_ => (W.heap.size ≤ k_)) (.slice (some ⟨W.heap.size, 0, none⟩) s.size (grownCap W s.size 0 e)) (bytesOf s) := by
  have hl := bytesOf_length s
  refine ⟨some ⟨W.heap.size, 0, none⟩, grownCap W s.size 0 e, by rw [hl], by rw [hl]; exact grownCap_ge W s.size 0 _, fun W' hk => ?_⟩
  rw [hl]
  refine Kd.C_of_reads (d := (0 : Int)) (h1 := fun _ => rfl) (reads_move (bytes_reads W e s hs) (hk W.heap.size (Nat.le_refl _) (by rw [Lib.bytesWorld_size]; omega)))
theorem V_conv {P : Program} {ops : Array Oper} {rest : List Oper} {o : Oper} {a : Act} {Q : Exit → Act → World → Prop} {W : World} (hgd : o.guard = none) {N : Tmp} (_hN : o.dst = some N) (t1 t2 e : TypeId) (x : Operand) (ho : o.op = .convert t1 t2 x) (s : ByteArray) (hx : a.eval x = .string s)
    (u1 : P.underlying t1 = some .string) (u2 : P.underlying t2 = some (.slice e)) (u3 : P.underlying e = some (.int .u8)) (hs : s.size ≤ 9223372036854775807)
    (h : ∀ v1 w1, Kd.V (Kd.int .u8) e w1 W.heap.size (fun k_ => (W.heap.size ≤ k_)) v1 (bytesOf s) → Below W.heap.size W w1 → wpList P ops Q rest (a.put o.dst v1) w1) : wpList P ops Q (o :: rest) a W := by
  refine Kd.event_run hgd ?_ (h _ _ (conv_V W e s hs) (bytes_below (Below.refl _ _) (Nat.le_refl _) e s))
  have hr := Lib.run_convert_string_bytes (P := P) W t1 t2 e s u1 u2 u3
  simp [execOp, ho, hx, hr]
end Go.Proofs.YtfpcngoonfbphaaDoor
