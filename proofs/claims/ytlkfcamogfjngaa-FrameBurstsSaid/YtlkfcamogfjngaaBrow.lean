/- A row of bytes that was made of a text, read and written: what a walk needs of it. No condition. -/
import Derived.Test.YtlkfcamogfjngaaOpw
import Derived.Test.YtlkfcamogfjngaaBits
namespace Go.Proofs.Ytlkfcamogfjngaa.Brow
open Go.RowKit Go.Proofs.Ytlkfcamogfjngaa.PAll Go.Proofs.YtlkfcamogfjngaaW.PrintWords Go.Proofs.YtlkfcamogfjngaaW.PrintLast Go.Proofs.YtlkfcamogfjngaaW.PrintMore

def cells (m : List UInt8) : List Value := m.map fun b => Value.int .u8 b.toNat
/-- Block g holds the bytes m, behind them zeros, and the run-time's mark. -/
def BRow (w : World) (g : Nat) (m : List UInt8) : Prop := ∃ (tail : List Value) (c : Nat), w.heap[g]? = some (.cells (cells m ++ tail).toArray 5 (c, c + 1)) ∧ m.length ≤ c
theorem BRow.cell {w : World} {g : Nat} {m : List UInt8} (h : BRow w g m) (j : Nat) (hj : j < m.length) : w.cell? ⟨g, j, none⟩ = some (.int .u8 ((m.getD j 0).toNat : Nat)) := by
  obtain ⟨tail, c, hg, hc⟩ := h
  have hj2 : j < (cells m).length := by simpa [cells] using hj
  simp only [World.cell?, hg]
  show (cells m ++ tail).toArray[j]? = _
  rw [List.getElem?_toArray, List.getElem?_append_left hj2]
  simp [cells, List.getD_eq_getElem?_getD, List.getElem?_eq_getElem hj]
theorem BRow.free {w : World} {g : Nat} {m : List UInt8} (h : BRow w g m) (j : Nat) (hj : j < m.length) : w.frozen? ⟨g, j, none⟩ = false := by
  obtain ⟨tail, c, hg, hc⟩ := h
  simp only [World.frozen?, hg]
  simp
  omega
theorem BRow.drew {w : World} {g : Nat} {m : List UInt8} (h : BRow w g m) : BRow w.drew g m := h
theorem BRow.below {w w' : World} {g : Nat} {m : List UInt8} (h : BRow w g m) (hb : Below w.heap.size w w') : BRow w' g m := by
  obtain ⟨tail, c, hg, hc⟩ := h
  have hlt : g < w.heap.size := by
    rcases Nat.lt_or_ge g w.heap.size with h' | h'
    · exact h'
    · rw [Array.getElem?_eq_none h'] at hg
      cases hg
  exact ⟨tail, c, by rw [hb.block g hlt]; exact hg, hc⟩
theorem BRow.set {w : World} {g : Nat} {m : List UInt8} (h : BRow w g m) (j : Nat) (hj : j < m.length) (b : UInt8) (x : Int) (hx : x = ((b.toNat : Nat) : Int)) : BRow (w.setCell ⟨g, j, none⟩ (.int .u8 x)) g (m.set j b) := by
  obtain ⟨tail, c, hg, hc⟩ := h
  refine ⟨tail, c, ?_, by rw [List.length_set]; exact hc⟩
  have hj2 : j < (cells m).length := by simpa [cells] using hj
  subst hx
  simp only [World.setCell, Array.getElem?_modify, hg]
  simp only [if_pos trivial, Option.map_some]
  rw [List.setIfInBounds_toArray, List.set_append_left _ _ hj2]
  simp [cells, List.map_set]
theorem BRow.new (w : World) (s : ByteArray) : BRow (Lib.bytesWorld w 5 s) w.heap.size s.data.toList := by
  refine ⟨List.replicate (grownCap w s.size 0 5 - s.size) (.int .u8 0), (Lib.bytesCells w 5 s).size, ?_, ?_⟩
  · rw [Lib.bytesWorld_at_new]
    congr 2
    apply Array.ext'
    simp [Lib.bytesCells, cells]
  · simp [Lib.bytesCells]
theorem below_new (w : World) (s : ByteArray) : Below w.heap.size w (Lib.bytesWorld w 5 s) := by
  refine ⟨?_, ?_, ?_, ?_, fun k hk => Lib.bytesWorld_at_old w 5 s k hk⟩
  · simp [Lib.bytesWorld, World.freeze, World.alloc, World.drew, -World.alloc_eq, -World.drew_eq]
  · simp [Lib.bytesWorld, World.freeze, World.alloc, World.drew, -World.alloc_eq, -World.drew_eq]
  · simp [Lib.bytesWorld, World.freeze, World.alloc, World.drew, -World.alloc_eq, -World.drew_eq]
  · rw [Lib.bytesWorld_size]
    omega
theorem BRow.reads {w : World} {g : Nat} {m : List UInt8} (h : BRow w g m) (hm : m.length ≤ 9223372036854775807) : ReadsInt w .u8 (some ⟨g, 0, none⟩) m.length (m.map fun b => (b.toNat : Int)) := by
  refine ⟨by simp, hm, fun _ => ⟨_, rfl, fun j hj => ?_⟩⟩
  have hc := h.cell j hj
  have he : (Addr.add ⟨g, 0, none⟩ j) = ⟨g, j, none⟩ := by simp [Addr.add]; omega
  rw [he, hc]
  simp [List.getD_eq_getElem?_getD, List.getElem?_eq_getElem hj]
theorem BRow.text {w : World} {g : Nat} {m : List UInt8} (h : BRow w g m) (hm : m.length ≤ 9223372036854775807) (c : Nat) :
    (convert 27 9 (.slice (some ⟨g, 0, none⟩) m.length c)).run Try.prog w = .ok (.string (Fr.tx m)) w := by
  rw [string_of_reads (P := Try.prog) (e := 5) Try.underlying27 Try.underlying5 Try.underlying9 (h.reads hm)]
  congr 2
  apply Crc.eq_list
  rw [strOfNums_data, List.map_map, Fr.tx_list]
  refine Eq.trans (List.map_congr_left (g := id) ?_) (List.map_id m)
  intro b _
  show UInt8.ofNat ((b.toNat : Int).toNat) = b
  rw [Int.toNat_natCast, UInt8.ofNat_toNat]
end Go.Proofs.Ytlkfcamogfjngaa.Brow
