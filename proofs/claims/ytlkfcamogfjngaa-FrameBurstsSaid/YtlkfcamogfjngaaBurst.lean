/- CrcBursts, walked: it returns true for every text, place and pattern. -/
import Derived.Test.YtlkfcamogfjngaaBrow
import Derived.Lib.Hide
import Derived.Outline
import Derived.Deep.RegionWith
namespace Go.Proofs.Ytlkfcamogfjngaa.Burst
open Go.RowKit Go.Proofs.Ytlkfcamogfjngaa.PAll Go.Proofs.YtlkfcamogfjngaaW.PrintWords Go.Proofs.YtlkfcamogfjngaaW.PrintLast Go.Proofs.YtlkfcamogfjngaaW.PrintMore
open Go.Proofs.Ytlkfcamogfjngaa.Fr Go.Proofs.Ytlkfcamogfjngaa.Brow Go.Proofs.Ytlkfcamogfjngaa.Bits
set_option linter.unusedVariables false
set_option maxHeartbeats 2000000
set_option maxRecDepth 100000
/-- What holds at the head of each round: the row's bytes are unlike the text's only within the 32 bits from a on. -/
def Inv (w wr : World) (s : ByteArray) (a : Nat) (k : Nat) (m : List UInt8) : Prop :=
  k ≤ 32 ∧ m.length = s.size ∧ BRow wr w.heap.size m ∧ (∀ p, p < a ∨ a + 32 ≤ p → bit m p = bit s.data.toList p) ∧ Below w.heap.size w wr
theorem Inv.keep {w wr : World} {s : ByteArray} {a k : Nat} {m : List UInt8} (h : Inv w wr s a k m) (hk : k < 32) : Inv w wr s a (k + 1) m := ⟨by omega, h.2.1, h.2.2.1, h.2.2.2.1, h.2.2.2.2⟩
theorem Inv.turn {w wr : World} {s : ByteArray} {a k : Nat} {m : List UInt8} (h : Inv w wr s a k m) (hk : k < 32) (hj : (a + k) / 8 < s.size) :
    Inv w ((wr.setCell ⟨w.heap.size, (a + k) / 8, none⟩ (.int .u8 (Go.bits BinOp.xor IntKind.u8 (((m[(a + k) / 8]?.getD 0).toNat : Nat) : Int) (2 ^ ((a + k) % 8) % 256)))).drew) s a (k + 1) (flip m (a + k)) := by
  obtain ⟨h1, h2, h3, h4, h5⟩ := h
  have hx : (m[(a + k) / 8]?.getD 0).toNat < 256 := UInt8.toNat_lt _
  have hp : 2 ^ ((a + k) % 8) < 256 := Nat.lt_of_lt_of_le (Nat.pow_lt_pow_right (by decide) (show (a + k) % 8 < 8 by omega)) (by decide)
  have hv : Go.bits BinOp.xor IntKind.u8 (((m[(a + k) / 8]?.getD 0).toNat : Nat) : Int) (2 ^ ((a + k) % 8) % 256) = (((UInt8.ofNat ((m.getD ((a + k) / 8) 0).toNat ^^^ 2 ^ ((a + k) % 8))).toNat : Nat) : Int) := by
    have e : ((2 : Int) ^ ((a + k) % 8) % 256) = ((2 ^ ((a + k) % 8) : Nat) : Int) := by
      have : ((2 : Int) ^ ((a + k) % 8)) = ((2 ^ ((a + k) % 8) : Nat) : Int) := by norm_cast
      rw [this]
      exact_mod_cast Nat.mod_eq_of_lt hp
    rw [e, xor_u8 _ _ hx hp, List.getD_eq_getElem?_getD, UInt8.toNat_ofNat', Nat.mod_eq_of_lt (Nat.xor_lt_two_pow hx hp)]
  refine ⟨by omega, by rw [flip_length]; exact h2, ?_, ?_, ?_⟩
  · exact (h3.set _ (by omega) _ _ hv).drew
  · intro p hp
    rw [bit_flip m (a + k) p (by omega)]
    exact h4 p hp
  · exact below_drew1 (h5.setCell (Nat.le_refl _) _)
theorem num_next (k : Nat) : Value.int IntKind.i64 ((k : Int) + 1) = Value.int IntKind.i64 ((k + 1 : Nat) : Int) := by rw [Int.natCast_add]; rfl
theorem walk_loop (s : ByteArray) (a : Nat) (pat : Int) (w : World) (h1 : (s.size : Int) ≤ 2000) (h3 : (a : Int) < 8 * (s.size : Int)) (h4 : (pat == 0) = false) :
    Calls Try.prog 4 #[.string s, .int .i64 a, .int .u32 pat] w fun e w' => e = .returned (.bool true) ∧ Below w.heap.size w w' := by
  have hcv := fun w => Lib.run_convert_string_bytes (P := Try.prog) w 9 27 5 s Try.underlying9 Try.underlying27 Try.underlying5
  have hrow := BRow.new w s
  have hbel := below_new w s
  have R0 : Hid (Inv w (Lib.bytesWorld w 5 s) s a 0 s.data.toList) := Lib.hid ⟨by omega, by rw [Op.len_list], hrow, fun _ _ => rfl, hbel⟩
  clear hrow hbel
  go_enter Try.func4, Try.ntmps4
  go_wp2_with fail
  clear hcv
  generalize Lib.bytesWorld w 5 s = w1 at *
  obtain ⟨c0, hc0⟩ : ∃ c0, c0 = grownCap w s.size 0 5 := ⟨_, rfl⟩
  rw [← hc0]
  clear hc0
  go_loopw [31] (fun i wr => ∃ (k : Nat) (m : List UInt8), i = .int .i64 k ∧ Hid (Inv w wr s a k m)) (fun i _ => 32 - (intOf i).toNat)
  case atStart => exact ⟨0, s.data.toList, rfl, R0⟩
  case round =>
    clear R0
    obtain ⟨k, m, rfl, hI⟩ := hrel
    obtain ⟨hk, hm, hrow, hbits, hbel⟩ := hI.out
    have HR := Aside0.mk hrow
    have HM := Lib.hid hm
    clear hbel hrow hbits hm
    by_cases hlt : k < 32
    · have hcell : (a + k) / 8 < s.size → wr.cell? ⟨w.heap.size, (a + k) / 8, none⟩ = some (.int .u8 ((m.getD ((a + k) / 8) 0).toNat : Nat)) := fun h => HR.out.cell _ (by rw [HM.out]; exact h)
      have hfree : (a + k) / 8 < s.size → wr.frozen? ⟨w.heap.size, (a + k) / 8, none⟩ = false := fun h => HR.out.free _ (by rw [HM.out]; exact h)
      go_wp2_with fail
      · have ht : (a : Int) + (k : Int) < 8 * (s.size : Int) := by assumption
        have hj : (a + k) / 8 < s.size := by omega
        have hc := hcell hj
        have hf := hfree hj
        clear hcell hfree
        go_region
        go_wp2_with fail
        exact ⟨⟨k + 1, flip m (a + k), num_next k, Lib.hid (hI.out.turn hlt hj)⟩, by simp [intOf]; omega⟩
      · exact ⟨⟨k + 1, m, num_next k, Lib.hid (hI.out.keep hlt)⟩, by simp [intOf]; omega⟩
      · exact ⟨⟨k + 1, m, num_next k, Lib.hid (hI.out.keep hlt)⟩, by simp [intOf]; omega⟩
    · have hm := hI.out.2.1
      have hz := tx_size m
      have hS1 := Aside0.mk (Crc.sum_tells (tx m) (by omega) (10 * s.size + 100) (by omega))
      have hS2 := Aside0.mk (Crc.sum_tells s (by omega) (10 * s.size + 100) (by omega))
      have A := Aside0.mk (Crc.awake1 (10 * s.size + 100) (by omega))
      have hct : ∀ n, (convert 27 9 (.slice (some ⟨w.heap.size, 0, none⟩) s.size c0)).run Try.prog (wr.drewN n) = .ok (.string (tx m)) (wr.drewN n) := by
        intro n
        have hr : BRow (wr.drewN n) w.heap.size m := hI.out.2.2.1
        rw [← hI.out.2.1]
        exact hr.text (by have := hI.out.2.1; omega) c0
      have hfin : ((tx m).toList == s.toList) == ((((Crc.sum (tx m).data.toList).toNat : Nat) : Int) == (((Crc.sum s.data.toList).toNat : Nat) : Int)) := by
        have hb := burst_sum s.data.toList m (by rw [hm, Op.len_list]) a hI.out.2.2.2.1
        rw [beq_iff_eq, Bool.eq_iff_iff, beq_iff_eq, beq_iff_eq, Crc.eq_toList]
        have e1 : tx m = s ↔ m = s.data.toList := ⟨fun h => by rw [← h]; rfl, fun h => by rw [h, tx_of]⟩
        have e2 : ((((Crc.sum (tx m).data.toList).toNat : Nat) : Int) = (((Crc.sum s.data.toList).toNat : Nat) : Int)) ↔ Crc.sum m = Crc.sum s.data.toList := by
          rw [Int.natCast_inj, BitVec.toNat_inj]
          rfl
        rw [e1, e2]
        exact hb.symm
      have HF := Lib.hid hfin
      clear hz hfin hm
      have HB := Aside0.mk hI.out.2.2.2.2
      go_wp2_with fail
      go_quiet (first
        | (go_at_call 9; refine (bosunlaw01_Awake.calls _ true _ A.out).mono ?_; rintro e w' ⟨rfl, ⟨nd, rfl⟩⟩; exact ⟨rfl, _, World.drewN_drewN _ _ _⟩)
        | (go_at_call_of 11 (Value.string (tx m)); refine (crc_Sum.calls _ _ _ _ hS1.out).mono ?_; rintro e w' ⟨rfl, ⟨nd, rfl⟩⟩; exact ⟨rfl, _, World.drewN_drewN _ _ _⟩)
        | (go_at_call_of 11 (Value.string s); refine (crc_Sum.calls _ _ _ _ hS2.out).mono ?_; rintro e w' ⟨rfl, ⟨nd, rfl⟩⟩; exact ⟨rfl, _, World.drewN_drewN _ _ _⟩))
      go_wp2_with fail
      go_ret
      exact ⟨by rw [HF.out]; rfl, pw_below_drewN HB.out _⟩
theorem walk (s : ByteArray) (at_ pat : Int) (w : World) (hs : s.size ≤ 140737488351232) (ha : (Lit.int .i64 at_).wf = true) (hp : (Lit.int .u32 pat).wf = true) :
    Calls Try.prog 4 #[.string s, .int .i64 at_, .int .u32 pat] w fun e w' => e = .returned (.bool true) ∧ Below w.heap.size w w' := by
  have A := Aside0.mk (Crc.awake1 100 (by omega))
  clear ha hp
  by_cases h1 : (s.size : Int) ≤ 2000
  · by_cases h2 : 0 ≤ at_
    · by_cases h3 : at_ < 8 * (s.size : Int)
      · by_cases h4 : (pat == 0) = true
        · obtain rfl : pat = 0 := by simpa using h4
          clear h4
          go_enter Try.func4, Try.ntmps4
          go_wp2_with fail
          refine (bosunlaw01_Awake.calls _ true _ A.out).mono ?_
          rintro e w1 ⟨rfl, ⟨nd, rfl⟩⟩
          go_wp2_with fail
          go_ret
          exact ⟨rfl, pw_below_drewN (Below.refl _ _) _⟩
        · obtain ⟨a, rfl⟩ := Int.eq_ofNat_of_zero_le h2
          exact walk_loop s a pat w h1 h3 (by simpa using h4)
      · have h3' : 8 * (s.size : Int) ≤ at_ := by omega
        clear h3
        go_enter Try.func4, Try.ntmps4
        go_wp2_with fail
        refine (bosunlaw01_Awake.calls _ true _ A.out).mono ?_
        rintro e w1 ⟨rfl, ⟨nd, rfl⟩⟩
        go_wp2_with fail
        go_ret
        exact ⟨rfl, pw_below_drewN (Below.refl _ _) _⟩
    · have h2' : at_ < 0 := by omega
      clear h2
      go_enter Try.func4, Try.ntmps4
      go_wp2_with fail
      refine (bosunlaw01_Awake.calls _ true _ A.out).mono ?_
      rintro e w1 ⟨rfl, ⟨nd, rfl⟩⟩
      go_wp2_with fail
      go_ret
      exact ⟨rfl, pw_below_drewN (Below.refl _ _) _⟩
  · have h1' : 2000 < (s.size : Int) := by omega
    clear h1
    go_enter Try.func4, Try.ntmps4
    go_wp2_with fail
    refine (bosunlaw01_Awake.calls _ true _ A.out).mono ?_
    rintro e w1 ⟨rfl, ⟨nd, rfl⟩⟩
    go_wp2_with fail
    go_ret
    exact ⟨rfl, pw_below_drewN (Below.refl _ _) _⟩
end Go.Proofs.Ytlkfcamogfjngaa.Burst
