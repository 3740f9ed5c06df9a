/- FrameBursts, walked: it returns true for every version, payload, place, pattern and part. -/
import Derived.Test.YtlkfcamogfjngaaFburst
import Derived.Test.YtlkfcamogfjngaaBurst
namespace Go.Proofs.Ytlkfcamogfjngaa.Fbursts
open Go.RowKit Go.Proofs.Ytlkfcamogfjngaa.PAll Go.Proofs.YtlkfcamogfjngaaW.PrintWords Go.Proofs.YtlkfcamogfjngaaW.PrintLast Go.Proofs.YtlkfcamogfjngaaW.PrintMore
open Go.Proofs.Ytlkfcamogfjngaa.Fr Go.Proofs.Ytlkfcamogfjngaa.Op Go.Proofs.Ytlkfcamogfjngaa.Brow Go.Proofs.Ytlkfcamogfjngaa.Bits Go.Proofs.Ytlkfcamogfjngaa.Fburst
set_option linter.unusedVariables false
set_option maxHeartbeats 2000000
set_option maxRecDepth 100000
/-- What holds at the head of each round. -/
def Inv (w : World) (g : Nat) (wr : World) (f : ByteArray) (lo hi : Nat) (k : Nat) (m : List UInt8) : Prop :=
  k ≤ 32 ∧ m.length = f.size ∧ BRow wr g m ∧ (∀ q, q < lo ∨ lo + 32 ≤ q ∨ hi ≤ q → bit m q = bit f.data.toList q) ∧ Below w.heap.size w wr ∧ w.heap.size ≤ g
theorem Inv.keep {w wr : World} {g : Nat} {f : ByteArray} {lo hi k : Nat} {m : List UInt8} (h : Inv w g wr f lo hi k m) (hk : k < 32) : Inv w g wr f lo hi (k + 1) m := ⟨by omega, h.2.1, h.2.2.1, h.2.2.2.1, h.2.2.2.2⟩
theorem Inv.turn {w wr : World} {g : Nat} {f : ByteArray} {lo hi k : Nat} {m : List UInt8} (h : Inv w g wr f lo hi k m) (hk : k < 32) (q : Nat) (hq : q = lo + k) (hlt : q < hi) (hhi : hi ≤ 8 * f.size) :
    Inv w g ((wr.setCell ⟨g, q / 8, none⟩ (.int .u8 (Go.bits BinOp.xor IntKind.u8 (((m[q / 8]?.getD 0).toNat : Nat) : Int) (2 ^ (q % 8) % 256)))).drew) f lo hi (k + 1) (flip m q) := by
  obtain ⟨h1, h2, h3, h4, h5, h6⟩ := h
  have hx : (m[q / 8]?.getD 0).toNat < 256 := UInt8.toNat_lt _
  have hp : 2 ^ (q % 8) < 256 := Nat.lt_of_lt_of_le (Nat.pow_lt_pow_right (by decide) (show q % 8 < 8 by omega)) (by decide)
  have hv : Go.bits BinOp.xor IntKind.u8 (((m[q / 8]?.getD 0).toNat : Nat) : Int) (2 ^ (q % 8) % 256) = (((UInt8.ofNat ((m.getD (q / 8) 0).toNat ^^^ 2 ^ (q % 8))).toNat : Nat) : Int) := by
    have e : ((2 : Int) ^ (q % 8) % 256) = ((2 ^ (q % 8) : Nat) : Int) := by
      have : ((2 : Int) ^ (q % 8)) = ((2 ^ (q % 8) : Nat) : Int) := by norm_cast
      rw [this]
      exact_mod_cast Nat.mod_eq_of_lt hp
    rw [e, xor_u8 _ _ hx hp, List.getD_eq_getElem?_getD, UInt8.toNat_ofNat', Nat.mod_eq_of_lt (Nat.xor_lt_two_pow hx hp)]
  refine ⟨by omega, by rw [flip_length]; exact h2, ?_, ?_, ?_, h6⟩
  · exact (h3.set _ (by omega) _ _ hv).drew
  · intro p hp
    rw [bit_flip m q p (by omega)]
    exact h4 p hp
  · exact below_drew1 (h5.setCell h6 _)

theorem walk0 (k0 : Nat) (v : Nat) (hv : v < 256) (p f : ByteArray) (hf : f = tx (frameOf v p.data.toList)) (a : Nat) (pat : Int) (part : Int) (w : World) (h1 : (p.size : Int) ≤ 2000) (hp : part % 3 = 0) (hp0 : 0 ≤ part) (C : Aside0 (frame_Close.f k0 (v : Int) p = some (f, 0))) (A : Aside0 (bosunlaw03_Awake.f k0 = some true)) (hz : (f.size : Int) = p.size + 13) (h3 : (a : Int) < 8 * ((9 + (p.size : Int)) - 9)) :
    Calls Try.prog 8 #[.int .u8 v, .string p, .int .i64 a, .int .u32 pat, .int .u8 part] w fun e w' => e = .returned (.bool true) ∧ Below w.heap.size w w' := by
  have hcv := fun w => Lib.run_convert_string_bytes (P := Try.prog) w 9 27 5 f Try.underlying9 Try.underlying27 Try.underlying5
  have HF := Lib.hid hf
  clear hf
  go_enter Try.func8, Try.ntmps8
  go_wp2_with fail
  refine (frame_Close.calls _ _ _ _ _ _ C.out).mono ?_
  rintro e w1 ⟨rfl, hb⟩
  have R0 : Hid (Inv w w1.heap.size (Lib.bytesWorld w1 5 f) f (8 * 9 + a) (8 * (9 + p.size)) 0 f.data.toList) := Lib.hid ⟨by omega, by rw [len_list], BRow.new w1 f, fun _ _ => rfl, below_step hb (below_new w1 f), hb.size⟩
  clear hb
  go_wp2_with fail
  clear hcv
  generalize Lib.bytesWorld w1 5 f = w2 at *
  obtain ⟨c0, hc0⟩ : ∃ c0, c0 = grownCap w1 f.size 0 5 := ⟨_, rfl⟩
  rw [← hc0]
  clear hc0
  obtain ⟨g, hg⟩ : ∃ g, g = w1.heap.size := ⟨_, rfl⟩
  rw [← hg] at R0 ⊢
  clear hg
  go_loopw [66] (fun i wr => ∃ (k : Nat) (m : List UInt8), i = .int .i64 k ∧ Hid (Inv w g wr f (8 * 9 + a) (8 * (9 + p.size)) k m)) (fun i _ => 32 - (intOf i).toNat)
  case atStart => exact ⟨0, f.data.toList, rfl, R0⟩
  case round =>
    clear R0
    obtain ⟨k, m, rfl, hI⟩ := hrel
    obtain ⟨hk, hm, hrow, hbits, hbel, hge⟩ := hI.out
    have HR := Aside0.mk hrow
    have HM := Lib.hid hm
    clear hbel hrow hbits hm hge
    by_cases hlt : k < 32
    · have hcell : (72 + a + k) / 8 < f.size → wr.cell? ⟨g, (72 + a + k) / 8, none⟩ = some (.int .u8 ((m.getD ((72 + a + k) / 8) 0).toNat : Nat)) := fun h => HR.out.cell _ (by rw [HM.out]; exact h)
      have hfree : (72 + a + k) / 8 < f.size → wr.frozen? ⟨g, (72 + a + k) / 8, none⟩ = false := fun h => HR.out.free _ (by rw [HM.out]; exact h)
      go_wp2_with fail
      · have hj0 : 72 + a + k < 8 * (9 + p.size) := by omega
        have hj : (72 + a + k) / 8 < f.size := by omega
        have hc := hcell hj
        have hfr := hfree hj
        clear hcell hfree
        go_region
        go_wp2_with fail
        exact ⟨⟨k + 1, flip m (72 + a + k), Burst.num_next k, Lib.hid (hI.out.turn hlt _ (by omega) hj0 (by omega))⟩, by simp [intOf]; omega⟩
      · exact ⟨⟨k + 1, m, Burst.num_next k, Lib.hid (hI.out.keep hlt)⟩, by simp [intOf]; omega⟩
      · exact ⟨⟨k + 1, m, Burst.num_next k, Lib.hid (hI.out.keep hlt)⟩, by simp [intOf]; omega⟩
    · obtain ⟨hk2, hm, hrow, hbits, hbel, hge⟩ := hI.out
      have HB := Aside0.mk hbel
      have hzm := tx_size m
      have O := Aside0.mk (open_calls (tx m) (by omega))
      have hct : ∀ (W : World), W.heap[g]? = wr.heap[g]? → (convert 27 9 (.slice (some ⟨g, 0, none⟩) f.size c0)).run Try.prog W = .ok (.string (tx m)) W := by
        intro W hW
        have hr : BRow W g m := by
          obtain ⟨tail, c, h1, h2⟩ := hrow
          exact ⟨tail, c, by rw [hW]; exact h1, h2⟩
        rw [← hm]
        exact hr.text (by omega) c0
      have hct0 := hct wr rfl
      have hglt : g < wr.heap.size := by
        obtain ⟨tail, c, h1, h2⟩ := hrow
        rcases Nat.lt_or_ge g wr.heap.size with h' | h'
        · exact h'
        · rw [Array.getElem?_eq_none h'] at h1
          cases h1
      have hpl : frameOf v p.data.toList = f.data.toList := by rw [HF.out]; rfl
      have hlen := frameOf_length v p.data.toList
      have hpln := len_list p
      have hfin := frame_burst v hv p.data.toList (by omega) m (by rw [hm, hpl, len_list]) 9 (9 + p.size) (8 * 9 + a) (by unfold Part; omega) (by omega) (by rw [hpl]; exact hbits)
      rw [hpl] at hfin
      have hemp := openP_empty m
      rw [tx_list] at O
      generalize openP m = q at *
      obtain ⟨ov, op, oc⟩ := q
      dsimp only at hfin hemp O
      have e1 : (((tx m).toList == f.toList) == ((oc : Int) == 0)) = true := by
        rw [beq_iff_eq, Bool.eq_iff_iff, beq_iff_eq, beq_iff_eq, Crc.eq_toList]
        have e2 : tx m = f ↔ m = f.data.toList := ⟨fun h => by rw [← h]; rfl, fun h => by rw [h, tx_of]⟩
        rw [e2, ← hfin]
        omega
      have e3 : oc = 0 ∨ (oc ≠ 0 ∧ op = []) := by
        by_cases h : oc = 0
        · exact .inl h
        · exact .inr ⟨h, hemp h⟩
      have HE := Lib.hid e1
      have HE3 := Lib.hid e3
      have HCT := Lib.hid hct
      clear hfin hemp e1 e3 hct hbits hrow hbel hzm hpl hlen hpln hm
      go_wp2_with fail
      refine (O.out _).mono ?_
      rintro e w3 ⟨rfl, hb⟩
      have HB2 := Aside0.mk (below_step HB.out hb)
      have hg3 : g < w3.heap.size := Nat.lt_of_lt_of_le hglt hb.size
      have hw3 : w3.heap[g]? = wr.heap[g]? := hb.block g hglt
      clear hb HB
      go_wp2_with fail
      refine (bosunlaw03_Awake.calls _ true _ A.out).mono ?_
      rintro e w4 ⟨rfl, hb⟩
      have HB := Aside0.mk (below_step HB2.out hb)
      have hw4 : w4.heap[g]? = wr.heap[g]? := (hb.block g hg3).trans hw3
      have hct4 := HCT.out w4 hw4
      clear hb HB2 hw3 hw4 hct0
      rcases HE3.out with h0 | ⟨h0, rfl⟩
      · subst h0
        clear HE3
        have h5 : ((tx m).toList == f.toList) = true := by have := HE.out; simpa using this
        go_wp2_with fail
        go_ret
        exact ⟨rfl, HB.out⟩
      · have h6 : ((oc : Int) == 0) = false := by rw [beq_eq_false_iff_ne]; omega
        have h5 : ((tx m).toList == f.toList) = false := by have := HE.out; rw [h6] at this; simpa using this
        clear HE3 h0
        go_wp2_with fail
        go_ret
        have h7 : (tx []).toList.isEmpty = true := by rw [Go.ByteArray.toList_eq]; rfl
        exact ⟨by show Ending.returned (.bool (tx []).toList.isEmpty) = _; rw [h7], HB.out⟩

theorem walk1 (k0 : Nat) (v : Nat) (hv : v < 256) (p f : ByteArray) (hf : f = tx (frameOf v p.data.toList)) (a : Nat) (pat : Int) (part : Int) (w : World) (h1 : (p.size : Int) ≤ 2000) (hp : part % 3 = 1) (hp0 : 0 ≤ part) (C : Aside0 (frame_Close.f k0 (v : Int) p = some (f, 0))) (A : Aside0 (bosunlaw03_Awake.f k0 = some true)) (hz : (f.size : Int) = p.size + 13) (h3 : (a : Int) < 8 * ((13 + (p.size : Int)) - (9 + (p.size : Int)))) :
    Calls Try.prog 8 #[.int .u8 v, .string p, .int .i64 a, .int .u32 pat, .int .u8 part] w fun e w' => e = .returned (.bool true) ∧ Below w.heap.size w w' := by
  have hcv := fun w => Lib.run_convert_string_bytes (P := Try.prog) w 9 27 5 f Try.underlying9 Try.underlying27 Try.underlying5
  have HF := Lib.hid hf
  clear hf
  go_enter Try.func8, Try.ntmps8
  go_wp2_with fail
  refine (frame_Close.calls _ _ _ _ _ _ C.out).mono ?_
  rintro e w1 ⟨rfl, hb⟩
  have R0 : Hid (Inv w w1.heap.size (Lib.bytesWorld w1 5 f) f (8 * (9 + p.size) + a) (8 * (13 + p.size)) 0 f.data.toList) := Lib.hid ⟨by omega, by rw [len_list], BRow.new w1 f, fun _ _ => rfl, below_step hb (below_new w1 f), hb.size⟩
  clear hb
  go_wp2_with fail
  clear hcv
  generalize Lib.bytesWorld w1 5 f = w2 at *
  obtain ⟨c0, hc0⟩ : ∃ c0, c0 = grownCap w1 f.size 0 5 := ⟨_, rfl⟩
  rw [← hc0]
  clear hc0
  obtain ⟨g, hg⟩ : ∃ g, g = w1.heap.size := ⟨_, rfl⟩
  rw [← hg] at R0 ⊢
  clear hg
  go_loopw [66] (fun i wr => ∃ (k : Nat) (m : List UInt8), i = .int .i64 k ∧ Hid (Inv w g wr f (8 * (9 + p.size) + a) (8 * (13 + p.size)) k m)) (fun i _ => 32 - (intOf i).toNat)
  case atStart => exact ⟨0, f.data.toList, rfl, R0⟩
  case round =>
    clear R0
    obtain ⟨k, m, rfl, hI⟩ := hrel
    obtain ⟨hk, hm, hrow, hbits, hbel, hge⟩ := hI.out
    have HR := Aside0.mk hrow
    have HM := Lib.hid hm
    clear hbel hrow hbits hm hge
    by_cases hlt : k < 32
    · have hcell : (8 * (9 + p.size) + a + k) / 8 < f.size → wr.cell? ⟨g, (8 * (9 + p.size) + a + k) / 8, none⟩ = some (.int .u8 ((m.getD ((8 * (9 + p.size) + a + k) / 8) 0).toNat : Nat)) := fun h => HR.out.cell _ (by rw [HM.out]; exact h)
      have hfree : (8 * (9 + p.size) + a + k) / 8 < f.size → wr.frozen? ⟨g, (8 * (9 + p.size) + a + k) / 8, none⟩ = false := fun h => HR.out.free _ (by rw [HM.out]; exact h)
      go_wp2_with fail
      · have hj0 : 8 * (9 + p.size) + a + k < 8 * (13 + p.size) := by omega
        have hj : (8 * (9 + p.size) + a + k) / 8 < f.size := by omega
        have hc := hcell hj
        have hfr := hfree hj
        clear hcell hfree
        go_region
        go_wp2_with fail
        exact ⟨⟨k + 1, flip m (8 * (9 + p.size) + a + k), Burst.num_next k, Lib.hid (hI.out.turn hlt _ (by omega) hj0 (by omega))⟩, by simp [intOf]; omega⟩
      · exact ⟨⟨k + 1, m, Burst.num_next k, Lib.hid (hI.out.keep hlt)⟩, by simp [intOf]; omega⟩
      · exact ⟨⟨k + 1, m, Burst.num_next k, Lib.hid (hI.out.keep hlt)⟩, by simp [intOf]; omega⟩
    · obtain ⟨hk2, hm, hrow, hbits, hbel, hge⟩ := hI.out
      have HB := Aside0.mk hbel
      have hzm := tx_size m
      have O := Aside0.mk (open_calls (tx m) (by omega))
      have hct : ∀ (W : World), W.heap[g]? = wr.heap[g]? → (convert 27 9 (.slice (some ⟨g, 0, none⟩) f.size c0)).run Try.prog W = .ok (.string (tx m)) W := by
        intro W hW
        have hr : BRow W g m := by
          obtain ⟨tail, c, h1, h2⟩ := hrow
          exact ⟨tail, c, by rw [hW]; exact h1, h2⟩
        rw [← hm]
        exact hr.text (by omega) c0
      have hct0 := hct wr rfl
      have hglt : g < wr.heap.size := by
        obtain ⟨tail, c, h1, h2⟩ := hrow
        rcases Nat.lt_or_ge g wr.heap.size with h' | h'
        · exact h'
        · rw [Array.getElem?_eq_none h'] at h1
          cases h1
      have hpl : frameOf v p.data.toList = f.data.toList := by rw [HF.out]; rfl
      have hlen := frameOf_length v p.data.toList
      have hpln := len_list p
      have hfin := frame_burst v hv p.data.toList (by omega) m (by rw [hm, hpl, len_list]) (9 + p.size) (13 + p.size) (8 * (9 + p.size) + a) (by unfold Part; omega) (by omega) (by rw [hpl]; exact hbits)
      rw [hpl] at hfin
      have hemp := openP_empty m
      rw [tx_list] at O
      generalize openP m = q at *
      obtain ⟨ov, op, oc⟩ := q
      dsimp only at hfin hemp O
      have e1 : (((tx m).toList == f.toList) == ((oc : Int) == 0)) = true := by
        rw [beq_iff_eq, Bool.eq_iff_iff, beq_iff_eq, beq_iff_eq, Crc.eq_toList]
        have e2 : tx m = f ↔ m = f.data.toList := ⟨fun h => by rw [← h]; rfl, fun h => by rw [h, tx_of]⟩
        rw [e2, ← hfin]
        omega
      have e3 : oc = 0 ∨ (oc ≠ 0 ∧ op = []) := by
        by_cases h : oc = 0
        · exact .inl h
        · exact .inr ⟨h, hemp h⟩
      have HE := Lib.hid e1
      have HE3 := Lib.hid e3
      have HCT := Lib.hid hct
      clear hfin hemp e1 e3 hct hbits hrow hbel hzm hpl hlen hpln hm
      go_wp2_with fail
      refine (O.out _).mono ?_
      rintro e w3 ⟨rfl, hb⟩
      have HB2 := Aside0.mk (below_step HB.out hb)
      have hg3 : g < w3.heap.size := Nat.lt_of_lt_of_le hglt hb.size
      have hw3 : w3.heap[g]? = wr.heap[g]? := hb.block g hglt
      clear hb HB
      go_wp2_with fail
      refine (bosunlaw03_Awake.calls _ true _ A.out).mono ?_
      rintro e w4 ⟨rfl, hb⟩
      have HB := Aside0.mk (below_step HB2.out hb)
      have hw4 : w4.heap[g]? = wr.heap[g]? := (hb.block g hg3).trans hw3
      have hct4 := HCT.out w4 hw4
      clear hb HB2 hw3 hw4 hct0
      rcases HE3.out with h0 | ⟨h0, rfl⟩
      · subst h0
        clear HE3
        have h5 : ((tx m).toList == f.toList) = true := by have := HE.out; simpa using this
        go_wp2_with fail
        go_ret
        exact ⟨rfl, HB.out⟩
      · have h6 : ((oc : Int) == 0) = false := by rw [beq_eq_false_iff_ne]; omega
        have h5 : ((tx m).toList == f.toList) = false := by have := HE.out; rw [h6] at this; simpa using this
        clear HE3 h0
        go_wp2_with fail
        go_ret
        have h7 : (tx []).toList.isEmpty = true := by rw [Go.ByteArray.toList_eq]; rfl
        exact ⟨by show Ending.returned (.bool (tx []).toList.isEmpty) = _; rw [h7], HB.out⟩

theorem walk2 (k0 : Nat) (v : Nat) (hv : v < 256) (p f : ByteArray) (hf : f = tx (frameOf v p.data.toList)) (a : Nat) (pat : Int) (part : Int) (w : World) (h1 : (p.size : Int) ≤ 2000) (hp : part % 3 = 2) (hp0 : 0 ≤ part) (C : Aside0 (frame_Close.f k0 (v : Int) p = some (f, 0))) (A : Aside0 (bosunlaw03_Awake.f k0 = some true)) (hz : (f.size : Int) = p.size + 13) (h3 : (a : Int) < 8 * (4 - 0)) :
    Calls Try.prog 8 #[.int .u8 v, .string p, .int .i64 a, .int .u32 pat, .int .u8 part] w fun e w' => e = .returned (.bool true) ∧ Below w.heap.size w w' := by
  have hcv := fun w => Lib.run_convert_string_bytes (P := Try.prog) w 9 27 5 f Try.underlying9 Try.underlying27 Try.underlying5
  have HF := Lib.hid hf
  clear hf
  go_enter Try.func8, Try.ntmps8
  go_wp2_with fail
  refine (frame_Close.calls _ _ _ _ _ _ C.out).mono ?_
  rintro e w1 ⟨rfl, hb⟩
  have R0 : Hid (Inv w w1.heap.size (Lib.bytesWorld w1 5 f) f (8 * 0 + a) (8 * 4) 0 f.data.toList) := Lib.hid ⟨by omega, by rw [len_list], BRow.new w1 f, fun _ _ => rfl, below_step hb (below_new w1 f), hb.size⟩
  clear hb
  go_wp2_with fail
  clear hcv
  generalize Lib.bytesWorld w1 5 f = w2 at *
  obtain ⟨c0, hc0⟩ : ∃ c0, c0 = grownCap w1 f.size 0 5 := ⟨_, rfl⟩
  rw [← hc0]
  clear hc0
  obtain ⟨g, hg⟩ : ∃ g, g = w1.heap.size := ⟨_, rfl⟩
  rw [← hg] at R0 ⊢
  clear hg
  go_loopw [66] (fun i wr => ∃ (k : Nat) (m : List UInt8), i = .int .i64 k ∧ Hid (Inv w g wr f (8 * 0 + a) (8 * 4) k m)) (fun i _ => 32 - (intOf i).toNat)
  case atStart => exact ⟨0, f.data.toList, rfl, R0⟩
  case round =>
    clear R0
    obtain ⟨k, m, rfl, hI⟩ := hrel
    obtain ⟨hk, hm, hrow, hbits, hbel, hge⟩ := hI.out
    have HR := Aside0.mk hrow
    have HM := Lib.hid hm
    clear hbel hrow hbits hm hge
    by_cases hlt : k < 32
    · have hcell : (a + k) / 8 < f.size → wr.cell? ⟨g, (a + k) / 8, none⟩ = some (.int .u8 ((m.getD ((a + k) / 8) 0).toNat : Nat)) := fun h => HR.out.cell _ (by rw [HM.out]; exact h)
      have hfree : (a + k) / 8 < f.size → wr.frozen? ⟨g, (a + k) / 8, none⟩ = false := fun h => HR.out.free _ (by rw [HM.out]; exact h)
      go_wp2_with fail
      · have hj0 : a + k < 8 * 4 := by omega
        have hj : (a + k) / 8 < f.size := by omega
        have hc := hcell hj
        have hfr := hfree hj
        clear hcell hfree
        go_region
        go_wp2_with fail
        exact ⟨⟨k + 1, flip m (a + k), Burst.num_next k, Lib.hid (hI.out.turn hlt _ (by omega) hj0 (by omega))⟩, by simp [intOf]; omega⟩
      · exact ⟨⟨k + 1, m, Burst.num_next k, Lib.hid (hI.out.keep hlt)⟩, by simp [intOf]; omega⟩
      · exact ⟨⟨k + 1, m, Burst.num_next k, Lib.hid (hI.out.keep hlt)⟩, by simp [intOf]; omega⟩
    · obtain ⟨hk2, hm, hrow, hbits, hbel, hge⟩ := hI.out
      have HB := Aside0.mk hbel
      have hzm := tx_size m
      have O := Aside0.mk (open_calls (tx m) (by omega))
      have hct : ∀ (W : World), W.heap[g]? = wr.heap[g]? → (convert 27 9 (.slice (some ⟨g, 0, none⟩) f.size c0)).run Try.prog W = .ok (.string (tx m)) W := by
        intro W hW
        have hr : BRow W g m := by
          obtain ⟨tail, c, h1, h2⟩ := hrow
          exact ⟨tail, c, by rw [hW]; exact h1, h2⟩
        rw [← hm]
        exact hr.text (by omega) c0
      have hct0 := hct wr rfl
      have hglt : g < wr.heap.size := by
        obtain ⟨tail, c, h1, h2⟩ := hrow
        rcases Nat.lt_or_ge g wr.heap.size with h' | h'
        · exact h'
        · rw [Array.getElem?_eq_none h'] at h1
          cases h1
      have hpl : frameOf v p.data.toList = f.data.toList := by rw [HF.out]; rfl
      have hlen := frameOf_length v p.data.toList
      have hpln := len_list p
      have hfin := frame_burst v hv p.data.toList (by omega) m (by rw [hm, hpl, len_list]) 0 4 (8 * 0 + a) (by unfold Part; omega) (by omega) (by rw [hpl]; exact hbits)
      rw [hpl] at hfin
      have hemp := openP_empty m
      rw [tx_list] at O
      generalize openP m = q at *
      obtain ⟨ov, op, oc⟩ := q
      dsimp only at hfin hemp O
      have e1 : (((tx m).toList == f.toList) == ((oc : Int) == 0)) = true := by
        rw [beq_iff_eq, Bool.eq_iff_iff, beq_iff_eq, beq_iff_eq, Crc.eq_toList]
        have e2 : tx m = f ↔ m = f.data.toList := ⟨fun h => by rw [← h]; rfl, fun h => by rw [h, tx_of]⟩
        rw [e2, ← hfin]
        omega
      have e3 : oc = 0 ∨ (oc ≠ 0 ∧ op = []) := by
        by_cases h : oc = 0
        · exact .inl h
        · exact .inr ⟨h, hemp h⟩
      have HE := Lib.hid e1
      have HE3 := Lib.hid e3
      have HCT := Lib.hid hct
      clear hfin hemp e1 e3 hct hbits hrow hbel hzm hpl hlen hpln hm
      go_wp2_with fail
      refine (O.out _).mono ?_
      rintro e w3 ⟨rfl, hb⟩
      have HB2 := Aside0.mk (below_step HB.out hb)
      have hg3 : g < w3.heap.size := Nat.lt_of_lt_of_le hglt hb.size
      have hw3 : w3.heap[g]? = wr.heap[g]? := hb.block g hglt
      clear hb HB
      go_wp2_with fail
      refine (bosunlaw03_Awake.calls _ true _ A.out).mono ?_
      rintro e w4 ⟨rfl, hb⟩
      have HB := Aside0.mk (below_step HB2.out hb)
      have hw4 : w4.heap[g]? = wr.heap[g]? := (hb.block g hg3).trans hw3
      have hct4 := HCT.out w4 hw4
      clear hb HB2 hw3 hw4 hct0
      rcases HE3.out with h0 | ⟨h0, rfl⟩
      · subst h0
        clear HE3
        have h5 : ((tx m).toList == f.toList) = true := by have := HE.out; simpa using this
        go_wp2_with fail
        go_ret
        exact ⟨rfl, HB.out⟩
      · have h6 : ((oc : Int) == 0) = false := by rw [beq_eq_false_iff_ne]; omega
        have h5 : ((tx m).toList == f.toList) = false := by have := HE.out; rw [h6] at this; simpa using this
        clear HE3 h0
        go_wp2_with fail
        go_ret
        have h7 : (tx []).toList.isEmpty = true := by rw [Go.ByteArray.toList_eq]; rfl
        exact ⟨by show Ending.returned (.bool (tx []).toList.isEmpty) = _; rw [h7], HB.out⟩

theorem out0a (k0 : Nat) (v : Nat) (p f : ByteArray) (at_ : Int) (pat : Int) (part : Int) (w : World) (h1 : (p.size : Int) ≤ 2000) (hp : part % 3 = 0) (hp0 : 0 ≤ part) (C : Aside0 (frame_Close.f k0 (v : Int) p = some (f, 0))) (A : Aside0 (bosunlaw03_Awake.f k0 = some true)) (hz : (f.size : Int) = p.size + 13) (h3 : at_ < 0) :
    Calls Try.prog 8 #[.int .u8 v, .string p, .int .i64 at_, .int .u32 pat, .int .u8 part] w fun e w' => e = .returned (.bool true) ∧ Below w.heap.size w w' := by
  go_enter Try.func8, Try.ntmps8
  go_wp2_with fail
  refine (frame_Close.calls _ _ _ _ _ _ C.out).mono ?_
  rintro e w1 ⟨rfl, hb⟩
  have HB := Aside0.mk hb
  clear hb
  go_wp2_with fail
  refine (bosunlaw03_Awake.calls _ true _ A.out).mono ?_
  rintro e w4 ⟨rfl, hb⟩
  have HB2 := Aside0.mk (below_step HB.out hb)
  clear hb HB
  go_wp2_with fail
  go_ret
  exact ⟨rfl, HB2.out⟩

theorem out0b (k0 : Nat) (v : Nat) (p f : ByteArray) (at_ : Int) (pat : Int) (part : Int) (w : World) (h1 : (p.size : Int) ≤ 2000) (hp : part % 3 = 0) (hp0 : 0 ≤ part) (C : Aside0 (frame_Close.f k0 (v : Int) p = some (f, 0))) (A : Aside0 (bosunlaw03_Awake.f k0 = some true)) (hz : (f.size : Int) = p.size + 13) (h3 : 8 * ((9 + (p.size : Int)) - 9) ≤ at_) :
    Calls Try.prog 8 #[.int .u8 v, .string p, .int .i64 at_, .int .u32 pat, .int .u8 part] w fun e w' => e = .returned (.bool true) ∧ Below w.heap.size w w' := by
  go_enter Try.func8, Try.ntmps8
  go_wp2_with fail
  refine (frame_Close.calls _ _ _ _ _ _ C.out).mono ?_
  rintro e w1 ⟨rfl, hb⟩
  have HB := Aside0.mk hb
  clear hb
  go_wp2_with fail
  refine (bosunlaw03_Awake.calls _ true _ A.out).mono ?_
  rintro e w4 ⟨rfl, hb⟩
  have HB2 := Aside0.mk (below_step HB.out hb)
  clear hb HB
  go_wp2_with fail
  go_ret
  exact ⟨rfl, HB2.out⟩

theorem out1a (k0 : Nat) (v : Nat) (p f : ByteArray) (at_ : Int) (pat : Int) (part : Int) (w : World) (h1 : (p.size : Int) ≤ 2000) (hp : part % 3 = 1) (hp0 : 0 ≤ part) (C : Aside0 (frame_Close.f k0 (v : Int) p = some (f, 0))) (A : Aside0 (bosunlaw03_Awake.f k0 = some true)) (hz : (f.size : Int) = p.size + 13) (h3 : at_ < 0) :
    Calls Try.prog 8 #[.int .u8 v, .string p, .int .i64 at_, .int .u32 pat, .int .u8 part] w fun e w' => e = .returned (.bool true) ∧ Below w.heap.size w w' := by
  go_enter Try.func8, Try.ntmps8
  go_wp2_with fail
  refine (frame_Close.calls _ _ _ _ _ _ C.out).mono ?_
  rintro e w1 ⟨rfl, hb⟩
  have HB := Aside0.mk hb
  clear hb
  go_wp2_with fail
  refine (bosunlaw03_Awake.calls _ true _ A.out).mono ?_
  rintro e w4 ⟨rfl, hb⟩
  have HB2 := Aside0.mk (below_step HB.out hb)
  clear hb HB
  go_wp2_with fail
  go_ret
  exact ⟨rfl, HB2.out⟩

theorem out1b (k0 : Nat) (v : Nat) (p f : ByteArray) (at_ : Int) (pat : Int) (part : Int) (w : World) (h1 : (p.size : Int) ≤ 2000) (hp : part % 3 = 1) (hp0 : 0 ≤ part) (C : Aside0 (frame_Close.f k0 (v : Int) p = some (f, 0))) (A : Aside0 (bosunlaw03_Awake.f k0 = some true)) (hz : (f.size : Int) = p.size + 13) (h3 : 8 * ((13 + (p.size : Int)) - (9 + (p.size : Int))) ≤ at_) :
    Calls Try.prog 8 #[.int .u8 v, .string p, .int .i64 at_, .int .u32 pat, .int .u8 part] w fun e w' => e = .returned (.bool true) ∧ Below w.heap.size w w' := by
  go_enter Try.func8, Try.ntmps8
  go_wp2_with fail
  refine (frame_Close.calls _ _ _ _ _ _ C.out).mono ?_
  rintro e w1 ⟨rfl, hb⟩
  have HB := Aside0.mk hb
  clear hb
  go_wp2_with fail
  refine (bosunlaw03_Awake.calls _ true _ A.out).mono ?_
  rintro e w4 ⟨rfl, hb⟩
  have HB2 := Aside0.mk (below_step HB.out hb)
  clear hb HB
  go_wp2_with fail
  go_ret
  exact ⟨rfl, HB2.out⟩

theorem out2a (k0 : Nat) (v : Nat) (p f : ByteArray) (at_ : Int) (pat : Int) (part : Int) (w : World) (h1 : (p.size : Int) ≤ 2000) (hp : part % 3 = 2) (hp0 : 0 ≤ part) (C : Aside0 (frame_Close.f k0 (v : Int) p = some (f, 0))) (A : Aside0 (bosunlaw03_Awake.f k0 = some true)) (hz : (f.size : Int) = p.size + 13) (h3 : at_ < 0) :
    Calls Try.prog 8 #[.int .u8 v, .string p, .int .i64 at_, .int .u32 pat, .int .u8 part] w fun e w' => e = .returned (.bool true) ∧ Below w.heap.size w w' := by
  go_enter Try.func8, Try.ntmps8
  go_wp2_with fail
  refine (frame_Close.calls _ _ _ _ _ _ C.out).mono ?_
  rintro e w1 ⟨rfl, hb⟩
  have HB := Aside0.mk hb
  clear hb
  go_wp2_with fail
  refine (bosunlaw03_Awake.calls _ true _ A.out).mono ?_
  rintro e w4 ⟨rfl, hb⟩
  have HB2 := Aside0.mk (below_step HB.out hb)
  clear hb HB
  go_wp2_with fail
  go_ret
  exact ⟨rfl, HB2.out⟩

theorem out2b (k0 : Nat) (v : Nat) (p f : ByteArray) (at_ : Int) (pat : Int) (part : Int) (w : World) (h1 : (p.size : Int) ≤ 2000) (hp : part % 3 = 2) (hp0 : 0 ≤ part) (C : Aside0 (frame_Close.f k0 (v : Int) p = some (f, 0))) (A : Aside0 (bosunlaw03_Awake.f k0 = some true)) (hz : (f.size : Int) = p.size + 13) (h3 : 8 * (4 - 0) ≤ at_) :
    Calls Try.prog 8 #[.int .u8 v, .string p, .int .i64 at_, .int .u32 pat, .int .u8 part] w fun e w' => e = .returned (.bool true) ∧ Below w.heap.size w w' := by
  go_enter Try.func8, Try.ntmps8
  go_wp2_with fail
  refine (frame_Close.calls _ _ _ _ _ _ C.out).mono ?_
  rintro e w1 ⟨rfl, hb⟩
  have HB := Aside0.mk hb
  clear hb
  go_wp2_with fail
  refine (bosunlaw03_Awake.calls _ true _ A.out).mono ?_
  rintro e w4 ⟨rfl, hb⟩
  have HB2 := Aside0.mk (below_step HB.out hb)
  clear hb HB
  go_wp2_with fail
  go_ret
  exact ⟨rfl, HB2.out⟩

theorem walk (ver : Int) (p : ByteArray) (at_ pat part : Int) (w : World) (hv : (Lit.int .u8 ver).wf = true) (hp : p.size ≤ 140737488351232) (ha : (Lit.int .i64 at_).wf = true) (hpt : (Lit.int .u32 pat).wf = true) (hpa : (Lit.int .u8 part).wf = true) :
    Calls Try.prog 8 #[.int .u8 ver, .string p, .int .i64 at_, .int .u32 pat, .int .u8 part] w fun e w' => e = .returned (.bool true) ∧ Below w.heap.size w w' := by
  have hv2 : 0 ≤ ver ∧ ver < 256 := by
    have h := hv
    simp only [Lit.wf, Bool.and_eq_true, decide_eq_true_eq] at h
    have h1 : IntKind.min .u8 = 0 := by decide
    have h2 : IntKind.max .u8 = 255 := by decide
    omega
  have hpa2 : 0 ≤ part := by
    have h := hpa
    simp only [Lit.wf, Bool.and_eq_true, decide_eq_true_eq] at h
    have h1 : IntKind.min .u8 = 0 := by decide
    omega
  clear hv ha hpt hpa
  obtain ⟨v, rfl⟩ := Int.eq_ofNat_of_zero_le hv2.1
  obtain ⟨k, hk⟩ : ∃ k, k = 10 * p.size + 400 := ⟨_, rfl⟩
  have A := Aside0.mk (Fr.awake3 k (by omega))
  by_cases h : 2000 < (p.size : Int)
  · clear hk
    go_enter Try.func8, Try.ntmps8
    go_wp2_with fail
    refine (bosunlaw03_Awake.calls k true _ A.out).mono ?_
    rintro e w1 ⟨rfl, hb⟩
    go_wp2_with fail
    go_ret
    exact ⟨rfl, hb⟩
  have C := Aside0.mk (close_tells k v (by omega) p (by omega) (by omega))
  have hl := len_list p
  have hz : ((tx (frameOf v p.data.toList)).size : Int) = p.size + 13 := by rw [tx_size, frameOf_length]; omega
  have h1 : (p.size : Int) ≤ 2000 := by omega
  have h3 : part % 3 = 0 ∨ part % 3 = 1 ∨ part % 3 = 2 := by omega
  by_cases h0 : at_ < 0
  · rcases h3 with h3 | h3 | h3
    · exact out0a k v p _ at_ pat part w h1 h3 hpa2 C A hz h0
    · exact out1a k v p _ at_ pat part w h1 h3 hpa2 C A hz h0
    · exact out2a k v p _ at_ pat part w h1 h3 hpa2 C A hz h0
  obtain ⟨a, rfl⟩ := Int.eq_ofNat_of_zero_le (show 0 ≤ at_ by omega)
  rcases h3 with h3 | h3 | h3
  · by_cases h4 : (a : Int) < 8 * (9 + (p.size : Int) - 9)
    · exact walk0 k v (by omega) p _ rfl a pat part w h1 h3 hpa2 C A hz h4
    · exact out0b k v p _ a pat part w h1 h3 hpa2 C A hz (by omega)
  · by_cases h4 : (a : Int) < 8 * (13 + (p.size : Int) - (9 + (p.size : Int)))
    · exact walk1 k v (by omega) p _ rfl a pat part w h1 h3 hpa2 C A hz h4
    · exact out1b k v p _ a pat part w h1 h3 hpa2 C A hz (by omega)
  · by_cases h4 : (a : Int) < 8 * (4 - 0)
    · exact walk2 k v (by omega) p _ rfl a pat part w h1 h3 hpa2 C A hz h4
    · exact out2b k v p _ a pat part w h1 h3 hpa2 C A hz (by omega)
end Go.Proofs.Ytlkfcamogfjngaa.Fbursts
