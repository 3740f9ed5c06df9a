/- The plain law of FrameBursts: a frame of which something was turned within 32 bits in a row, of its payload, of its sum, or of its first four bytes, is opened only where nothing was turned. No program in sight. -/
import Derived.Test.YtlkfcamogfjngaaCloses
import Derived.Test.YtlkfcamogfjngaaBits
namespace Go.Proofs.Ytlkfcamogfjngaa.Fburst
open Go.Proofs.Ytlkfcamogfjngaa.Fr Go.Proofs.Ytlkfcamogfjngaa.Op Go.Proofs.Ytlkfcamogfjngaa.Closes Go.Proofs.Ytlkfcamogfjngaa.Bits

theorem openP_ok (m : List UInt8) (h : (openP m).2.2 = 0) : m.take 4 = magic.take m.length ∧ 9 ≤ m.length ∧ m.length = num ((m.drop 5).take 4) + 13 ∧ m.drop (num ((m.drop 5).take 4) + 9) = be4 (Crc.sum ((m.drop 4).take (num ((m.drop 5).take 4) + 5))).toNat := by
  unfold openP at h
  by_cases h1 : m.take 4 = magic.take m.length
  · rw [if_pos h1] at h
    by_cases h2 : m.length < 9
    · rw [if_pos h2] at h; exact absurd h (by simp)
    rw [if_neg h2] at h
    by_cases h3 : 4194304 < num ((m.drop 5).take 4)
    · rw [if_pos h3] at h; exact absurd h (by simp)
    rw [if_neg h3] at h
    by_cases h4 : m.length < num ((m.drop 5).take 4) + 13
    · rw [if_pos h4] at h; exact absurd h (by simp)
    rw [if_neg h4] at h
    by_cases h5 : num ((m.drop 5).take 4) + 13 < m.length
    · rw [if_pos h5] at h; exact absurd h (by simp)
    rw [if_neg h5] at h
    by_cases h6 : m.drop (num ((m.drop 5).take 4) + 9) = be4 (Crc.sum ((m.drop 4).take (num ((m.drop 5).take 4) + 5))).toNat
    · exact ⟨h1, by omega, by omega, h6⟩
    rw [if_neg h6] at h
    exact absurd h (by simp)
  · rw [if_neg h1] at h; exact absurd h (by simp)
theorem openP_empty (m : List UInt8) (h : (openP m).2.2 ≠ 0) : (openP m).2.1 = [] := by
  unfold openP at h ⊢
  by_cases h1 : m.take 4 = magic.take m.length
  · rw [if_pos h1] at h ⊢
    by_cases h2 : m.length < 9
    · rw [if_pos h2]
    rw [if_neg h2] at h ⊢
    by_cases h3 : 4194304 < num ((m.drop 5).take 4)
    · rw [if_pos h3]
    rw [if_neg h3] at h ⊢
    by_cases h4 : m.length < num ((m.drop 5).take 4) + 13
    · rw [if_pos h4]
    rw [if_neg h4] at h ⊢
    by_cases h5 : num ((m.drop 5).take 4) + 13 < m.length
    · rw [if_pos h5]
    rw [if_neg h5] at h ⊢
    by_cases h6 : m.drop (num ((m.drop 5).take 4) + 9) = be4 (Crc.sum ((m.drop 4).take (num ((m.drop 5).take 4) + 5))).toNat
    · rw [if_pos h6] at h
      exact absurd rfl h
    rw [if_neg h6]
  · rw [if_neg h1]

theorem byte_bits (l m : List UInt8) (i : Nat) (hl : i < l.length) (hm : i < m.length) (h : ∀ p, 8 * i ≤ p → p < 8 * i + 8 → bit m p = bit l p) : m[i] = l[i] := by
  apply byte_ext
  have hb : ∀ j, j < 8 → (m[i]).toNat.testBit j = (l[i]).toNat.testBit j := by
    intro j hj
    have := h (8 * i + j) (by omega) (by omega)
    unfold bit at this
    rw [show (8 * i + j) / 8 = i from by omega, show (8 * i + j) % 8 = j from by omega, List.getD_eq_getElem?_getD, List.getD_eq_getElem?_getD, List.getElem?_eq_getElem hl, List.getElem?_eq_getElem hm] at this
    exact this
  unfold bitsOf
  rw [hb 0 (by omega), hb 1 (by omega), hb 2 (by omega), hb 3 (by omega), hb 4 (by omega), hb 5 (by omega), hb 6 (by omega), hb 7 (by omega)]
theorem take_same (l m : List UInt8) (n : Nat) (hlen : m.length = l.length) (h : ∀ p, p < 8 * n → bit m p = bit l p) : m.take n = l.take n := by
  apply List.ext_getElem
  · rw [List.length_take, List.length_take, hlen]
  · intro i h1 h2
    rw [List.length_take] at h1 h2
    rw [List.getElem_take, List.getElem_take]
    exact byte_bits l m i (by omega) (by omega) (fun p _ hp => h p (by omega))
theorem drop_same (l m : List UInt8) (n : Nat) (hlen : m.length = l.length) (h : ∀ p, 8 * n ≤ p → bit m p = bit l p) : m.drop n = l.drop n := by
  apply List.ext_getElem
  · rw [List.length_drop, List.length_drop, hlen]
  · intro i h1 h2
    rw [List.length_drop] at h1 h2
    rw [List.getElem_drop, List.getElem_drop]
    exact byte_bits l m (n + i) (by omega) (by omega) (fun p hp _ => h p (by omega))
theorem be4_inj (x y : Nat) (hx : x < 4294967296) (hy : y < 4294967296) (h : be4 x = be4 y) : x = y := by
  rw [← num_be4 x hx, ← num_be4 y hy, h]
theorem bit_drop4 (m : List UInt8) (p : Nat) : bit (m.drop 4) p = bit m (p + 32) := by
  unfold bit
  rw [List.getD_eq_getElem?_getD, List.getD_eq_getElem?_getD, List.getElem?_drop, show 4 + p / 8 = (p + 32) / 8 from by omega, show (p + 32) % 8 = p % 8 from by omega]
theorem bit_take (m : List UInt8) (n p : Nat) (h : p < 8 * n) : bit (m.take n) p = bit m p := by
  unfold bit
  rw [List.getD_eq_getElem?_getD, List.getD_eq_getElem?_getD, List.getElem?_take_of_lt (by omega)]
theorem bit_beyond (m : List UInt8) (p : Nat) (h : 8 * m.length ≤ p) : bit m p = false := by
  unfold bit
  rw [List.getD_eq_getElem?_getD, List.getElem?_eq_none (by omega)]
  simp

/-- What was turned. -/
def Part (len fr til : Nat) : Prop := (fr = 9 ∧ til = 9 + len) ∨ (fr = 9 + len ∧ til = 13 + len) ∨ (fr = 0 ∧ til = 4)
theorem frame_burst (ver : Nat) (hv : ver < 256) (p : List UInt8) (hp : p.length ≤ 4194304) (m : List UInt8) (hlen : m.length = (frameOf ver p).length) (fr til lo : Nat) (hpart : Part p.length fr til) (hlo : 8 * fr ≤ lo)
    (h : ∀ q, q < lo ∨ lo + 32 ≤ q ∨ 8 * til ≤ q → bit m q = bit (frameOf ver p) q) : (openP m).2.2 = 0 ↔ m = frameOf ver p := by
  constructor
  · intro h0
    obtain ⟨hm, h9, hn, hs⟩ := openP_ok m h0
    obtain ⟨hm', _, hn', hs'⟩ := openP_ok (frameOf ver p) (by rw [open_close ver hv p hp])
    have hfl := frameOf_length ver p
    generalize frameOf ver p = f at *
    have hT : m.take fr = f.take fr := take_same f m fr hlen (fun q hq => h q (Or.inl (by omega)))
    have hD : m.drop til = f.drop til := drop_same f m til hlen (fun q hq => h q (Or.inr (Or.inr hq)))
    have hn2 : num ((m.drop 5).take 4) = p.length := by omega
    have hn3 : num ((f.drop 5).take 4) = p.length := by omega
    rw [hn2] at hs
    rw [hn3] at hs'
    rcases hpart with ⟨rfl, rfl⟩ | ⟨rfl, rfl⟩ | ⟨rfl, rfl⟩
    · have hsum : Crc.sum ((m.drop 4).take (p.length + 5)) = Crc.sum ((f.drop 4).take (p.length + 5)) := by
        rw [show 9 + p.length = p.length + 9 from by omega] at hD
        rw [hs, hs'] at hD
        have := be4_inj _ _ (BitVec.isLt _) (BitVec.isLt _) hD
        exact BitVec.eq_of_toNat_eq this
      have hb := (burst_sum ((f.drop 4).take (p.length + 5)) ((m.drop 4).take (p.length + 5)) (by rw [List.length_take, List.length_take, List.length_drop, List.length_drop, hlen]) (lo - 32) (fun q hq => by
        by_cases hq2 : q < 8 * (p.length + 5)
        · rw [bit_take _ _ _ hq2, bit_take _ _ _ hq2, bit_drop4, bit_drop4]
          exact h (q + 32) (by omega)
        · rw [bit_beyond _ _ (by rw [List.length_take]; omega), bit_beyond _ _ (by rw [List.length_take]; omega)])).mp hsum
      have e4 : m.take 4 = f.take 4 := by
        have := congrArg (List.take 4) hT
        rw [List.take_take, List.take_take] at this
        exact this
      have ed : m.drop (p.length + 9) = f.drop (p.length + 9) := by rw [Nat.add_comm p.length 9]; exact hD
      rw [← List.take_append_drop 4 m, ← List.take_append_drop 4 f, e4, ← List.take_append_drop (p.length + 5) (m.drop 4), ← List.take_append_drop (p.length + 5) (f.drop 4), hb, List.drop_drop, List.drop_drop, show 4 + (p.length + 5) = p.length + 9 from by omega, ed]
    · have eb : (m.drop 4).take (p.length + 5) = (f.drop 4).take (p.length + 5) := by
        have := congrArg (List.drop 4) hT
        rw [List.drop_take, List.drop_take, show 9 + p.length - 4 = p.length + 5 from by omega] at this
        exact this
      rw [eb, ← hs'] at hs
      rw [← List.take_append_drop (9 + p.length) m, hT, show 9 + p.length = p.length + 9 from by omega, hs, List.take_append_drop]
    · have e4 : m.take 4 = f.take 4 := by rw [hm, hm', hlen]
      rw [← List.take_append_drop 4 m, e4, hD, List.take_append_drop]
  · intro h2
    rw [h2, open_close ver hv p hp]
end Go.Proofs.Ytlkfcamogfjngaa.Fburst
