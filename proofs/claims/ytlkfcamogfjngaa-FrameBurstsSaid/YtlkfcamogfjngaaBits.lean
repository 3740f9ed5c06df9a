/- The plain law of bursts: texts of one length that are unlike only within 32 bits in a row have the same sum only where they are the same. No program in sight. -/
import Derived.Test.YtlkfcamogfjngaaCrc
namespace Go.Proofs.Ytlkfcamogfjngaa.Bits
open Go.Proofs.Ytlkfcamogfjngaa.Crc

/-! Bits of a text. -/
def bit (l : List UInt8) (p : Nat) : Bool := (l.getD (p / 8) 0).toNat.testBit (p % 8)
def bitsOf (b : UInt8) : List Bool := [b.toNat.testBit 0, b.toNat.testBit 1, b.toNat.testBit 2, b.toNat.testBit 3, b.toNat.testBit 4, b.toNat.testBit 5, b.toNat.testBit 6, b.toNat.testBit 7]
def bits (l : List UInt8) : List Bool := l.flatMap bitsOf
theorem bits_length (l : List UInt8) : (bits l).length = 8 * l.length := by
  induction l with
  | nil => rfl
  | cons b l ih =>
    show (bitsOf b ++ bits l).length = _
    rw [List.length_append, ih, List.length_cons]
    show 8 + 8 * l.length = _
    omega
theorem bits_get (l : List UInt8) : ∀ p, p < 8 * l.length → (bits l)[p]? = some (bit l p) := by
  induction l with
  | nil => intro p h; simp at h
  | cons b l ih =>
    intro p h
    show (bitsOf b ++ bits l)[p]? = _
    by_cases h8 : p < 8
    · rw [List.getElem?_append_left (by exact h8)]
      have : p = 0 ∨ p = 1 ∨ p = 2 ∨ p = 3 ∨ p = 4 ∨ p = 5 ∨ p = 6 ∨ p = 7 := by omega
      rcases this with rfl | rfl | rfl | rfl | rfl | rfl | rfl | rfl <;> rfl
    · rw [List.getElem?_append_right (by show 8 ≤ p; omega)]
      show (bits l)[p - 8]? = _
      rw [List.length_cons] at h
      rw [ih (p - 8) (by omega)]
      unfold bit
      rw [show p / 8 = (p - 8) / 8 + 1 from by omega, show p % 8 = (p - 8) % 8 from by omega, List.getD_cons_succ]
theorem byte_ext (a b : UInt8) (h : bitsOf a = bitsOf b) : a = b := by
  unfold bitsOf at h
  simp only [List.cons.injEq, and_true] at h
  obtain ⟨h0, h1, h2, h3, h4, h5, h6, h7⟩ := h
  apply UInt8.toNat_inj.mp
  apply Nat.eq_of_testBit_eq
  intro i
  by_cases hi : i < 8
  · have : i = 0 ∨ i = 1 ∨ i = 2 ∨ i = 3 ∨ i = 4 ∨ i = 5 ∨ i = 6 ∨ i = 7 := by omega
    rcases this with rfl | rfl | rfl | rfl | rfl | rfl | rfl | rfl <;> assumption
  · have ha : a.toNat < 2 ^ i := Nat.lt_of_lt_of_le a.toNat_lt (Nat.pow_le_pow_right (by decide) (by omega))
    have hb : b.toNat < 2 ^ i := Nat.lt_of_lt_of_le b.toNat_lt (Nat.pow_le_pow_right (by decide) (by omega))
    rw [Nat.testBit_lt_two_pow ha, Nat.testBit_lt_two_pow hb]
theorem bits_inj (l : List UInt8) : ∀ m, l.length = m.length → bits l = bits m → l = m := by
  induction l with
  | nil => intro m h _; cases m with | nil => rfl | cons => simp at h
  | cons a l ih =>
    intro m h hb
    cases m with
    | nil => simp at h
    | cons b m =>
      have hb2 : bitsOf a ++ bits l = bitsOf b ++ bits m := hb
      have h1 := List.append_inj hb2 rfl
      rw [byte_ext a b h1.1, ih m (by simpa using h) h1.2]

/-! The register, bit by bit. -/
def one (x : Bool) : BitVec 32 := if x then 1#32 else 0#32
theorem lsb_one (v : BitVec 32) (x : Bool) : (v ^^^ one x).getLsbD 0 = (v.getLsbD 0 ^^ x) := by
  rw [BitVec.getLsbD_xor]
  cases x <;> rfl
theorem one_shift (x : Bool) : one x >>> 1 = 0#32 := by cases x <;> rfl
theorem rst_st (v : BitVec 32) (x : Bool) : rst v x = st (v ^^^ one x) := by
  rw [st_rst, one_shift, BitVec.xor_zero]
  congr 1
  cases x <;> rfl
theorem st_xor (a b : BitVec 32) : st (a ^^^ b) = st a ^^^ st b := by
  unfold st
  rw [BitVec.getLsbD_xor, BitVec.ushiftRight_xor_distrib]
  cases a.getLsbD 0 <;> cases b.getLsbD 0 <;> simp
  · ac_rfl
  · ac_rfl
  · rw [BitVec.xor_assoc, show poly ^^^ (b >>> 1 ^^^ poly) = b >>> 1 from by rw [BitVec.xor_comm (b >>> 1), ← BitVec.xor_assoc, BitVec.xor_self, BitVec.zero_xor]]
theorem one_xor (x y : Bool) : one (x ^^ y) = one x ^^^ one y := by cases x <;> cases y <;> rfl
theorem rst_xor (a b : BitVec 32) (x y : Bool) : rst (a ^^^ b) (x ^^ y) = rst a x ^^^ rst b y := by
  rw [rst_st, rst_st, rst_st, ← st_xor, one_xor]
  congr 1
  ac_rfl
theorem st_zero : st 0#32 = 0#32 := by decide
theorem st_inj0 (v : BitVec 32) (h : st v = 0#32) : v = 0#32 := by
  unfold st at h
  by_cases h0 : v.getLsbD 0 = true
  · rw [if_pos h0] at h
    have h31 := congrArg (fun x : BitVec 32 => x.getLsbD 31) h
    simp only [BitVec.getLsbD_xor, BitVec.getLsbD_ushiftRight] at h31
    have hz : v.getLsbD (1 + 31) = false := BitVec.getLsbD_of_ge v _ (by omega)
    rw [hz] at h31
    exact absurd h31 (by decide)
  · rw [if_neg h0] at h
    apply BitVec.eq_of_getLsbD_eq
    intro i hi
    cases i with
    | zero => simpa using h0
    | succ i =>
      have := congrArg (fun x : BitVec 32 => x.getLsbD i) h
      simp only [BitVec.getLsbD_ushiftRight] at this
      rw [Nat.add_comm 1 i] at this
      rw [this]
      simp

def fbits (v : BitVec 32) (xs : List Bool) : BitVec 32 := xs.foldl rst v
theorem fbits_append (v : BitVec 32) (xs ys : List Bool) : fbits v (xs ++ ys) = fbits (fbits v xs) ys := by simp [fbits]
theorem fbits_zip (xs : List Bool) : ∀ (ys : List Bool) (a b : BitVec 32), xs.length = ys.length → fbits (a ^^^ b) (List.zipWith (· ^^ ·) xs ys) = fbits a xs ^^^ fbits b ys := by
  induction xs with
  | nil => intro ys a b h; cases ys with | nil => rfl | cons => simp at h
  | cons x xs ih =>
    intro ys a b h
    cases ys with
    | nil => simp at h
    | cons y ys =>
      show fbits (rst (a ^^^ b) (x ^^ y)) (List.zipWith _ xs ys) = fbits (rst a x) xs ^^^ fbits (rst b y) ys
      rw [rst_xor]
      exact ih ys _ _ (by simpa using h)
theorem sts_rst (d : Nat) (v b : BitVec 32) : sts (d + 1) (v ^^^ b) = sts d (rst v (b.getLsbD 0) ^^^ b >>> 1) := by
  show sts d (st (v ^^^ b)) = _
  rw [st_rst]
theorem by1_bits (v : BitVec 32) (b : UInt8) : by1 v b = fbits v (bitsOf b) := by
  unfold by1
  have hb := byte_small b
  have hbit : ∀ i, i < 8 → ((BitVec.ofNat 32 b.toNat) >>> i).getLsbD 0 = b.toNat.testBit i := by
    intro i hi
    rw [BitVec.getLsbD_ushiftRight, BitVec.getLsbD_ofNat, Nat.add_zero]
    simp
    omega
  generalize BitVec.ofNat 32 b.toNat = x at *
  have s : ∀ n : Nat, (x >>> n) >>> (1 : Nat) = x >>> (n + 1 : Nat) := fun n => by rw [← BitVec.shiftRight_add]
  have e0 : x = x >>> 0 := by simp
  rw [show sts 8 (v ^^^ x) = sts 8 (v ^^^ x >>> 0) from by rw [← e0]]
  rw [sts_rst, s, hbit 0 (by omega), sts_rst, s, hbit 1 (by omega), sts_rst, s, hbit 2 (by omega), sts_rst, s, hbit 3 (by omega), sts_rst, s, hbit 4 (by omega), sts_rst, s, hbit 5 (by omega), sts_rst, s, hbit 6 (by omega), sts_rst, s, hbit 7 (by omega)]
  rw [hb, BitVec.xor_zero]
  rfl
theorem fold_bits (l : List UInt8) : ∀ v, fold v l = fbits v (bits l) := by
  induction l with
  | nil => intro v; rfl
  | cons b l ih =>
    intro v
    show fold (by1 v b) l = fbits v (bitsOf b ++ bits l)
    rw [fbits_append, ← by1_bits, ih]

theorem fbits_zeros (n : Nat) : ∀ v, fbits v (List.replicate n false) = sts n v := by
  induction n with
  | zero => intro v; rfl
  | succ n ih =>
    intro v
    show fbits (rst v false) (List.replicate n false) = sts n (st v)
    rw [ih, rst_st]
    show sts n (st (v ^^^ 0#32)) = _
    rw [BitVec.xor_zero]
theorem sts_inj0 (n : Nat) : ∀ v, sts n v = 0#32 → v = 0#32 := by
  induction n with
  | zero => intro v h; exact h
  | succ n ih => intro v h; exact st_inj0 v (ih _ h)
theorem sts_zero (n : Nat) : sts n 0#32 = 0#32 := by
  induction n with
  | zero => rfl
  | succ n ih => show sts n (st 0#32) = _; rw [st_zero, ih]

/-- What bits in a row are, as a number. -/
def val : List Bool → BitVec 32
  | [] => 0#32
  | x :: xs => one x ^^^ (val xs <<< 1)
theorem val_bound (xs : List Bool) : ∀ i, xs.length ≤ i → (val xs).getLsbD i = false := by
  induction xs with
  | nil => intro i _; simp [val]
  | cons x xs ih =>
    intro i hi
    rw [List.length_cons] at hi
    unfold val
    rw [BitVec.getLsbD_xor, BitVec.getLsbD_shiftLeft]
    have h1 : (one x).getLsbD i = false := by
      obtain ⟨j, rfl⟩ : ∃ j, i = j + 1 := ⟨i - 1, by omega⟩
      cases x
      · simp [one]
      · simp [one]
    rw [h1, ih (i - 1) (by omega)]
    simp
theorem val_lsb (x : Bool) (xs : List Bool) : (val (x :: xs)).getLsbD 0 = x := by
  unfold val
  rw [BitVec.getLsbD_xor, BitVec.getLsbD_shiftLeft]
  cases x <;> simp [one]
theorem val_shift (x : Bool) (xs : List Bool) (h : xs.length ≤ 31) : val (x :: xs) >>> 1 = val xs := by
  show (one x ^^^ (val xs <<< 1)) >>> 1 = _
  rw [BitVec.ushiftRight_xor_distrib, one_shift, BitVec.zero_xor]
  apply BitVec.eq_of_getLsbD_eq
  intro i hi
  rw [BitVec.getLsbD_ushiftRight, BitVec.getLsbD_shiftLeft]
  by_cases h31 : i = 31
  · subst h31
    rw [val_bound xs 31 h]
    simp
  · rw [show 1 + i - 1 = i from by omega]
    simp
    omega
theorem fbits_val (xs : List Bool) : ∀ v, xs.length ≤ 32 → fbits v xs = sts xs.length (v ^^^ val xs) := by
  induction xs with
  | nil => intro v _; simp [fbits, sts, val]
  | cons x xs ih =>
    intro v h
    rw [List.length_cons] at h ⊢
    show fbits (rst v x) xs = _
    rw [sts_rst, val_lsb, val_shift x xs (by omega)]
    exact ih _ (by omega)
theorem val_zero (xs : List Bool) (hl : xs.length ≤ 32) (h : val xs = 0#32) : ∀ x ∈ xs, x = false := by
  induction xs with
  | nil => intro x hx; cases hx
  | cons y ys ih =>
    rw [List.length_cons] at hl
    have h0 := val_lsb y ys
    rw [h] at h0
    have h1 := val_shift y ys (by omega)
    rw [h] at h1
    have hy : y = false := by rw [← h0]; rfl
    have hv : val ys = 0#32 := by rw [← h1]; rfl
    intro x hx
    rcases List.mem_cons.mp hx with rfl | hx
    · exact hy
    · exact ih (by omega) hv x hx

theorem all_false (xs : List Bool) (h : ∀ x ∈ xs, x = false) : xs = List.replicate xs.length false := List.eq_replicate_of_mem h

/-- A row of bits in which nothing stands outside of 32 in a row: the register comes to nothing only of nothing. -/
theorem burst_bits (E : List Bool) (a : Nat) (h : ∀ p, p < a ∨ a + 32 ≤ p → E.getD p false = false) (h0 : fbits 0#32 E = 0#32) : ∀ x ∈ E, x = false := by
  have hsplit : E = E.take a ++ ((E.drop a).take 32 ++ (E.drop a).drop 32) := by rw [List.take_append_drop, List.take_append_drop]
  have hA : ∀ x ∈ E.take a, x = false := by
    intro x hx
    obtain ⟨i, hi, rfl⟩ := List.getElem_of_mem hx
    rw [List.length_take] at hi
    have := h i (Or.inl (by omega))
    rw [List.getElem_take]
    rw [List.getD_eq_getElem?_getD, List.getElem?_eq_getElem (by omega)] at this
    exact this
  have hC : ∀ x ∈ (E.drop a).drop 32, x = false := by
    intro x hx
    rw [List.drop_drop] at hx
    obtain ⟨i, hi, rfl⟩ := List.getElem_of_mem hx
    rw [List.length_drop] at hi
    have := h (a + 32 + i) (Or.inr (by omega))
    rw [List.getElem_drop]
    rw [List.getD_eq_getElem?_getD, List.getElem?_eq_getElem (by omega)] at this
    exact this
  have hW : ((E.drop a).take 32).length ≤ 32 := List.length_take_le _ _
  rw [hsplit, fbits_append, fbits_append, all_false _ hA, fbits_zeros, sts_zero, all_false _ hC, fbits_zeros, fbits_val _ _ hW, BitVec.zero_xor] at h0
  have hv := sts_inj0 _ _ (sts_inj0 _ _ h0)
  have hB := val_zero _ hW hv
  intro x hx
  rw [hsplit] at hx
  rcases List.mem_append.mp hx with hx | hx
  · exact hA x hx
  rcases List.mem_append.mp hx with hx | hx
  · exact hB x hx
  · exact hC x hx

theorem zip_false (xs : List Bool) : ∀ ys, xs.length = ys.length → (∀ x ∈ List.zipWith (· ^^ ·) xs ys, x = false) → xs = ys := by
  induction xs with
  | nil => intro ys h _; cases ys with | nil => rfl | cons => simp at h
  | cons x xs ih =>
    intro ys h hz
    cases ys with
    | nil => simp at h
    | cons y ys =>
      have h1 : (x ^^ y) = false := hz _ (by simp)
      have h2 := ih ys (by simpa using h) (fun z hz' => hz z (by simp [hz']))
      rw [h2]
      congr 1
      cases x <;> cases y <;> simp_all

/-- The plain law. -/
theorem burst_sum (l m : List UInt8) (hl : l.length = m.length) (a : Nat) (h : ∀ p, p < a ∨ a + 32 ≤ p → bit m p = bit l p) : sum m = sum l ↔ m = l := by
  constructor
  · intro hs
    have hf : fold (~~~ 0#32) m = fold (~~~ 0#32) l := by
      have := congrArg (fun x : BitVec 32 => ~~~ x) hs
      simpa [sum, more] using this
    rw [fold_bits, fold_bits] at hf
    have hlen : (bits m).length = (bits l).length := by rw [bits_length, bits_length, hl]
    have hz := fbits_zip (bits m) (bits l) (~~~ 0#32) (~~~ 0#32) hlen
    rw [hf, BitVec.xor_self, BitVec.xor_self] at hz
    have hE := burst_bits _ a (fun p hp => ?_) hz
    · exact bits_inj m l hl.symm (zip_false _ _ hlen hE)
    · rw [List.getD_eq_getElem?_getD, List.getElem?_zipWith]
      by_cases hp8 : p < 8 * l.length
      · rw [bits_get m p (by omega), bits_get l p hp8, h p hp]
        simp
      · rw [List.getElem?_eq_none (by rw [bits_length]; omega)]
        rfl
  · intro h; rw [h]

/-! A bit is turned. -/
def flip (l : List UInt8) (p : Nat) : List UInt8 := l.set (p / 8) (UInt8.ofNat ((l.getD (p / 8) 0).toNat ^^^ 2 ^ (p % 8)))
theorem flip_length (l : List UInt8) (p : Nat) : (flip l p).length = l.length := List.length_set
theorem bit_flip (l : List UInt8) (p q : Nat) (hpq : p ≠ q) : bit (flip l p) q = bit l q := by
  unfold bit flip
  by_cases h : p / 8 = q / 8
  · rw [← h]
    by_cases hl : p / 8 < l.length
    · rw [List.getD_eq_getElem?_getD, List.getElem?_set_self hl, List.getD_eq_getElem?_getD, List.getElem?_eq_getElem hl]
      simp only [Option.getD_some]
      have h1 := (l[p / 8]).toNat_lt
      have h2 : 2 ^ (p % 8) < 2 ^ 8 := Nat.pow_lt_pow_right (by decide) (by omega)
      have h3 : (l[p / 8]).toNat ^^^ 2 ^ (p % 8) < 2 ^ 8 := Nat.xor_lt_two_pow h1 h2
      rw [UInt8.toNat_ofNat', Nat.mod_eq_of_lt h3, Nat.testBit_xor, Nat.testBit_two_pow_of_ne (by omega), Bool.xor_false]
    · rw [List.set_eq_of_length_le (by omega)]
  · rw [List.getD_eq_getElem?_getD, List.getElem?_set_ne h, ← List.getD_eq_getElem?_getD]
theorem xor_u8 (x y : Nat) (hx : x < 256) (hy : y < 256) : Go.bits .xor .u8 (x : Int) (y : Int) = ((x ^^^ y : Nat) : Int) := by
  have h : Go.bits .xor .u8 (x : Int) (y : Int) = IntKind.u8.wrap ((BitVec.ofInt 8 (x : Int) ^^^ BitVec.ofInt 8 (y : Int)).toNat : Int) := rfl
  have h3 : x ^^^ y < 2 ^ 8 := Nat.xor_lt_two_pow hx hy
  have h4 : (2 : Nat) ^ 8 = 256 := by decide
  rw [h, BitVec.ofInt_natCast, BitVec.ofInt_natCast, BitVec.toNat_xor, BitVec.toNat_ofNat, BitVec.toNat_ofNat, Nat.mod_eq_of_lt (by omega), Nat.mod_eq_of_lt (by omega), IntWalk.u8_in _ (by omega)]
end Go.Proofs.Ytlkfcamogfjngaa.Bits
