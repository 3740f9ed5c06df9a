/- The sum of a text as plain mathematics: bit by bit over words of 32 bits, and what the printed functions crc.More, crc.Sum and the document's Sum tell. No condition. -/
import Derived.Test.YtlkfcamogfjngaaPAllx2
namespace Go.Proofs.Ytlkfcamogfjngaa.Crc
open Go.RowKit Go.Proofs.Ytlkfcamogfjngaa.PAll Go.Proofs.YtlkfcamogfjngaaW.PrintWords Go.Proofs.YtlkfcamogfjngaaW.PrintLast

def poly : BitVec 32 := 0xEDB88320#32
/-- One step of the register. -/
def st (v : BitVec 32) : BitVec 32 := if v.getLsbD 0 = true then (v >>> 1) ^^^ poly else v >>> 1
/-- So many steps. -/
def sts : Nat → BitVec 32 → BitVec 32
  | 0, v => v
  | n + 1, v => sts n (st v)
/-- A byte. -/
def by1 (v : BitVec 32) (b : UInt8) : BitVec 32 := sts 8 (v ^^^ BitVec.ofNat 32 b.toNat)
def fold (v : BitVec 32) (l : List UInt8) : BitVec 32 := l.foldl by1 v
def more (v : BitVec 32) (l : List UInt8) : BitVec 32 := ~~~ (fold (~~~ v) l)
def sum (l : List UInt8) : BitVec 32 := more 0#32 l

theorem more_append (v : BitVec 32) (l m : List UInt8) : more (more v l) m = more v (l ++ m) := by
  simp [more, fold]

theorem u32_bits : IntKind.bits .u32 = 32 := rfl
theorem xor_nat (v w : BitVec 32) : Go.bits .xor .u32 (v.toNat : Int) (w.toNat : Int) = ((v ^^^ w).toNat : Int) := by
  have h : Go.bits .xor .u32 (v.toNat : Int) (w.toNat : Int) = IntKind.u32.wrap ((BitVec.ofInt 32 (v.toNat : Int) ^^^ BitVec.ofInt 32 (w.toNat : Int)).toNat : Int) := rfl
  rw [h, BitVec.ofInt_natCast, BitVec.ofInt_natCast, BitVec.ofNat_toNat, BitVec.ofNat_toNat, BitVec.setWidth_eq, BitVec.setWidth_eq, IntKind.wrap_u32]
  have := (v ^^^ w).isLt
  omega
theorem and_one (v : BitVec 32) : Go.bits .and .u32 (v.toNat : Int) 1 = if v.getLsbD 0 = true then 1 else 0 := by
  have h : Go.bits .and .u32 (v.toNat : Int) 1 = IntKind.u32.wrap ((BitVec.ofInt 32 (v.toNat : Int) &&& BitVec.ofInt 32 ((1 : Nat) : Int)).toNat : Int) := rfl
  rw [h, BitVec.ofInt_natCast, BitVec.ofInt_natCast, BitVec.ofNat_toNat, BitVec.setWidth_eq, IntKind.wrap_u32, BitVec.toNat_and]
  have h1 : (BitVec.ofNat 32 1).toNat = 1 := rfl
  rw [h1, Nat.and_one_is_mod, BitVec.getLsbD, Nat.testBit_zero]
  rcases Nat.mod_two_eq_zero_or_one v.toNat with h2 | h2 <;> simp [h2]
theorem half (v : BitVec 32) : (v.toNat : Int) / (2 : Int) = ((v >>> 1).toNat : Int) := by
  simp [BitVec.toNat_ushiftRight, Nat.shiftRight_eq_div_pow]
theorem bt_list (s : ByteArray) (i : Nat) (h : i < s.size) : bt s (i : Int) = (((s.data.toList[i]'(by simpa using h)).toNat : Nat) : Int) := by
  simp [bt, h]
  rfl
theorem wrap_next {i n : Nat} (h : i < n) (hn : n ≤ 140737488351232) : wrap64 ((i : Int) + 1) = ((i + 1 : Nat) : Int) := by
  unfold wrap64
  omega
theorem st_def (v : BitVec 32) : (if Go.bits .and .u32 (v.toNat : Int) 1 = 1 then Go.bits .xor .u32 ((v.toNat : Int) / (2 : Int)) 3988292384 else (v.toNat : Int) / (2 : Int)) = ((st v).toNat : Int) := by
  rw [and_one, half, show (3988292384 : Int) = (poly.toNat : Int) from rfl, xor_nat]
  unfold st
  by_cases h : v.getLsbD 0 = true
  · rw [if_pos h, if_pos h, if_pos rfl]
  · rw [if_neg h, if_neg h, if_neg (by decide)]

theorem more_inner (s : ByteArray) (n i : Int) (d : Nat) : ∀ (k : Nat) (v : BitVec 32), d ≤ 8 →
    crc_More.l1 (k + d + 1) s (v.toNat : Int) n i ((8 - d : Nat) : Int) = crc_More.l0 k s ((sts d v).toNat : Int) n (wrap64 (i + 1)) := by
  induction d with
  | zero =>
    intro k v _
    rw [crc_More.l1]
    rw [if_neg (by omega)]
    rfl
  | succ d ih =>
    intro k v hd
    have hs := st_def v
    have hw : wrap64 (((8 - (d + 1) : Nat) : Int) + 1) = ((8 - d : Nat) : Int) := by unfold wrap64; omega
    rw [show k + (d + 1) + 1 = (k + d + 1) + 1 from by omega]
    rw [crc_More.l1]
    rw [if_pos (by omega), hw]
    by_cases h : Go.bits .and .u32 (v.toNat : Int) 1 = 1
    · rw [if_pos h] at hs ⊢
      rw [hs, ih k (st v) (by omega)]
      rfl
    · rw [if_neg h] at hs ⊢
      rw [hs, ih k (st v) (by omega)]
      rfl

theorem byte_mod (s : ByteArray) (i : Nat) (h : i < s.size) : bt s (i : Int) % 4294967296 = (((BitVec.ofNat 32 (s.data.toList[i]'(by simpa using h)).toNat).toNat : Nat) : Int) := by
  rw [bt_list s i h, BitVec.toNat_ofNat]
  have := (s.data.toList[i]'(by simpa using h)).toNat_lt
  omega

theorem ext_mid (s : ByteArray) (a b : Nat) : (s.extract a b).data.toList = (s.data.toList.take b).drop a := by
  rw [ByteArray.data_extract, Array.toList_extract, List.extract_eq_take_drop, List.drop_take]
theorem ext_take (s : ByteArray) (c : Nat) : (s.extract 0 c).data.toList = s.data.toList.take c := by
  rw [ext_mid, List.drop_zero]
theorem ext_drop (s : ByteArray) (c : Nat) : (s.extract c s.size).data.toList = s.data.toList.drop c := by
  rw [ext_mid, List.take_of_length_le (by rw [Array.length_toList]; exact Nat.le_refl _)]
theorem app_list (s t : ByteArray) : (s ++ t).data.toList = s.data.toList ++ t.data.toList := by simp
theorem eq_list {s t : ByteArray} (h : s.data.toList = t.data.toList) : s = t := by
  cases s
  cases t
  congr
  exact Array.ext' h
theorem eq_toList {s t : ByteArray} : s.toList = t.toList ↔ s = t := by
  rw [Go.ByteArray.toList_eq, Go.ByteArray.toList_eq]
  exact ⟨eq_list, fun h => by rw [h]⟩
theorem drop_cons (s : ByteArray) (i : Nat) (h : i < s.size) : s.data.toList.drop i = (s.data.toList[i]'(by simpa using h)) :: s.data.toList.drop (i + 1) :=
  List.drop_eq_getElem_cons (by simpa using h)

theorem more_outer (s : ByteArray) (hs : s.size ≤ 140737488351232) (d : Nat) : ∀ (k : Nat) (v : BitVec 32) (i : Nat), i + d = s.size →
    crc_More.l0 (k + 10 * d + 1) s (v.toNat : Int) (s.size : Int) (i : Int) = some (((~~~ (fold v (s.data.toList.drop i))).toNat : Nat) : Int) := by
  induction d with
  | zero =>
    intro k v i hi
    rw [crc_More.l0]
    rw [if_neg (by omega), List.drop_eq_nil_of_le (by simp; omega)]
    have hx : Go.bits .xor .u32 4294967295 (v.toNat : Int) = (((BitVec.allOnes 32) ^^^ v).toNat : Int) := xor_nat (BitVec.allOnes 32) v
    rw [hx, BitVec.allOnes_xor]
    rfl
  | succ d ih =>
    intro k v i hi
    have hlt : i < s.size := by omega
    rw [show k + 10 * (d + 1) + 1 = ((k + 10 * d + 1) + 8 + 1) + 1 from by omega]
    rw [crc_More.l0]
    rw [if_pos (by omega), if_pos (by omega), if_pos (by omega), byte_mod s i hlt, xor_nat]
    have hI := more_inner s (s.size : Int) (i : Int) 8 (k + 10 * d + 1) (v ^^^ BitVec.ofNat 32 (s.data.toList[i]'(by simpa using hlt)).toNat) (by omega)
    rw [show (((8 - 8 : Nat) : Int)) = 0 from rfl] at hI
    rw [hI, wrap_next hlt hs, ih k _ (i + 1) (by omega), drop_cons s i hlt]
    rfl

theorem more_tells (s : ByteArray) (hs : s.size ≤ 140737488351232) (k : Nat) (v : BitVec 32) (hk : 10 * s.size + 1 ≤ k) :
    crc_More.f k (v.toNat : Int) s = some (((more v s.data.toList).toNat : Nat) : Int) := by
  obtain ⟨m, rfl⟩ : ∃ m, k = m + 10 * s.size + 1 := ⟨k - (10 * s.size + 1), by omega⟩
  have hx : Go.bits .xor .u32 4294967295 (v.toNat : Int) = (((BitVec.allOnes 32) ^^^ v).toNat : Int) := xor_nat (BitVec.allOnes 32) v
  unfold crc_More.f
  rw [hx, BitVec.allOnes_xor]
  exact more_outer s hs s.size m (~~~ v) 0 (by omega)

theorem sum_tells (s : ByteArray) (hs : s.size ≤ 140737488351232) (k : Nat) (hk : 10 * s.size + 1 ≤ k) :
    crc_Sum.f k s = some (((sum s.data.toList).toNat : Nat) : Int) := by
  unfold crc_Sum.f
  have h := more_tells s hs k 0#32 hk
  rw [show (((0#32).toNat : Nat) : Int) = 0 from rfl] at h
  rw [h]
  rfl

/-! The document's Sum. -/
def rst (v : BitVec 32) (bit : Bool) : BitVec 32 := if v.getLsbD 0 = bit then v >>> 1 else (v >>> 1) ^^^ poly
theorem st_rst (r b : BitVec 32) : st (r ^^^ b) = rst r (b.getLsbD 0) ^^^ (b >>> 1) := by
  unfold st rst
  rw [BitVec.getLsbD_xor, BitVec.ushiftRight_xor_distrib]
  cases r.getLsbD 0 <;> cases b.getLsbD 0 <;> simp <;> ac_rfl
theorem ref_test (v b : BitVec 32) (j : Nat) (hj : j < 32) : (Int.tmod (v.toNat : Int) 2 = (shr .u32 (b.toNat : Int) (j : Int)) % 2) ↔ v.getLsbD 0 = (b >>> j).getLsbD 0 := by
  have h1 : shr .u32 (b.toNat : Int) (j : Int) = ((b >>> j).toNat : Int) := by
    unfold shr
    rw [u32_bits, Int.toNat_natCast, Nat.min_eq_left (by omega)]
    simp [BitVec.toNat_ushiftRight, Nat.shiftRight_eq_div_pow]
  rw [h1, Int.tmod_eq_emod_of_nonneg (by omega)]
  unfold BitVec.getLsbD
  rw [Nat.testBit_zero, Nat.testBit_zero]
  have e1 : ((v.toNat : Int) % 2 = ((b >>> j).toNat : Int) % 2) ↔ (v.toNat % 2 = (b >>> j).toNat % 2) := by omega
  rw [e1]
  rcases Nat.mod_two_eq_zero_or_one v.toNat with h2 | h2 <;> rcases Nat.mod_two_eq_zero_or_one (b >>> j).toNat with h3 | h3 <;> simp only [h2, h3] <;> decide
theorem ref_half (v : BitVec 32) : (Int.tdiv (v.toNat : Int) 2) % (4294967296 : Int) = ((v >>> 1).toNat : Int) := by
  rw [Int.tdiv_eq_ediv_of_nonneg (by omega), half]
  have := (v >>> 1).isLt
  omega
theorem ref_inner (s : ByteArray) (i : Nat) (hi : i < s.size) (b : BitVec 32) (hb : bt s (i : Int) % 4294967296 = (b.toNat : Int)) (hb8 : b >>> 8 = 0#32) (d : Nat) : ∀ (k : Nat) (r : BitVec 32), d ≤ 8 →
    bosunref01_Sum.l1 (k + d + 1) s (r.toNat : Int) (i : Int) ((8 - d : Nat) : Int) = bosunref01_Sum.l0 k s ((sts d (r ^^^ (b >>> (8 - d)))).toNat : Int) (wrap64 ((i : Int) + 1)) := by
  induction d with
  | zero =>
    intro k r _
    rw [bosunref01_Sum.l1]
    rw [if_neg (by omega)]
    simp [hb8, sts]
  | succ d ih =>
    intro k r hd
    have hw : wrap64 (((8 - (d + 1) : Nat) : Int) + 1) = ((8 - d : Nat) : Int) := by unfold wrap64; omega
    have hn : b >>> (8 - (d + 1)) >>> 1 = b >>> (8 - d) := by rw [← BitVec.shiftRight_add, show 8 - (d + 1) + 1 = 8 - d from by omega]
    rw [show k + (d + 1) + 1 = (k + d + 1) + 1 from by omega]
    rw [bosunref01_Sum.l1]
    rw [if_pos (by omega), if_pos (by omega), if_pos (by omega), if_pos (by omega), hw, hb, ref_half]
    have ht := ref_test r b (8 - (d + 1)) (by omega)
    have hsts : sts (d + 1) (r ^^^ b >>> (8 - (d + 1))) = sts d (rst r ((b >>> (8 - (d + 1))).getLsbD 0) ^^^ b >>> (8 - d)) := by
      rw [← hn]
      show sts d (st _) = _
      rw [st_rst]
    by_cases h : r.getLsbD 0 = (b >>> (8 - (d + 1))).getLsbD 0
    · rw [if_pos (ht.mpr h), ih k (r >>> 1) (by omega), hsts]
      unfold rst
      rw [if_pos h]
    · rw [if_neg (fun e => h (ht.mp e)), show (3988292384 : Int) = (poly.toNat : Int) from rfl, xor_nat, ih k _ (by omega), hsts]
      unfold rst
      rw [if_neg h]
theorem byte_small (b : UInt8) : (BitVec.ofNat 32 b.toNat) >>> 8 = 0#32 := by
  apply BitVec.eq_of_toNat_eq
  have := b.toNat_lt
  simp [BitVec.toNat_ushiftRight, Nat.shiftRight_eq_div_pow]
  omega
theorem ref_outer (s : ByteArray) (hs : s.size ≤ 140737488351232) (d : Nat) : ∀ (k : Nat) (v : BitVec 32) (i : Nat), i + d = s.size →
    bosunref01_Sum.l0 (k + 10 * d + 1) s (v.toNat : Int) (i : Int) = some (((~~~ (fold v (s.data.toList.drop i))).toNat : Nat) : Int) := by
  induction d with
  | zero =>
    intro k v i hi
    rw [bosunref01_Sum.l0]
    rw [if_neg (by omega), List.drop_eq_nil_of_le (by simp; omega)]
    have h := v.isLt
    simp only [fold, List.foldl_nil, BitVec.toNat_not]
    congr 1
    omega
  | succ d ih =>
    intro k v i hi
    have hlt : i < s.size := by omega
    rw [show k + 10 * (d + 1) + 1 = ((k + 10 * d + 1) + 8 + 1) + 1 from by omega]
    rw [bosunref01_Sum.l0]
    rw [if_pos (by omega)]
    have hI := ref_inner s i hlt _ (byte_mod s i hlt) (byte_small _) 8 (k + 10 * d + 1) v (by omega)
    rw [show (((8 - 8 : Nat) : Int)) = 0 from rfl, show (8 - 8 : Nat) = 0 from rfl, BitVec.ushiftRight_zero] at hI
    rw [hI, wrap_next hlt hs, ih k _ (i + 1) (by omega), drop_cons s i hlt]
    rfl
theorem ref_tells (s : ByteArray) (hs : s.size ≤ 140737488351232) (k : Nat) (hk : 10 * s.size + 1 ≤ k) :
    bosunref01_Sum.f k s = some (((sum s.data.toList).toNat : Nat) : Int) := by
  obtain ⟨m, rfl⟩ : ∃ m, k = m + 10 * s.size + 1 := ⟨k - (10 * s.size + 1), by omega⟩
  unfold bosunref01_Sum.f
  exact ref_outer s hs s.size m (~~~ 0#32) 0 (by omega)
theorem awake1 (k : Nat) (hk : 91 ≤ k) : bosunlaw01_Awake.f k = some true := by
  unfold bosunlaw01_Awake.f
  rw [sum_tells _ (by decide) k (by exact hk)]
  have h : sum [49, 50, 51, 52, 53, 54, 55, 56, 57] = 3421780262#32 := by decide +kernel
  show (some ((((sum [49, 50, 51, 52, 53, 54, 55, 56, 57]).toNat : Nat) : Int) == 3421780262) : Option Bool) = some true
  rw [h]
  rfl
end Go.Proofs.Ytlkfcamogfjngaa.Crc
