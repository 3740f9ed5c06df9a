/- What the printed pack.Take, strings.HasPrefix, the document's Put, Close and Open tell, over plain lists of bytes. No condition. -/
import Derived.Test.YtlkfcamogfjngaaFr
import Derived.Test.YtlkfcamogfjngaaPAllx4
namespace Go.Proofs.Ytlkfcamogfjngaa.Op
open Go.RowKit Go.Proofs.Ytlkfcamogfjngaa.PAll Go.Proofs.YtlkfcamogfjngaaW.PrintWords Go.Proofs.YtlkfcamogfjngaaW.PrintLast
open Go.Proofs.Ytlkfcamogfjngaa Fr

theorem len_list (s : ByteArray) : s.data.toList.length = s.size := by rw [Array.length_toList]; rfl

/-- The number that bytes are, behind a number. -/
def numF (a : Nat) (l : List UInt8) : Nat := l.foldl (fun a b => a * 256 + b.toNat) a
def num (l : List UInt8) : Nat := numF 0 l
theorem numF_lt (l : List UInt8) : ∀ (a i : Nat), a < 256 ^ i → numF a l < 256 ^ (i + l.length) := by
  induction l with
  | nil => intro a i h; exact h
  | cons b l ih =>
    intro a i h
    have hb := b.toNat_lt
    have := ih (a * 256 + b.toNat) (i + 1) (by rw [Nat.pow_succ]; omega)
    rw [List.length_cons, show i + (l.length + 1) = i + 1 + l.length from by omega]
    exact this
theorem num_lt (l : List UInt8) : num l < 256 ^ l.length := by
  have := numF_lt l 0 0 (by decide)
  rwa [Nat.zero_add] at this

theorem or_byte (a i : Nat) (b : Int) (ha : a < 256 ^ i) (hi : i + 1 ≤ 8) (h0 : 0 ≤ b) (h1 : b ≤ 255) : Go.bits .or .u64 (IntKind.u64.wrap ((a : Int) * 256)) (IntKind.u64.wrap b) = ((a * 256 : Nat) : Int) + b := by
  have hp : 256 ^ i ≤ 256 ^ 7 := Nat.pow_le_pow_right (by decide) (by omega)
  have h7 : (256 : Nat) ^ 7 = 72057594037927936 := by decide
  have h56 : (2 : Nat) ^ 64 = 18446744073709551616 := by decide
  have h56' : (2 : Int) ^ 64 = 18446744073709551616 := by decide
  rw [show (a : Int) * 256 = ((a * 256 : Nat) : Int) from by omega, u64_nat _ (by omega), IntWalk.u64_in b (by omega)]
  refine bits_join .u64 64 (by decide) (fun n h0 h1 => IntWalk.u64_in n (by omega)) 8 _ _ (by omega) ?_ (by omega) h0 (by show b < 256; omega) (by omega)
  show ((a * 256 : Nat) : Int) % 256 = 0
  omega
theorem take_loop (x rest : ByteArray) (e : Int) (hx : x.size ≤ 8) (d : Nat) : ∀ (k i a : Nat), i + d = x.size → a < 256 ^ i →
    pack_Taker_Take.l0 (k + d + 1) x (a : Int) (x.size : Int) (i : Int) rest e = some (((numF a (x.data.toList.drop i) : Nat) : Int), rest, e) := by
  induction d with
  | zero =>
    intro k i a hi ha
    rw [pack_Taker_Take.l0, if_neg (by omega), List.drop_eq_nil_of_le (by rw [len_list]; omega)]
    rfl
  | succ d ih =>
    intro k i a hi ha
    have hlt : i < x.size := by omega
    have hb := bt_range x (i : Int)
    have hbl := Crc.bt_list x i hlt
    rw [show k + (d + 1) + 1 = (k + d + 1) + 1 from by omega, pack_Taker_Take.l0, if_pos (by omega), if_pos (by omega), if_pos (by omega), or_byte a i _ ha (by omega) hb.1 hb.2, hbl,
      w64 _ (by omega)]
    have h2 := (x.data.toList[i]'(by rw [len_list]; exact hlt)).toNat_lt
    rw [Crc.drop_cons x i hlt]
    have h3 := ih k (i + 1) (a * 256 + (x.data.toList[i]'(by rw [len_list]; exact hlt)).toNat) (by omega) (by rw [Nat.pow_succ]; omega)
    rw [show (((a * 256 + (x.data.toList[i]'(by rw [len_list]; exact hlt)).toNat : Nat)) : Int) = ((a * 256 : Nat) : Int) + (((x.data.toList[i]'(by rw [len_list]; exact hlt)).toNat : Nat) : Int) from by omega] at h3
    exact h3
theorem take_tells (n : Nat) (s : ByteArray) (k : Nat) (hn : n = 1 ∨ n = 2 ∨ n = 4 ∨ n = 8) (hs : n ≤ s.size) (hk : 20 ≤ k) :
    pack_Taker_Take.f k s 0 (n : Int) = some (((num (s.data.toList.take n) : Nat) : Int), s.extract n s.size, 0) := by
  obtain ⟨m, rfl⟩ : ∃ m, k = m + n + 1 + 2 := ⟨k - n - 3, by omega⟩
  have hz : pack_size.f (n : Int) = some true := by
    unfold pack_size.f
    rcases hn with rfl | rfl | rfl | rfl <;> rfl
  have hx : (s.extract 0 n).size = n := by rw [ByteArray.size_extract]; omega
  unfold pack_Taker_Take.f
  rw [if_pos rfl, hz]
  simp only [Option.bind_some]
  rw [show m + n + 1 + 2 = (m + n + 1 + 1) + 1 from rfl, pack_Taker_Take.j0, if_neg (by decide), pack_Taker_Take.j1]
  unfold pack_Taker_bytes.f
  rw [if_pos rfl, if_neg (by omega), if_pos (by omega), if_pos (by omega), Int.toNat_natCast]
  simp only [Option.bind_some]
  have h := take_loop (s.extract 0 n) (s.extract n s.size) 0 (by omega) n m 0 0 (by omega) (by decide)
  rw [if_pos trivial]
  rw [hx] at h
  rw [show ((s.extract 0 n).size : Int) = (n : Int) from by omega]
  rw [Crc.ext_take, List.drop_zero] at h
  exact h

theorem prefix_tells (a b : ByteArray) : strings_HasPrefix.f a b = some (decide (b.data.toList.length ≤ a.data.toList.length ∧ a.data.toList.take b.data.toList.length = b.data.toList)) := by
  unfold strings_HasPrefix.f stringslite_HasPrefix.f
  rw [len_list, len_list]
  by_cases h : b.size ≤ a.size
  · rw [if_pos (by omega), if_pos (by omega), if_pos (by omega), Int.toNat_natCast, Go.ByteArray.toList_eq, Go.ByteArray.toList_eq, Crc.ext_take]
    by_cases h2 : a.data.toList.take b.size = b.data.toList <;> simp [h, h2]
  · rw [if_neg (by omega)]
    simp [h]

def magic : List UInt8 := [80, 79, 68, 67]
/-- What Open tells. -/
def openP (s : List UInt8) : Nat × List UInt8 × Nat :=
  if s.take 4 = magic.take s.length then
    if s.length < 9 then (0, [], 1)
    else if 4194304 < num ((s.drop 5).take 4) then (0, [], 2)
    else if s.length < num ((s.drop 5).take 4) + 13 then (0, [], 1)
    else if num ((s.drop 5).take 4) + 13 < s.length then (0, [], 6)
    else if s.drop (num ((s.drop 5).take 4) + 9) = be4 (Crc.sum ((s.drop 4).take (num ((s.drop 5).take 4) + 5))).toNat then ((s.getD 4 0).toNat, (s.drop 9).take (num ((s.drop 5).take 4)), 0)
    else (0, [], 5)
  else (0, [], 3)

/-! The document's Put, Close and Open. -/
def beN : Nat → Nat → List UInt8
  | 0, _ => []
  | d + 1, v => beN d (v / 256) ++ [UInt8.ofNat (v % 256)]
theorem rput_loop (n : Nat) (hn : n ≤ 8) (d : Nat) : ∀ (k v i : Nat) (s : ByteArray), i + d = n → v < 18446744073709551616 → s.size + d ≤ 100 →
    bosunref02_Put.l0 (k + d + 1) (n : Int) (v : Int) s (i : Int) = some (tx (beN d v) ++ s) := by
  induction d with
  | zero =>
    intro k v i s hi hv hs
    rw [bosunref02_Put.l0, if_neg (by omega)]
    rw [← tx_of s, tx_app]
    rfl
  | succ d ih =>
    intro k v i s hi hv hs
    have h1 : (Int.tmod (v : Int) 256) % 256 = ((v % 256 : Nat) : Int) := by rw [Int.tmod_eq_emod_of_nonneg (by omega)]; omega
    have h2 : Int.tdiv (v : Int) 256 = ((v / 256 : Nat) : Int) := by rw [Int.tdiv_eq_ediv_of_nonneg (by omega)]; omega
    have hz : (strOfNums [((v % 256 : Nat) : Int)]).size = 1 := by rw [strOfNums_size]; rfl
    rw [show k + (d + 1) + 1 = (k + d + 1) + 1 from by omega, bosunref02_Put.l0, if_pos (by omega), h1, h2]
    simp only [Option.bind_some]
    rw [if_pos (by omega), u64_nat _ (by omega), w64 _ (by omega)]
    have h3 := ih k (v / 256) (i + 1) (strOfNums [((v % 256 : Nat) : Int)] ++ s) (by omega) (by omega) (by rw [ByteArray.size_append]; omega)
    rw [show (((i + 1 : Nat)) : Int) = (i : Int) + 1 from by omega] at h3
    rw [h3, ← ByteArray.append_assoc, show strOfNums [((v % 256 : Nat) : Int)] = tx [UInt8.ofNat (v % 256)] from rfl, tx_app]
    rfl
theorem rput4 (k v : Nat) (hv : v < 18446744073709551616) (hk : 10 ≤ k) : bosunref02_Put.f k 4 (v : Int) = some (tx (be4 v)) := by
  obtain ⟨m, rfl⟩ : ∃ m, k = m + 4 + 1 + 1 := ⟨k - 6, by omega⟩
  unfold bosunref02_Put.f
  rw [if_neg (by decide), if_neg (by decide), if_pos rfl, bosunref02_Put.j0, if_neg (by decide)]
  have h := rput_loop 4 (by omega) 4 m v 0 (tx []) (by omega) hv (by decide)
  rw [show ((4 : Nat) : Int) = 4 from rfl, show ((0 : Nat) : Int) = 0 from rfl] at h
  rw [show (⟨#[]⟩ : ByteArray) = tx [] from rfl, h, tx_app]
  rw [List.append_nil, show beN 4 v = be4 v from by
    simp only [beN, be4, Nat.div_div_eq_div_mul, List.nil_append, List.cons_append]]
theorem rclose_tells (k : Nat) (ver : Nat) (p : ByteArray) (hp : p.size ≤ 4194304) (hk : 10 * p.size + 100 ≤ k) :
    bosunref03_Close.f k (ver : Int) p = some (tx ([80, 79, 68, 67] ++ ([UInt8.ofNat ver] ++ be4 p.size ++ p.data.toList) ++ be4 (Crc.sum ([UInt8.ofNat ver] ++ be4 p.size ++ p.data.toList)).toNat)) := by
  have hs4 := tx_size (be4 p.size)
  have hl4 : (be4 p.size).length = 4 := rfl
  have hs1 : (tx [UInt8.ofNat ver]).size = 1 := rfl
  have hb : (tx [UInt8.ofNat ver] ++ tx (be4 p.size) ++ p) = tx ([UInt8.ofNat ver] ++ be4 p.size ++ p.data.toList) := by
    rw [← tx_of p, tx_app, tx_app, tx_of p]
  have hz := tx_size (be4 (Crc.sum ([UInt8.ofNat ver] ++ be4 p.size ++ p.data.toList)).toNat)
  have hlz : (be4 (Crc.sum ([UInt8.ofNat ver] ++ be4 p.size ++ p.data.toList)).toNat).length = 4 := rfl
  have hlt := (Crc.sum ([UInt8.ofNat ver] ++ be4 p.size ++ p.data.toList)).isLt
  have hbz : (tx ([UInt8.ofNat ver] ++ be4 p.size ++ p.data.toList)).size = p.size + 5 := by
    rw [← hb, ByteArray.size_append, ByteArray.size_append]
    omega
  unfold bosunref03_Close.f
  simp only [Option.bind_some]
  rw [u64_nat p.size (by omega), rput4 k p.size (by omega) (by omega)]
  simp only [Option.bind_some]
  rw [show strOfNums [(ver : Int)] = tx [UInt8.ofNat ver] from rfl, if_pos (by omega), if_pos (by omega), if_pos (by omega), hb, Crc.ref_tells _ (by omega) k (by omega)]
  simp only [Option.bind_some]
  rw [tx_list, u64_nat _ (by omega), rput4 k _ (by omega) (by omega)]
  simp only [Option.bind_some]
  rw [if_pos (by omega), show ((⟨#[80, 79, 68, 67]⟩ : ByteArray)) = tx [80, 79, 68, 67] from rfl, tx_app, tx_app]

theorem be4_num (a b c d : UInt8) : be4 (num [a, b, c, d]) = [a, b, c, d] := by
  have h1 := a.toNat_lt
  have h2 := b.toNat_lt
  have h3 := c.toNat_lt
  have h4 := d.toNat_lt
  have e : num [a, b, c, d] = ((a.toNat * 256 + b.toNat) * 256 + c.toNat) * 256 + d.toNat := by
    unfold num numF
    simp only [List.foldl_cons, List.foldl_nil, Nat.zero_mul, Nat.zero_add]
  unfold be4
  rw [e]
  have e1 : (((a.toNat * 256 + b.toNat) * 256 + c.toNat) * 256 + d.toNat) / 16777216 % 256 = a.toNat := by omega
  have e2 : (((a.toNat * 256 + b.toNat) * 256 + c.toNat) * 256 + d.toNat) / 65536 % 256 = b.toNat := by omega
  have e3 : (((a.toNat * 256 + b.toNat) * 256 + c.toNat) * 256 + d.toNat) / 256 % 256 = c.toNat := by omega
  have e4 : (((a.toNat * 256 + b.toNat) * 256 + c.toNat) * 256 + d.toNat) % 256 = d.toNat := by omega
  rw [e1, e2, e3, e4, UInt8.ofNat_toNat, UInt8.ofNat_toNat, UInt8.ofNat_toNat, UInt8.ofNat_toNat]

/-- Nine bytes at the front. -/
theorem nine (l : List UInt8) (h : 9 ≤ l.length) : ∃ a0 a1 a2 a3 a4 a5 a6 a7 a8 r, l = a0 :: a1 :: a2 :: a3 :: a4 :: a5 :: a6 :: a7 :: a8 :: r := by
  match l, h with
  | a0 :: a1 :: a2 :: a3 :: a4 :: a5 :: a6 :: a7 :: a8 :: r, _ => exact ⟨a0, a1, a2, a3, a4, a5, a6, a7, a8, r, rfl⟩
theorem bt_get (s : ByteArray) (l : List UInt8) (h : s.data.toList = l) (i : Nat) (hi : i < l.length) : bt s (i : Int) = ((l[i].toNat : Nat) : Int) := by
  subst h
  exact Crc.bt_list s i (by rw [← len_list]; exact hi)

theorem w64n (n : Nat) (h : n ≤ 9223372036854775807) : wrap64 (n : Int) = (n : Int) := by unfold wrap64; omega
theorem four (a b c d : Nat) (ha : a < 256) (hb : b < 256) (hc : c < 256) (hd : d < 256) :
    wrap64 (wrap64 (wrap64 (wrap64 (wrap64 (a : Int) * 16777216) + wrap64 (wrap64 (b : Int) * 65536)) + wrap64 (wrap64 (c : Int) * 256)) + wrap64 (d : Int)) = ((((a * 256 + b) * 256 + c) * 256 + d : Nat) : Int) := by
  rw [w64n a (by omega), w64n b (by omega), w64n c (by omega), w64n d (by omega),
    show (a : Int) * 16777216 = ((a * 16777216 : Nat) : Int) from by omega, show (b : Int) * 65536 = ((b * 65536 : Nat) : Int) from by omega, show (c : Int) * 256 = ((c * 256 : Nat) : Int) from by omega,
    w64n _ (by omega), w64n _ (by omega), w64n _ (by omega), ← Int.natCast_add, w64n _ (by omega), ← Int.natCast_add, w64n _ (by omega), ← Int.natCast_add, w64n _ (by omega)]
  omega
theorem num_four (a b c d : UInt8) : num [a, b, c, d] = ((a.toNat * 256 + b.toNat) * 256 + c.toNat) * 256 + d.toNat := by
  unfold num numF
  simp only [List.foldl_cons, List.foldl_nil, Nat.zero_mul, Nat.zero_add]
theorem ropen_rest (k : Nat) (s : ByteArray) (i : Int) (hs : s.size ≤ 140737488351232) (hk : 10 * s.size + 200 ≤ k) (hm : s.data.toList.take 4 = magic.take s.data.toList.length) :
    bosunref03_Open.j1 (k + 1) s i false = some (((openP s.data.toList).1 : Int), tx (openP s.data.toList).2.1, ((openP s.data.toList).2.2 : Int)) := by
  have hlen := len_list s
  rw [bosunref03_Open.j1, if_neg (by decide)]
  by_cases h9 : s.size < 9
  · have ho : openP s.data.toList = (0, [], 1) := by unfold openP; rw [if_pos hm, if_pos (by omega)]
    rw [ho, if_pos (by omega)]
    rfl
  rw [if_neg (by omega)]
  obtain ⟨a0, a1, a2, a3, a4, a5, a6, a7, a8, r, hl⟩ := nine s.data.toList (by omega)
  have hll : s.size = r.length + 9 := by rw [← hlen, hl]; rfl
  have b4 : bt s 4 = ((a4.toNat : Nat) : Int) := bt_get s _ hl 4 (by simp)
  have b5 : bt s 5 = ((a5.toNat : Nat) : Int) := bt_get s _ hl 5 (by simp)
  have b6 : bt s 6 = ((a6.toNat : Nat) : Int) := bt_get s _ hl 6 (by simp)
  have b7 : bt s 7 = ((a7.toNat : Nat) : Int) := bt_get s _ hl 7 (by simp)
  have b8 : bt s 8 = ((a8.toNat : Nat) : Int) := bt_get s _ hl 8 (by simp)
  rw [b5, b6, b7, b8, four _ _ _ _ a5.toNat_lt a6.toNat_lt a7.toNat_lt a8.toNat_lt, ← num_four]
  have hd : num ((s.data.toList.drop 5).take 4) = num [a5, a6, a7, a8] := by rw [hl]; rfl
  have hN : num [a5, a6, a7, a8] < 256 ^ 4 := num_lt [a5, a6, a7, a8]
  rw [show (256 : Nat) ^ 4 = 4294967296 from by decide] at hN
  have hbe := be4_num a5 a6 a7 a8
  clear b5 b6 b7 b8
  generalize num [a5, a6, a7, a8] = n at *
  rw [if_pos (by omega), if_pos (by omega), if_pos (by omega), if_pos (by omega)]
  by_cases q1 : 4194304 < n
  · have ho : openP s.data.toList = (0, [], 2) := by unfold openP; rw [if_pos hm, if_neg (by omega), hd, if_pos q1]
    rw [ho, if_pos (by omega)]
    rfl
  have e13 : wrap64 (13 + (n : Int)) = ((n + 13 : Nat) : Int) := by unfold wrap64; omega
  have e9 : wrap64 (9 + (n : Int)) = ((n + 9 : Nat) : Int) := by unfold wrap64; omega
  rw [if_neg (by omega), e13, e9]
  by_cases q2 : s.size < n + 13
  · have ho : openP s.data.toList = (0, [], 1) := by unfold openP; rw [if_pos hm, if_neg (by omega), hd, if_neg q1, if_pos (by omega)]
    rw [ho, if_pos (by omega)]
    rfl
  rw [if_neg (by omega)]
  by_cases q3 : n + 13 < s.size
  · have ho : openP s.data.toList = (0, [], 6) := by unfold openP; rw [if_pos hm, if_neg (by omega), hd, if_neg q1, if_neg (by omega), if_pos (by omega)]
    rw [ho, if_pos (by omega)]
    rfl
  have hp : (s.extract 9 (n + 9)).size = n := by rw [ByteArray.size_extract]; omega
  have hpl : (s.extract 9 (n + 9)).data.toList = r.take n := by rw [Crc.ext_mid, hl]; rfl
  rw [if_neg (by omega), if_pos (by omega), if_pos (by omega), if_pos (by omega), b4, Int.toNat_natCast, rclose_tells k a4.toNat _ (by omega) (by omega), hp, hpl, UInt8.ofNat_toNat, hbe]
  simp only [Option.bind_some]
  have hR : r.length = n + 4 := by omega
  have g1 : s.data.toList.drop (n + 9) = r.drop n := by rw [hl]; rfl
  have g2 : (s.data.toList.drop 4).take (n + 5) = [a4] ++ [a5, a6, a7, a8] ++ r.take n := by rw [hl]; rfl
  have g3 : (s.data.toList.drop 9).take n = r.take n := by rw [hl]; rfl
  have g4 : s.data.toList.getD 4 0 = a4 := by rw [hl]; rfl
  have g5 : s.data.toList = magic ++ ([a4] ++ [a5, a6, a7, a8] ++ r.take n) ++ r.drop n := by
    have h4 : s.data.toList.take 4 = [a0, a1, a2, a3] := by rw [hl]; rfl
    have h5 : magic.take s.data.toList.length = magic := List.take_of_length_le (by rw [hlen]; show 4 ≤ s.size; omega)
    rw [h4, h5] at hm
    rw [← hm, hl]
    simp
  have hiff : (tx ([80, 79, 68, 67] ++ ([a4] ++ [a5, a6, a7, a8] ++ r.take n) ++ be4 (Crc.sum ([a4] ++ [a5, a6, a7, a8] ++ r.take n)).toNat) = s) ↔ r.drop n = be4 (Crc.sum ([a4] ++ [a5, a6, a7, a8] ++ r.take n)).toNat := by
    constructor
    · intro h
      have h2 : s.data.toList = [80, 79, 68, 67] ++ ([a4] ++ [a5, a6, a7, a8] ++ r.take n) ++ be4 (Crc.sum ([a4] ++ [a5, a6, a7, a8] ++ r.take n)).toNat := by rw [← h]; rfl
      rw [g5] at h2
      exact List.append_cancel_left h2
    · intro h
      apply Crc.eq_list
      rw [g5, ← h]
      rfl
  have hiff2 := Crc.eq_toList.trans hiff
  by_cases q4 : r.drop n = be4 (Crc.sum ([a4] ++ [a5, a6, a7, a8] ++ r.take n)).toNat
  · have ho : openP s.data.toList = (a4.toNat, r.take n, 0) := by
      unfold openP
      rw [if_pos hm, if_neg (by omega), hd, if_neg q1, if_neg (by omega), if_neg (by omega), g1, g2, g3, g4, if_pos q4]
    rw [ho, if_pos (hiff2.mpr q4), ← hpl, tx_of]
    rfl
  · have ho : openP s.data.toList = (0, [], 5) := by
      unfold openP
      rw [if_pos hm, if_neg (by omega), hd, if_neg q1, if_neg (by omega), if_neg (by omega), g1, g2, if_neg q4]
    rw [ho, if_neg (fun h => q4 (hiff2.mp h))]
    rfl
def okAt (l : List UInt8) (i : Nat) : Prop := (l.drop i).take (4 - i) = (magic.drop i).take (l.length - i)
instance (l : List UInt8) (i : Nat) : Decidable (okAt l i) := inferInstanceAs (Decidable (_ = _))
theorem ropen_scan (s : ByteArray) (K : Nat) (q : Int × ByteArray × Int) (d : Nat) : ∀ (k i : Nat), i + d = 4 → K + 2 * d + 10 ≤ k → (okAt s.data.toList i → ∀ k i, K ≤ k → bosunref03_Open.j1 (k + 1) s i false = some q) →
    bosunref03_Open.l0 k s (i : Int) = if okAt s.data.toList i then some q else some (0, tx [], 3) := by
  induction d with
  | zero =>
    intro k i hi hk hq
    obtain rfl : i = 4 := by omega
    obtain ⟨m, rfl⟩ : ∃ m, k = m + 1 + 1 := ⟨k - 2, by omega⟩
    have hok : okAt s.data.toList 4 := by simp [okAt, magic]
    rw [bosunref03_Open.l0, if_neg (by omega), hq hok m _ (by omega), if_pos hok]
  | succ d ih =>
    intro k i hi hk hq
    obtain ⟨m, rfl⟩ : ∃ m, k = m + 1 + 1 := ⟨k - 2, by omega⟩
    have hlen := len_list s
    rw [bosunref03_Open.l0, if_pos (by omega)]
    by_cases hlt : i < s.size
    · have hbt := Crc.bt_list s i hlt
      have hmt : bt (⟨#[80, 79, 68, 67]⟩ : ByteArray) (i : Int) = (((magic[i]'(by show i < 4; omega)).toNat : Nat) : Int) := bt_get _ _ rfl i (by show i < 4; omega)
      rw [decide_eq_true (by omega), bosunref03_Open.j1, if_pos rfl, if_pos (by omega), if_pos (by omega), if_pos (by omega), hbt, hmt, w64 _ (by omega)]
      have hcut : okAt s.data.toList i ↔ (s.data.toList[i]'(by rw [hlen]; exact hlt) = magic[i]'(by show i < 4; omega)) ∧ okAt s.data.toList (i + 1) := by
        unfold okAt
        rw [Crc.drop_cons s i hlt, show magic.drop i = (magic[i]'(by show i < 4; omega)) :: magic.drop (i + 1) from List.drop_eq_getElem_cons (by show i < 4; omega),
          show 4 - i = (4 - (i + 1)) + 1 from by omega, show s.data.toList.length - i = (s.data.toList.length - (i + 1)) + 1 from by omega, List.take_succ_cons, List.take_succ_cons, List.cons.injEq]
      by_cases he : s.data.toList[i]'(by rw [hlen]; exact hlt) = magic[i]'(by show i < 4; omega)
      · have h3 := ih m (i + 1) (by omega) (by omega) (fun h => hq (hcut.mpr ⟨he, h⟩))
        rw [show (((i + 1 : Nat)) : Int) = (i : Int) + 1 from by omega] at h3
        rw [h3, he, if_pos rfl]
        by_cases ho : okAt s.data.toList (i + 1)
        · rw [if_pos ho, if_pos (hcut.mpr ⟨he, ho⟩)]
        · rw [if_neg ho, if_neg (fun h => ho (hcut.mp h).2)]
      · have hne : ¬ ((((s.data.toList[i]'(by rw [hlen]; exact hlt)).toNat : Nat) : Int) = (((magic[i]'(by show i < 4; omega)).toNat : Nat) : Int)) := fun h => he (UInt8.toNat_inj.mp (by omega))
        rw [if_neg hne, if_neg (fun h => he (hcut.mp h).1)]
        rfl
    · have hok : okAt s.data.toList i := by
        unfold okAt
        rw [List.drop_eq_nil_of_le (by omega), show s.data.toList.length - i = 0 from by omega]
        simp
      rw [decide_eq_false (by omega), hq hok m _ (by omega), if_pos hok]
theorem ropen_tells (k : Nat) (s : ByteArray) (hs : s.size ≤ 140737488351232) (hk : 10 * s.size + 300 ≤ k) :
    bosunref03_Open.f k s = some (((openP s.data.toList).1 : Int), tx (openP s.data.toList).2.1, ((openP s.data.toList).2.2 : Int)) := by
  unfold bosunref03_Open.f
  have hk0 : okAt s.data.toList 0 ↔ s.data.toList.take 4 = magic.take s.data.toList.length := by simp [okAt]
  have h := ropen_scan s (10 * s.size + 200) _ 4 k 0 (by omega) (by omega) (fun ho k i hk => ropen_rest k s i hs hk (hk0.mp ho))
  rw [show ((0 : Nat) : Int) = 0 from rfl] at h
  rw [h]
  by_cases hm : okAt s.data.toList 0
  · rw [if_pos hm]
  · rw [if_neg hm]
    unfold openP
    rw [if_neg (fun h => hm (hk0.mpr h))]
    rfl
end Go.Proofs.Ytlkfcamogfjngaa.Op
